/- Parts of the proof of CStreamsGone: F14, F15, F17, La, Lb, F19, Lc, F26, F27, F28, Le. No conditions. -/
import Derived.Test.YtlonlnagmfdlbaaGreatDoorM7
namespace Go.Sy
open Go.Proofs
theorem results_cellA {cf:Cf} {σ:Snap} {env:Env} {hp:HP} {A:List AE} {β:Nat->Addr} {a:Act} {w:World} {T:List (Nat×TI)} (hT:TTok cf.P T) (ha:StA cf env β a) (hw:StW cf σ hp A β w) {fn:Func} {p t:Nat} {ti:TI} {g off i:Nat} {E:AE} {v:Value}
    (hr:fn.results=#[.cell p t]) (hp':env.get p=some (.a (.v (.pointer (some ⟨g,off,none⟩))))) (ht:tget T t=some ti) (hag:ti.agg=false) (hi:A[i]?=some E) (hE:E.ao=some ⟨g,0,none⟩) (hv:E.xs[off]?=some v) :
    (results fn a.tmps).run cf.P w=.ok v w:=by
  obtain ⟨inf,d',z,hs⟩:=tiOf_spec (hT _ _ ht)
  have hcell:=(hw.arr i E hi).cell hE hv
  have hx:a.tmps.getD p undef=.pointer (some ⟨g,off,none⟩):=evalO_eval (x:=.tmp p) ha hp'
  have hload:(load ⟨g,off,none⟩).run cf.P w=.ok v w:=by rw [run_load,hcell]
  rw [results_eq,hr,Array.mapM_eq_mapM_toList,Sem.run_bind,Sem.run_map]
  simp only [List.mapM_cons,List.mapM_nil,Sem.run_bind,Sem.run_pure,resOne,hx,asAddr,loadVar,Result.andThen_ok,run_isAgg hs.und,hs.agg,hag,Bool.false_eq_true,if_false,hload]
  rfl
theorem nj_mretA {P:Program} {w0:World} {σ0:Snap} {M:Nat->Prop} {N:Nat} {T:List (Nat×TI)} {fn:Func} {Post:Value->World->Snap->Prop} {σ:Snap} {env:Env} {hp:HP} {A:List AE} {nh:Nat} {D:Nat} (hD:σ D=some (.deferred (some []))) (h0:σ0 D=none) (hT:TTok P T)
    {p t:Nat} {ti:TI} {g off:Nat} (i:Nat) {E:AE} (v:Value) (hr:fn.results=#[.cell p t]) (hp':env.get p=some (.a (.v (.pointer (some ⟨g,off,none⟩))))) (ht:tget T t=some ti) (hag:ti.agg=false) (hi:A[i]?=some E) (hE:E.ao=some ⟨g,0,none⟩) (hv:E.xs[off]?=some v)
    (h:∀ w,Post v w (σ.set D none)) :
    NJ ⟨P,w0,σ0,M,N,[markD D],none⟩ .ret (bodyPostM (FR none) 0 P fn (postR w0 M σ0 Post)) σ env hp A nh:=⟨fun hb a β w ha hw=>by
  show LeavesInM (FR none) 0 P fn a.tmps _ a.defers .returning w
  rw [ha.defers]
  have hfin:StW ⟨P,w0,σ0,M,N,[],none⟩ (σ.set D none) hp A β (w.putObj D (.deferred none)):=(hw.swap (w':=w.putObj D (.deferred none)) none (hw.sealed _ _ hD) rfl h0 (hw.own_of hD h0) rfl rfl rfl (by simp) (fun c hc=>World.putObj_heap_other hc) fun _ e=>(by cases e)).re _ _ _
  have ha':StA ⟨P,w0,σ0,M,N,[],none⟩ env β ⟨a.tmps,[]⟩:=⟨ha.size,rfl,ha.env⟩
  refine ⟨by simp,.inl ⟨D,_,rfl,run_takeDeferred (hw.sealed _ _ hD),_,results_cellA (cf:=⟨P,w0,σ0,M,N,[],none⟩) hT ha' hfin hr hp' ht hag hi hE hv,_,σ.set D none,rfl,Fr.of hfin,SGrow.of hfin,hfin.sealed,h _⟩⟩⟩
theorem cell_DL {σ:Snap} {D l:Nat} {r:Loop} (hDl:D≠l) (hD:σ D=none) (hl:σ l=none) (a:Addr):((σ.set D (some (.deferred (some [])))).set l (some (.loop r))).cell a=σ.cell a:=by
  rw [Snap.cell_set (fun o e=>by rw [Snap.set_ne (Ne.symm hDl),hl] at e;cases e) (fun o e=>by injection e with e;subst e;rfl),Snap.cell_set (fun o e=>by rw [hD] at e;cases e) (fun o e=>by injection e with e;subst e;rfl)]
theorem okRd_of {rd:Option Nat} {ops:Array Oper} (h:ops.toList.all noDefer=true):okRd rd ops=true:=by
  cases rd with
  | none=>rfl
  | some l=>simp only [okRd];rw [<-Array.all_toList];exact h
theorem IterC.mono {P:Program} {f:FuncId} {args:Array Value} {l:Nat} {σ:Snap} {A:List AE} {Φ Ψ:Value->Snap->List AE->Prop} (h:IterC P f args l σ A Φ) (hi:∀ v s A',Φ v s A'->Ψ v s A'):IterC P f args l σ A Ψ :=
  fun w hw=>Calls.mono (h w hw) fun _ _ ⟨v,σ',A',h1,h2,h3⟩=>⟨v,σ',A',h1,h2,hi _ _ _ h3⟩
structure NeS where
  k:Nat
  ro:List GRec
  last:Int
  oo:Option Addr
  oc:Nat
def neA (oo:Option Addr) (oc:Nat) (ro:List GRec):List AE:=[⟨oo,ro.length,oc,130,11,recXs ro.reverse⟩]
def boxE (g e:Nat) (v:Value):AE:=⟨some ⟨g,0,none⟩,1,1,e,1,[v]⟩
set_option maxRecDepth 100000 in
set_option maxHeartbeats 4000000 in
theorem nested_c (σ:Snap) (L:List GRec) (hL:L.length<=100000) (ao:Option Addr) (cap:Nat) (H:SlAt σ ao L.length cap 11 (recRows L)) :
    PlainS Tryz.prog 151 [.a (.v (.slice ao L.length cap))] σ (fun v=>v=.bool (nestedG L)):=by
  refine enter_mp Tryz.func151 rfl rfl (by (repeat' (first | exact trivial | constructor))) fun w=>?_
  refine cj_nilarr 130 11 ?_
  (repeat (first | refine cj_seq ?_ | refine cjr TT rfl ?_ | refine oj_then ?_ | refine cj_block ?_))
  refine cj_cutB (fun (_:NeS)=>σ) (fun s=>[(0,.a (.v (.slice ao L.length cap))),(2,.a (.p 0 0)),(3,.a (.v (.slice s.oo s.ro.length s.oc))),(4,.a (.p 1 0))]) (fun s=>[(0,.loc 4,[.ff]),(1,.loc 3,[.v (.int .i64 s.last)])]) (fun s=>neA s.oo s.oc s.ro) 2
    (fun s=>(closeAll s.ro s.last&&decide (0<(L.length:Int)))=nestedG L/\s.ro.length<=s.oc/\s.ro.length<=L.length) ?_ (fun ⟨_,ro,last,oo,oc⟩ ⟨hne,hc,hrl⟩=>?_)
  · refine cj_loop (fun (_:NeS)=>σ) (fun s=>[(0,.a (.v (.slice ao L.length cap))),(2,.a (.p 0 0)),(3,.a (.v (.slice s.oo s.ro.length s.oc))),(4,.a (.p 1 0)),(10,.a (.v (.slice ao L.length cap))),(11,.a (.v (.int .i64 L.length))),(12,.a (.v (.int .i64 s.k)))])
      (fun s=>[(0,.loc 4,[.ff]),(1,.loc 3,[.v (.int .i64 s.last)])]) (fun s=>neA s.oo s.oc s.ro) 2
      (fun s=>s.k<=L.length/\(nestFrom s.k s.ro s.last (L.drop s.k)&&decide (0<(L.length:Int)))=nestedG L/\s.ro.length<=s.oc/\s.ro.length<=s.k) (fun s=>L.length - s.k) ⟨0,[],-1,none,0⟩ ⟨Nat.zero_le _,rfl,Nat.le_refl _,Nat.le_refl _⟩ rfl (by (repeat first | exact trivial | refine ⟨rfl,?_⟩)) (by (repeat first | exact trivial | refine ⟨rfl,?_⟩)) rfl (by (repeat' (first | exact trivial | exact Nat.le_of_ble_eq_true rfl | constructor))) (by (repeat' (first | exact trivial | exact Nat.le_of_ble_eq_true rfl | refine AllLt.of ?_ | constructor))) fun ⟨k,ro,last,oo,oc⟩ ⟨hk,hne,hc,hrk⟩=>?_
    dsimp only at hk hne hc hrk ⊢
    (repeat (first | refine cj_seq ?_ | refine cjr TT rfl ?_ | refine oj_then ?_))
    refine cj_if rfl (fun h=>?_) (fun h=>?_)
    rotate_left
    · have hk0:k=L.length:=by have:=of_decide_eq_false h;omega
      subst hk0
      rw [List.drop_length,nestFrom] at hne
      (repeat (first | refine cj_exit ?_ | refine nj_then_exit ?_ | refine nj_block_out ?_))
      refine nj_again ⟨L.length,ro,last,oo,oc⟩ ⟨hne,hc,hrk⟩ Nat.zero_lt_one rfl (by (repeat first | exact trivial | refine ⟨rfl,?_⟩)) (by (repeat first | exact trivial | refine ⟨rfl,?_⟩)) rfl (by (repeat' (first | exact trivial | exact Nat.le_of_ble_eq_true rfl | constructor))) (by (repeat' (first | exact trivial | exact Nat.le_of_ble_eq_true rfl | refine AllLt.of ?_ | constructor)))
    have hkl:k<L.length:=by have:=of_decide_eq_true h;omega
    have hrow:(recRows L)[k]?=some (recCells L[k]):=recRows_get (List.getElem?_eq_getElem hkl)
    rw [List.drop_eq_getElem_cons hkl] at hne
    generalize L[k]=x at *
    rw [nestFrom] at hne
    have bad:(x.lv<0\/(ro.length:Int)<x.lv\/(decide (x.lv=0) != decide ((k:Int)=0))=true)->nestedG L=false:=fun h=>by rw [if_pos h] at hne;exact hne.symm
    (repeat (first | refine cj_seq ?_ | refine cjr TT rfl ?_ | refine cj_skip ?_ | refine cj_block ?_ | refine nj_then ?_))
    refine oj_idx TT rfl rfl rfl rfl rfl rfl rfl rfl rfl H (by omega) hrow (oj_run TT rfl ?_)
    (repeat (first | refine cj_seq ?_ | refine cjr TT rfl ?_ | refine oj_then ?_))
    refine oj_split 20 rfl (fun h=>?_) (fun h=>?_)
    · refine oj_run TT rfl ?_
      (repeat (first | refine cj_seq ?_ | refine cjr TT rfl ?_ | refine oj_then ?_ | refine cj_if_t rfl ?_ | refine cj_ret ?_ | refine nj_then_ret ?_ | refine nj_block_ret ?_))
      refine nj_mret0 TT rfl fun β w' _ _=>?_
      rw [bad (.inl (of_decide_eq_true h))]
      rfl
    have hlv0:0<=x.lv:=by have:=of_decide_eq_false h;omega
    refine oj_run TT rfl ?_
    refine oj_split 27 rfl (fun h=>?_) (fun h=>?_)
    · refine oj_run TT rfl ?_
      (repeat (first | refine cj_seq ?_ | refine cjr TT rfl ?_ | refine oj_then ?_ | refine cj_if_t rfl ?_ | refine cj_ret ?_ | refine nj_then_ret ?_ | refine nj_block_ret ?_))
      refine nj_mret0 TT rfl fun β w' _ _=>?_
      rw [bad (.inr (.inl (of_decide_eq_true h)))]
      rfl
    have hlv1:x.lv<=ro.length:=by have:=of_decide_eq_false h;omega
    refine oj_run TT rfl ?_
    (repeat refine oj_then ?_)
    refine cj_if rfl (fun h=>?_) (fun h=>?_)
    · (repeat (first | refine cj_seq ?_ | refine cjr TT rfl ?_ | refine oj_then ?_ | refine cj_ret ?_ | refine nj_then_ret ?_ | refine nj_block_ret ?_))
      refine nj_mret0 TT rfl fun β w' _ _=>?_
      rw [bad (.inr (.inr h))]
      rfl
    have hlv2:(decide (x.lv=0) != decide ((k:Int)=0))=false:=h
    rw [if_neg (by rw [hlv2];intro hh;rcases hh with hh | hh | hh<;>first | omega | cases hh)] at hne
    clear bad
    refine cj_skip (nj_then (cj_seq (cj_block ?_)))
    refine cj_cutB (fun (_:NeS)=>σ) (fun s=>[(0,.a (.v (.slice ao L.length cap))),(2,.a (.p 0 0)),(3,.a (.v (.slice oo s.ro.length oc))),(4,.a (.p 1 0)),(6,.a (.p 3 0)),(10,.a (.v (.slice ao L.length cap))),(11,.a (.v (.int .i64 L.length))),(12,.a (.v (.int .i64 k)))])
      (fun s=>[(0,.loc 4,[.ff]),(1,.loc 3,[.v (.int .i64 s.last)]),(3,.loc 130,recCells x)]) (fun s=>neA oo oc s.ro) 4
      (fun s=>closeTo x.lv ro last=some (s.ro,s.last)/\s.ro.length<=ro.length) ?_ (fun ⟨_,ro1,last1,_,_⟩ ⟨hcl,hr1⟩=>?_)
    · refine cj_loop (fun (_:NeS)=>σ) (fun s=>[(0,.a (.v (.slice ao L.length cap))),(2,.a (.p 0 0)),(3,.a (.v (.slice oo s.ro.length oc))),(4,.a (.p 1 0)),(6,.a (.p 3 0)),(10,.a (.v (.slice ao L.length cap))),(11,.a (.v (.int .i64 L.length))),(12,.a (.v (.int .i64 k)))])
        (fun s=>[(0,.loc 4,[.ff]),(1,.loc 3,[.v (.int .i64 s.last)]),(3,.loc 130,recCells x)]) (fun s=>neA oo oc s.ro) 4
        (fun s=>closeTo x.lv s.ro s.last=closeTo x.lv ro last/\s.ro.length<=ro.length) (fun s=>s.ro.length) ⟨k,ro,last,oo,oc⟩ ⟨rfl,Nat.le_refl _⟩ rfl (by (repeat first | exact trivial | refine ⟨rfl,?_⟩)) (by (repeat first | exact trivial | refine ⟨rfl,?_⟩)) rfl (by (repeat' (first | exact trivial | exact Nat.le_of_ble_eq_true rfl | constructor))) (by (repeat' (first | exact trivial | exact Nat.le_of_ble_eq_true rfl | refine AllLt.of ?_ | constructor))) fun ⟨_,ro1,last1,_,_⟩ ⟨hcl,hr1⟩=>?_
      dsimp only at hcl hr1 ⊢
      (repeat (first | refine cj_seq ?_ | refine cjr TT rfl ?_ | refine oj_then ?_))
      refine cj_if rfl (fun h=>?_) (fun h=>?_)
      rotate_left
      · have hlt:¬ x.lv<ro1.length:=of_decide_eq_false h
        have hsome:closeTo x.lv ro last=some (ro1,last1):=by
          rw [<-hcl]
          cases ro1 with
          | nil=>rfl
          | cons t ro2 =>
            simp only [List.length_cons] at hlt
            rw [closeTo,if_neg (by omega)]
        (repeat (first | refine cj_exit ?_ | refine nj_then_exit ?_ | refine nj_block_out ?_))
        refine nj_again ⟨k,ro1,last1,oo,oc⟩ ⟨hsome,hr1⟩ Nat.zero_lt_one rfl (by (repeat first | exact trivial | refine ⟨rfl,?_⟩)) (by (repeat first | exact trivial | refine ⟨rfl,?_⟩)) rfl (by (repeat' (first | exact trivial | exact Nat.le_of_ble_eq_true rfl | constructor))) (by (repeat' (first | exact trivial | exact Nat.le_of_ble_eq_true rfl | refine AllLt.of ?_ | constructor)))
      have hlt:x.lv<ro1.length:=of_decide_eq_true h
      cases ro1 with
      | nil=>simp only [List.length_nil] at hlt;omega
      | cons t ro2 =>
      simp only [List.length_cons] at hlt hr1
      rw [closeTo,if_pos (by omega)] at hcl
      have hlen:(t::ro2).length=ro2.length+1:=rfl
      have htop:(t::ro2).reverse[ro2.length]?=some t:=by rw [List.reverse_cons,List.getElem?_append_right (by simp)];simp
      (repeat (first | refine cj_seq ?_ | refine cjr TT rfl ?_ | refine cj_skip ?_ | refine cj_block ?_ | refine nj_then ?_ | (refine oj_minus rfl rfl rfl rfl rfl rfl (by omega) ?_;refine oj_run TT rfl ?_)))
      refine oj_arrAt 0 (E:=⟨oo,(t::ro2).length,oc,130,11,recXs (t::ro2).reverse⟩) rfl (Nat.succ_pos _) fun g1 hg1=>?_
      have hg1:oo=some ⟨g1,0,none⟩:=hg1
      subst hg1
      refine oj_indexAddr TT rfl rfl rfl rfl rfl rfl rfl rfl rfl ⟨by rw [hlen];omega,by omega⟩ (oj_run TT rfl ?_)
      refine oj_ldAs 0 (off:=ro2.length*11) TT (recCells t) rfl rfl rfl rfl rfl ?_ rfl rfl rfl rfl rfl ?_ (recCells_lt _ _) (oj_run TT rfl ?_)
      · show some (SV.a (AT.v (.pointer (some (Addr.add ⟨g1,0,none⟩ ((((t::ro2).length:Int) - 1).toNat*11))))))=_
        rw [add0,show (((t::ro2).length:Int) - 1).toNat=ro2.length by rw [hlen];omega]
      · intro j c hj
        exact recXs_get htop hj
      (repeat (first | refine cj_seq ?_ | refine cjr TT rfl ?_ | refine oj_then ?_))
      refine cj_if rfl (fun h=>?_) (fun h=>?_)
      · rw [if_pos (of_decide_eq_true h)] at hcl
        rw [<-hcl] at hne
        (repeat (first | refine cj_seq ?_ | refine cjr TT rfl ?_ | refine oj_then ?_ | refine cj_ret ?_ | refine nj_then_ret ?_ | refine nj_block_ret ?_))
        refine nj_mret0 TT rfl fun β w' _ _=>?_
        rw [<-hne]
        rfl
      rw [if_neg (of_decide_eq_false h)] at hcl
      (repeat (first | refine cj_seq ?_ | refine cjr TT rfl ?_ | refine oj_then ?_ | refine cj_skip ?_ | refine nj_then ?_ | (refine oj_minus rfl rfl rfl rfl rfl rfl (by omega) ?_;refine oj_run TT rfl ?_)))
      refine oj_slice_to TT ro2.length rfl rfl rfl rfl rfl rfl rfl rfl rfl (by rw [hlen];omega) (by omega) (by rw [hlen];omega) (oj_run TT rfl ?_)
      have hcut:[(⟨some ⟨g1,0,none⟩,(t::ro2).length,oc,130,11,recXs (t::ro2).reverse⟩:AE)].set 0 (AE.cut ⟨some ⟨g1,0,none⟩,(t::ro2).length,oc,130,11,recXs (t::ro2).reverse⟩ ro2.length)=neA (some ⟨g1,0,none⟩) oc ro2:=by
        show [_]=[_]
        unfold AE.cut
        congr 2
        rw [List.reverse_cons,recXs_append,List.take_append_of_le_length (by rw [recXs_len,List.length_reverse];exact Nat.le_refl _),List.take_of_length_le (by rw [recXs_len,List.length_reverse];exact Nat.le_refl _)]
      refine oj_cutArr 0 ro2.length rfl rfl (Nat.le_succ _) hcut ?_
      (repeat (first | refine oj_nil ?_ | refine nj_block ?_))
      refine nj_again ⟨k,ro2,t.en,some ⟨g1,0,none⟩,oc⟩ ⟨hcl,by dsimp only;omega⟩ (Nat.lt_succ_self _) rfl (by (repeat first | exact trivial | refine ⟨rfl,?_⟩)) (by (repeat first | exact trivial | refine ⟨rfl,?_⟩)) rfl (by (repeat' (first | exact trivial | exact Nat.le_of_ble_eq_true rfl | constructor))) (by (repeat' (first | exact trivial | exact Nat.le_of_ble_eq_true rfl | refine AllLt.of ?_ | constructor)))
    dsimp only at hcl hr1 ⊢
    rw [hcl] at hne
    dsimp only at hne
    (repeat (first | refine cj_seq ?_ | refine cjr TT rfl ?_ | refine oj_then ?_))
    refine cj_if rfl (fun h=>?_) (fun h=>?_)
    · rw [if_pos (of_decide_eq_true h),Bool.false_and] at hne
      (repeat (first | refine cj_seq ?_ | refine cjr TT rfl ?_ | refine oj_then ?_ | refine cj_ret ?_ | refine nj_then_ret ?_ | refine nj_block_ret ?_))
      refine nj_mret0 TT rfl fun β w' _ _=>?_
      rw [<-hne]
      rfl
    rw [if_neg (of_decide_eq_false h)] at hne
    (repeat (first | refine cj_seq ?_ | refine cjr TT rfl ?_ | refine oj_then ?_ | refine cj_skip ?_ | refine nj_then ?_))
    refine oj_append_lit TT 0 rfl rfl rfl rfl rfl rfl rfl rfl rfl rfl rfl rfl rfl rfl rfl rfl rfl rfl (by (repeat' (first | exact trivial | refine AllLt.of ?_ | constructor))) rfl (by omega) (by show (ro1.length+1)*112<=_;omega) fun ao' cap' hcap'=>oj_run TT rfl ?_
    (repeat (first | refine cjr TT rfl ?_ | refine oj_nil ?_ | refine nj_then ?_ | refine nj_block ?_ | (refine oj_add rfl rfl rfl rfl rfl rfl (by omega) ?_;refine oj_run TT rfl ?_)))
    refine nj_again ⟨k+1,x::ro1,x.st,ao',cap'⟩ ⟨hkl,hne,hcap',by dsimp only [List.length_cons];omega⟩ (by dsimp only;omega) rfl (by (repeat first | exact trivial | refine ⟨rfl,?_⟩)) (by (repeat first | exact trivial | refine ⟨rfl,?_⟩)) ?_ (by (repeat' (first | exact trivial | exact Nat.le_of_ble_eq_true rfl | constructor))) (by (repeat' (first | exact trivial | exact Nat.le_of_ble_eq_true rfl | refine AllLt.of ?_ | constructor)))
    unfold neA
    dsimp only
    rw [List.reverse_cons,recXs_append]
    rfl
  dsimp only at hne hc hrl ⊢
  refine cj_seal 0 rfl rfl fun σ1 hle1 hS=>?_
  have HS:SlAt σ1 oo ro.length oc 11 (recRows ro.reverse):=hS.sl (rows:=recRows ro.reverse) rfl (fun r hr=>⟨(recRows_all _ r hr).1,(recRows_all _ r hr).2.1⟩) (by rw [recRows_len,List.length_reverse]) rfl hc
  (repeat (first | refine cj_seq ?_ | refine cjr TT rfl ?_))
  refine oj_callS rfl rfl rfl rfl rfl Tryz.call209 (by (repeat' (first | exact trivial | constructor))) (backward_c σ1 oo ro.length oc) fun v σ2 hle2 ⟨g,hv,hg⟩=>⟨.a (.fn (.func 233) [.val (.pointer (some ⟨g,0,none⟩))]),(fun x hx=>by simp at hx;subst hx;trivial),hv.symm,oj_run TT rfl ?_⟩
  refine oj_nil (nj_then (cj_block ?_))
  refine cj_own 0 1 1 rfl (by (repeat' (first | exact trivial | refine AllLt.of ?_ | constructor))) rfl (by decide) fun gr=>?_
  refine cj_own 1 1 1 rfl (by (repeat' (first | exact trivial | refine AllLt.of ?_ | constructor))) rfl (by decide) fun gl=>?_
  refine cj_sub (env':=[(0,.a (.v (.slice ao L.length cap))),(2,.a (.v (.pointer (some ⟨gr,0,none⟩)))),(4,.a (.v (.pointer (some ⟨gl,0,none⟩)))),(69,.a (.fn (.func 233) [.val (.pointer (some ⟨g,0,none⟩))]))]) (hp':=[]) (subE_of (by (repeat first | exact trivial | refine ⟨rfl,?_⟩))) (subH_of trivial) ?_
  have hlr:ro.length=ro.reverse.length:=(List.length_reverse).symm
  let Inv:Nat->AE->AE->Prop:=fun m G1 G2=>G1=boxE gr 4 (.bool false)/\∃ la:Int,G2=boxE gl 3 (.int .i64 la)/\closeAll (ro.reverse.take m).reverse la=closeAll ro last
  let Stop:Nat->Snap->AE->AE->Prop:=fun l s G1 _=>G1=boxE gr 4 (.bool false)/\closeAll ro last=false/\∃ r',s l=some (.loop r')/\r'.state=.done/\r'.pending=some .ret
  refine cj_rangeFunc [0,1] (A0:=[boxE gr 4 (.bool false),boxE gl 3 (.int .i64 last)]) (Ar:=[]) rfl rfl rfl ⟨trivial,trivial⟩ ⟨trivial,trivial,trivial,(fun x hx=>by simp at hx;subst hx;trivial),trivial⟩ Tryz.call233
    (fun D l r v s A=>(r.state=.ready/\r.pending=none)/\∃ G1 G2,A=[G1,G2]/\((s l=some (.loop r)/\Inv 0 G1 G2)\/Stop l s G1 G2)) (fun fid D l tmps hts hte hDl hD hl hl0=>?_) (fun D l r v s A ⟨⟨hst,hpe⟩,G1,G2,hA,hh⟩ hD0 hl0 hsD hcle hle=>?_)
  · have hcell:=fun r=>cell_DL (r:=r) hDl hD hl
    refine IterC.mono (Φ:=fun _ s A=>∃ G1 G2,A=[G1,G2]/\((s l=some (.loop _)/\Inv 0 G1 G2)\/Stop l s G1 G2)) ?_ fun v s A h=>⟨⟨rfl,rfl⟩,h⟩
    refine backwardIt_c _ l _ g oo oc ro.reverse (by omega) _ _ Inv (Stop l) (Snap.set_self ..) rfl (by rw [hcell,<-hlr];exact hg) ((by rw [<-hlr];exact HS:SlAt σ1 oo ro.reverse.length oc 11 (recRows ro.reverse)).monoC fun a v hv=>by rw [hcell];exact hle2.cell hv) ⟨rfl,last,rfl,by rw [List.take_length,List.reverse_reverse]⟩
      fun k hk s F1 F2 hsl hsb ⟨h1,la,h2,hcl⟩=>?_
    subst h1;subst h2
    rw [List.take_succ_eq_append_getElem hk,List.reverse_append,List.reverse_singleton,List.singleton_append,closeAll] at hcl
    generalize ro.reverse[k]=y at *
    refine roundC_of (N:=Tryz.f151.ntmps) (env:=[(0,.a (.v (.slice ao L.length cap))),(2,.a (.v (.pointer (some ⟨gr,0,none⟩)))),(4,.a (.v (.pointer (some ⟨gl,0,none⟩)))),(69,.a (.fn (.func 233) [.val (.pointer (some ⟨g,0,none⟩))]))]) hts hte [70,71] rfl rfl rfl ⟨trivial,recCells_lt _ _,trivial⟩
      ⟨trivial,trivial,trivial,(fun x hx=>by simp at hx;subst hx;trivial),trivial⟩ fun w'=>?_
    dsimp only
    (repeat (first | (refine cj_region ?_ (okRd_of rfl);refine oj_run TT rfl ?_) | refine oj_nil ?_))
    refine nj_begin hsl rfl (Snap.set_self ..) ?_
    (repeat (first | refine cj_seq ?_ | (refine cj_region ?_ (okRd_of rfl);refine oj_run TT rfl ?_) | refine cj_block ?_))
    refine oj_ldA 1 (c:=.v (.int .i64 la)) TT rfl rfl rfl rfl rfl rfl rfl rfl rfl rfl rfl trivial (oj_run TT rfl ?_)
    (repeat refine oj_then ?_)
    refine cj_if rfl (fun h=>?_) (fun h=>?_)
    · rw [if_pos (of_decide_eq_true h)] at hcl
      (repeat (first | refine cj_seq ?_ | (refine cj_region ?_ (okRd_of rfl);refine oj_run TT rfl ?_)))
      refine oj_stA 0 (A':=[boxE gr 4 (.bool false),boxE gl 3 (.int .i64 la)]) (c:=.ff) TT rfl rfl rfl rfl rfl rfl rfl rfl rfl rfl Nat.zero_lt_one trivial rfl rfl (oj_run TT rfl ?_)
      (repeat (first | refine oj_then ?_ | refine cj_ret ?_ | refine nj_then_ret ?_ | refine nj_block_ret ?_))
      refine nj_rndR (Snap.set_self ..) ?_
      exact ⟨_,_,rfl,.inr ⟨rfl,rfl,hcl.symm,_,Snap.set_self ..,rfl,rfl⟩⟩
    · rw [if_neg (of_decide_eq_false h)] at hcl
      (repeat (first | (refine cj_region ?_ (okRd_of rfl);refine oj_run TT rfl ?_) | refine cj_skip ?_ | refine nj_then ?_))
      refine oj_stA 1 (A':=[boxE gr 4 (.bool false),boxE gl 3 (.int .i64 y.en)]) (c:=.v (.int .i64 y.en)) TT rfl rfl rfl rfl rfl rfl rfl rfl rfl rfl Nat.zero_lt_one trivial rfl rfl (oj_run TT rfl ?_)
      (repeat (first | refine oj_nil ?_ | refine nj_block ?_))
      refine nj_rndN (Snap.set_self ..) ?_
      exact ⟨_,_,rfl,.inl ⟨rfl,Snap.set_self ..,rfl,_,rfl,hcl⟩⟩
  · subst hA
    rcases hh with ⟨hsl,h1,la,h2,hcl⟩ | ⟨h1,hcl,r',hsl,hst',hpe'⟩
    · have hDl:D≠l:=fun e=>by subst e;rw [hsD] at hsl;cases hsl
      subst h1;subst h2
      refine ⟨r,hsl,by rw [hst];exact fun h=>(by cases h),?_⟩
      rw [hpe]
      dsimp only
      have hcl:closeAll ro last=true:=hcl.symm
      rw [hcl,Bool.true_and] at hne
      (repeat (first | refine cj_seq ?_ | refine cjr TT rfl ?_ | refine nj_then ?_ | refine nj_block ?_))
      refine oj_stA 0 (A':=[boxE gr 4 (.bool (decide (0<(L.length:Int)))),boxE gl 3 (.int .i64 la)]) (c:=.b (decide (0<(L.length:Int)))) TT rfl rfl rfl rfl rfl rfl rfl rfl rfl rfl Nat.zero_lt_one trivial rfl rfl (oj_run TT rfl ?_)
      (repeat (first | refine oj_then ?_ | refine cj_ret ?_))
      refine nj_mretA (by rw [Snap.set_ne hDl];exact hsD) hD0 TT 0 (.bool (decide (0<(L.length:Int)))) rfl rfl rfl rfl rfl rfl rfl fun w=>?_
      rw [hne]
    · have hDl:D≠l:=fun e=>by subst e;rw [hsD] at hsl;cases hsl
      subst h1
      refine ⟨r',hsl,by rw [hst'];exact fun h=>(by cases h),?_⟩
      rw [hpe']
      dsimp only
      rw [hcl,Bool.false_and] at hne
      (repeat (first | refine cj_ret ?_ | refine nj_then_ret ?_ | refine nj_block_ret ?_))
      refine nj_mretA (by rw [Snap.set_ne hDl];exact hsD) hD0 TT 0 (.bool false) rfl rfl rfl rfl rfl rfl rfl fun w=>?_
      rw [<-hne]
end Go.Sy
namespace Go.Sy
open Go.Proofs
def buildR (L:List GRec):GVal×Int :=
  if 4096<L.length\/nestedG L=false\/namedG L=false\/1099511627776<(L.head?.map GRec.en).getD 0 then (gval0,2)
  else if sane (buildG L).1≠0 then (gval0,2)
  else ((buildG L).1,0)
def soundG (L:List GRec):Bool:=decide ((buildR L).2=0)
theorem rep0 (σ:Snap):RepV σ gval0 (vCells gval0 none 0 none 0):=by
  simp only [RepV,gval0]
  exact ⟨none,0,[],none,0,[],rfl,SlAt.nil _ _ _ _,rfl,rfl,SlAt.nil _ _ _ _,rfl,by decide,by decide,by decide,by decide,fun k h=>(by cases h)⟩
set_option maxRecDepth 100000 in
set_option maxHeartbeats 2000000 in
theorem Build_c (σ:Snap) (L:List GRec) (hL:L.length<=mostLen) (hF:RecsFit L) (hbw:nestedG L=true->(buildG L).1.weight<=1000000) (ao:Option Addr) (cap:Nat) (H:SlAt σ ao L.length cap 11 (recRows L)) :
    PureS Tryz.prog 79 [.a (.v (.slice ao L.length cap))] σ (fun v σ'=>∃ r,v=(SV.tup [.agg r,.a (.v (.int .i64 (buildR L).2))]).den β0/\RepV σ' (buildR L).1 r):=by
  simp only [mostLen] at hL
  have bad:(4096<L.length\/nestedG L=false\/namedG L=false\/1099511627776<(L.head?.map GRec.en).getD 0)->buildR L=(gval0,2):=fun h=>by unfold buildR;rw [if_pos h]
  refine enter_s Tryz.func79 rfl rfl (by (repeat' (first | exact trivial | constructor))) fun w=>?_
  (repeat (first | refine cj_seq ?_ | refine cjr TT rfl ?_ | refine oj_then ?_))
  refine oj_split 9 rfl (fun h=>?_) (fun h=>?_)
  · rw [bad (.inl (by have:=of_decide_eq_true h;omega))]
    refine oj_run TT rfl ?_
    (repeat (first | refine cj_seq ?_ | refine cjr TT rfl ?_ | refine oj_then ?_ | refine cj_if_t rfl ?_ | refine cj_ret ?_ | refine nj_then_ret ?_))
    refine nj_ret TT rfl fun β w' _ _=>?_
    exact ⟨vCells gval0 none 0 none 0,rfl,rep0 σ⟩
  have h1:¬ 4096<L.length:=by have:=of_decide_eq_false h;omega
  refine oj_run TT rfl ?_
  refine oj_callP rfl rfl rfl rfl rfl Tryz.call151 (by (repeat' (first | exact trivial | constructor))) (nested_c σ L (by omega) ao cap H) fun v hv=>⟨.a (.b (nestedG L)),trivial,hv.symm,?_⟩
  refine oj_run TT rfl ?_
  refine oj_split 14 rfl (fun h=>?_) (fun h=>?_)
  · rw [bad (.inr (.inl (by simpa using h)))]
    refine oj_run TT rfl ?_
    (repeat (first | refine cj_seq ?_ | refine cjr TT rfl ?_ | refine oj_then ?_ | refine cj_if_t rfl ?_ | refine cj_ret ?_ | refine nj_then_ret ?_))
    refine nj_ret TT rfl fun β w' _ _=>?_
    exact ⟨vCells gval0 none 0 none 0,rfl,rep0 σ⟩
  have h2:nestedG L=true:=by simpa using h
  have hpos:0<L.length:=by
    unfold nestedG at h2
    simp only [Bool.and_eq_true,decide_eq_true_eq] at h2
    omega
  have hlev:levelsOk 0 L:=by
    unfold nestedG at h2
    simp only [Bool.and_eq_true] at h2
    exact nest_levels L 0 [] (-1) h2.1
  refine oj_run TT rfl ?_
  refine oj_callP rfl rfl rfl rfl rfl Tryz.call152 (by (repeat' (first | exact trivial | constructor))) (named_c σ L (by omega) ao cap H hlev) fun v hv=>⟨.a (.b (namedG L)),trivial,hv.symm,?_⟩
  refine oj_run TT rfl ?_
  refine oj_split 19 rfl (fun h=>?_) (fun h=>?_)
  · rw [bad (.inr (.inr (.inl (by simpa using h))))]
    refine oj_run TT rfl ?_
    (repeat (first | refine cj_seq ?_ | refine cjr TT rfl ?_ | refine oj_then ?_ | refine cj_if_t rfl ?_ | refine cj_ret ?_ | refine nj_then_ret ?_))
    refine nj_ret TT rfl fun β w' _ _=>?_
    exact ⟨vCells gval0 none 0 none 0,rfl,rep0 σ⟩
  have h3:namedG L=true:=by simpa using h
  have hrow:(recRows L)[0]?=some (recCells L[0]):=recRows_get (List.getElem?_eq_getElem hpos)
  have hhead:(L.head?.map GRec.en).getD 0=L[0].en:=by rw [List.head?_eq_getElem?,List.getElem?_eq_getElem hpos];rfl
  refine oj_run TT rfl ?_
  refine oj_idx TT rfl rfl rfl rfl rfl rfl rfl rfl rfl H (by omega) hrow (oj_run TT rfl ?_)
  (repeat refine oj_then ?_)
  refine cj_if rfl (fun h=>?_) (fun h=>?_)
  · rw [bad (.inr (.inr (.inr (by rw [hhead];exact of_decide_eq_true h))))]
    (repeat (first | refine cj_seq ?_ | refine cjr TT rfl ?_ | refine oj_then ?_ | refine cj_ret ?_ | refine nj_then_ret ?_))
    refine nj_ret TT rfl fun β w' _ _=>?_
    exact ⟨vCells gval0 none 0 none 0,rfl,rep0 σ⟩
  have h4:¬ 1099511627776<L[0].en:=of_decide_eq_false h
  have hB:buildR L=if sane (buildG L).1≠0 then (gval0,2) else ((buildG L).1,0):=by
    unfold buildR
    rw [if_neg]
    rintro (hh | hh | hh | hh)
    · exact h1 hh
    · rw [h2] at hh;cases hh
    · rw [h3] at hh;cases hh
    · rw [hhead] at hh;exact h4 hh
  rw [hB]
  (repeat (first | refine cj_seq ?_ | refine cjr TT rfl ?_ | refine oj_then ?_ | refine cj_skip ?_ | refine nj_then ?_))
  refine oj_own 2 1 2 rfl (by (repeat' (first | exact trivial | refine AllLt.of ?_ | constructor))) rfl (by decide) fun gb=>?_
  refine oj_callF [0] (A0:=[bE gb ao L.length cap (0:Nat)]) (Ar:=[]) rfl rfl rfl rfl rfl rfl rfl Tryz.call153 (by (repeat' (first | exact trivial | constructor))) (builder_c L hF (by omega) ao cap (enough L) σ 0 gb H hpos (by unfold enough;rw [List.drop_zero];omega)) fun v σ1 A1 hle1 ⟨r,k',hv,hrep,_,_,_,hA⟩=>⟨.agg r,hrep.clo,hv.symm,?_⟩
  subst hA
  rw [List.drop_zero] at hrep
  have hrep:RepV σ1 (buildG L).1 r:=hrep
  have hbw:=hbw h2
  generalize (buildG L).1=gx at *
  obtain ⟨xla,xlc,xlrows,xma,xmc,xvrows,rfl,XV⟩:=hrep.open
  refine oj_run TT rfl ?_
  (repeat (first | refine cj_seq ?_ | refine cjr TT rfl ?_ | refine oj_then ?_))
  refine oj_callP rfl rfl rfl rfl rfl Tryz.call60 (by (repeat' (first | exact trivial | exact vCells_lt _ _ _ _ _ _ | constructor))) (Sane_c σ1 gx _ XV.rep hbw) fun v hv=>⟨.a (.v (.int .i64 (sane gx))),trivial,hv.symm,?_⟩
  refine oj_run TT rfl ?_
  (repeat refine oj_then ?_)
  refine cj_if rfl (fun h=>?_) (fun h=>?_)
  · have h5:sane gx≠0:=by simpa using h
    rw [if_pos h5]
    (repeat (first | refine cj_seq ?_ | refine cjr TT rfl ?_ | refine oj_then ?_ | refine cj_ret ?_ | refine nj_then_ret ?_))
    refine nj_ret TT rfl fun β w' _ _=>?_
    exact ⟨vCells gval0 none 0 none 0,rfl,rep0 σ1⟩
  · have h5:sane gx=0:=by simpa using h
    rw [if_neg (by simp [h5])]
    (repeat (first | refine cj_seq ?_ | refine cjr TT rfl ?_ | refine oj_then ?_ | refine cj_skip ?_ | refine cj_ret ?_ | refine nj_then ?_))
    refine nj_ret TT rfl fun β w' _ _=>?_
    exact ⟨vCells gx xla xlc xma xmc,rfl,hrep⟩
set_option maxRecDepth 100000 in
set_option maxHeartbeats 1000000 in
theorem Sound_c (σ:Snap) (L:List GRec) (hL:L.length<=mostLen) (hF:RecsFit L) (hbw:nestedG L=true->(buildG L).1.weight<=1000000) (ao:Option Addr) (cap:Nat) (H:SlAt σ ao L.length cap 11 (recRows L)) :
    PlainS Tryz.prog 105 [.a (.v (.slice ao L.length cap))] σ (fun v=>v=.bool (soundG L)):=by
  refine enter_p Tryz.func105 rfl rfl (by (repeat' (first | exact trivial | constructor))) fun w=>?_
  (repeat (first | refine cj_seq ?_ | refine cjr TT rfl ?_ | refine oj_then ?_))
  refine oj_callS rfl rfl rfl rfl rfl Tryz.call79 ⟨trivial,trivial⟩ (Build_c σ L hL hF hbw ao cap H) fun v σ1 hle ⟨r,hv,hrep⟩=>⟨.tup [.agg r,.a (.v (.int .i64 (buildR L).2))],SV.lt_tup ⟨hrep.clo,trivial,trivial⟩,hv.symm,?_⟩
  obtain ⟨xla,xlc,xlrows,xma,xmc,xvrows,rfl,XV⟩:=hrep.open
  refine oj_run TT rfl ?_
  (repeat (first | refine cj_seq ?_ | refine cjr TT rfl ?_ | refine oj_then ?_ | refine cj_ret ?_))
  refine nj_ret TT rfl fun β w' _ _=>?_
  rfl
end Go.Sy
namespace Go.Sy
open Go.Proofs
structure RecsOk (L:List GRec):Prop where
  len:L.length<=mostLen
  fit:RecsFit L
  bw:nestedG L=true->(buildG L).1.weight<=1000000
end Go.Sy
/- Plain laws on a value's records: they are nested, named, and the value is built of them again. No program in sight. -/
namespace Go.Sy
def stE (φ:Int->Int) (r:GRec):GRec:=⟨φ r.st,φ r.en,r.lv,r.kd,r.nm,r.name,r.b,r.n,r.s⟩
def Incr (φ:Int->Int):Prop:=∀ a b,0<=a->a<b->φ a<φ b
theorem stE_id:stE (fun x=>x)=id:=by funext r;rfl
mutual
def kindOk:GVal->Prop
  | .mk k _ _ _ l _ vs=>(l≠[]->k≠5)/\(vs≠[]->k=5)/\kindOks l/\kindOks vs
def kindOks:List GVal->Prop
  | []=>True
  | g::gs=>kindOk g/\kindOks gs
end
theorem fields_kind {g:GVal} (h:fieldsG g=true):(g.l≠[]->g.kind=4)/\(g.ks≠[]->g.kind=5):=by
  have key:∀ (P:Prop) (hl:g.l=[]\/P) (_:g.l≠[]),P:=fun P hl h=>hl.resolve_left h
  by_cases h0:g.kind=0
  · rw [fieldsG_0 h0] at h
    simp only [Bool.and_eq_true,decide_eq_true_eq,List.length_eq_zero_iff] at h
    exact ⟨fun hh=>absurd h.1.2 hh,fun hh=>absurd h.2 hh⟩
  by_cases h1:g.kind=1
  · rw [fieldsG_1 h1] at h
    simp only [Bool.and_eq_true,decide_eq_true_eq,List.length_eq_zero_iff] at h
    exact ⟨fun hh=>absurd h.1.2 hh,fun hh=>absurd h.2 hh⟩
  by_cases h2:g.kind=2
  · rw [fieldsG_2 h2] at h
    simp only [Bool.and_eq_true,decide_eq_true_eq,List.length_eq_zero_iff] at h
    exact ⟨fun hh=>absurd h.1.2 hh,fun hh=>absurd h.2 hh⟩
  by_cases h3:g.kind=3
  · rw [fieldsG_3 h3] at h
    simp only [Bool.and_eq_true,decide_eq_true_eq,List.length_eq_zero_iff] at h
    exact ⟨fun hh=>absurd h.1.2 hh,fun hh=>absurd h.2 hh⟩
  by_cases h4:g.kind=4
  · rw [fieldsG_4 h4] at h
    simp only [Bool.and_eq_true,decide_eq_true_eq,List.length_eq_zero_iff] at h
    exact ⟨fun _=>h4,fun hh=>absurd h.2 hh⟩
  by_cases h5:g.kind=5
  · rw [fieldsG_5 h5] at h
    simp only [Bool.and_eq_true,decide_eq_true_eq,List.length_eq_zero_iff] at h
    exact ⟨fun hh=>absurd h.2 hh,fun _=>h5⟩
  · rw [fieldsG_x h0 h1 h2 h3 h4 h5] at h;cases h
mutual
theorem sane_kind:∀ (g:GVal) (deep c:Int),g.wf->(saneG g deep c).1=0->kindOk g
  | .mk k b n s l ks vs,deep,c,hw,h=>by
    simp only [GVal.wf] at hw
    simp only [saneG] at h
    split at h
    · simp at h
    rename_i hf
    have hf:fieldsG (.mk k b n s l ks vs)=true:=by simpa using hf
    obtain ⟨h1,h2⟩:=fields_kind hf
    simp only [GVal.l,GVal.ks,GVal.kind] at h1 h2
    split at h
    · simp at h
    split at h
    · simp at h
    split at h
    · simp at h
    simp only [kindOk]
    have hl:(saneL l deep (c+1)).1=0:=by
      by_cases h0:(saneL l deep (c+1)).1=0
      · exact h0
      · rw [if_pos h0] at h;exact h
    rw [if_neg (by simp [hl])] at h
    refine ⟨fun hh e=>?_,fun hh=>h2 fun e=>hh ?_,sane_kinds l _ _ hw.2.1 hl,sane_kinds vs _ _ hw.2.2 h⟩
    · have:=h1 hh;omega
    · have:=hw.1
      rw [e] at this
      exact List.eq_nil_of_length_eq_zero this.symm
theorem sane_kinds:∀ (gs:List GVal) (deep c:Int),GVal.wfs gs->(saneL gs deep c).1=0->kindOks gs
  | [],_,_,_,_=>trivial
  | g::gs,deep,c,hw,h=>by
    simp only [GVal.wfs] at hw
    simp only [saneL] at h
    have hg:(saneG g (deep+1) c).1=0:=by
      by_cases h0:(saneG g (deep+1) c).1=0
      · exact h0
      · rw [if_pos h0] at h;exact h
    rw [if_neg (by simp [hg])] at h
    exact ⟨sane_kind g _ _ hw.1 hg,sane_kinds gs _ _ hw.2 h⟩
end
theorem closeTo_same {lv:Int} {ro:List GRec} (e:Int) (h:(ro.length:Int)=lv):closeTo lv ro e=some (ro,e):=by
  cases ro with
  | nil=>rfl
  | cons t ro =>
    simp only [List.length_cons] at h
    rw [closeTo,if_neg (by omega)]
theorem closeTo_suffix:∀ (lv:Int) (ro:List GRec) (last:Int) (p:List GRec×Int),closeTo lv ro last=some p->∃ x,ro=x++p.1
  | lv,[],last,p,h=>by simp only [closeTo,Option.some.injEq] at h;subst h;exact ⟨[],rfl⟩
  | lv,t::ro,last,p,h=>by
    simp only [closeTo] at h
    split at h
    · split at h
      · cases h
      · obtain ⟨x,hx⟩:=closeTo_suffix lv ro t.en p h
        exact ⟨t::x,by rw [hx];rfl⟩
    · simp only [Option.some.injEq] at h;subst h;exact ⟨[],rfl⟩
theorem closeTo_trans:∀ (ro1 ro:List GRec) (last1 last:Int),closeTo ro.length (ro1++ro) last1=some (ro,last)->∀ lv:Int,lv<=ro.length->closeTo lv (ro1++ro) last1=closeTo lv ro last
  | [],ro,last1,last,h,lv,hl=>by
    rw [List.nil_append,closeTo_same last1 rfl] at h
    simp only [Option.some.injEq,Prod.mk.injEq,true_and] at h
    rw [h,List.nil_append]
  | t::ro1,ro,last1,last,h,lv,hl=>by
    simp only [List.cons_append,closeTo,List.length_append] at h ⊢
    rw [if_pos (by omega)] at h ⊢
    split at h
    · cases h
    · rename_i he
      rw [if_neg he]
      exact closeTo_trans ro1 ro t.en last h lv hl
theorem closeAll_of:∀ (ro:List GRec) (last e:Int),closeTo 0 ro last=some ([],e)->closeAll ro last=true
  | [],_,_,_=>rfl
  | t::ro,last,e,h=>by
    simp only [closeTo] at h
    rw [if_pos (by omega)] at h
    split at h
    · cases h
    · rename_i he
      simp only [closeAll,if_neg he]
      exact closeAll_of ro t.en e h
structure AtN (lv:Int) (ro0:List GRec) (last0:Int) (ro:List GRec) (last:Int):Prop where
  cl:closeTo lv ro0 last0=some (ro,last)
  len:(ro.length:Int)=lv
  le:lv<=ro0.length
section
variable {φ:Int->Int} (hφ:Incr φ) {gap:Int} (hg:1<=gap)
include hφ hg
mutual
theorem nestV:∀ (g:GVal) (lv:Int) (nm:Bool) (name:ByteArray) (now:Int) (k:Nat) (ro0 ro:List GRec) (last0 last:Int) (rest:List GRec),AtN lv ro0 last0 ro last->0<=lv->decide (lv=0)=decide ((k:Int)=0)->0<=now->last<φ (now+gap) ->
    ∃ ro1 last1,AtN lv ro1 last1 ro (φ (shredV gap g lv nm name now).2)/\nestFrom k ro0 last0 ((shredV gap g lv nm name now).1.map (stE φ)++rest)=nestFrom (k+(shredV gap g lv nm name now).1.length) ro1 last1 rest
  | .mk kd b n s l ks vs,lv,nm,name,now,k,ro0,ro,last0,last,rest,hA,h0,hk,hn,hl=>by
    simp only [shredV,List.map_cons,List.map_append,List.cons_append,List.append_assoc,nestFrom,stE,List.length_cons,List.length_append]
    have h1:=(shredL_len gap l (lv+1) (now+gap)).2
    have h2:=(shredM_len gap vs ks (lv+1) (shredL gap l (lv+1) (now+gap)).2).2
    have e1:0<=2*gap*((shredL gap l (lv+1) (now+gap)).1.length:Int):=Int.mul_nonneg (by omega) (by omega)
    have e2:0<=2*gap*((shredM gap vs ks (lv+1) (shredL gap l (lv+1) (now+gap)).2).1.length:Int):=Int.mul_nonneg (by omega) (by omega)
    have hlen:=hA.len
    have hle:=hA.le
    rw [if_neg (by rw [hk];simp;omega),hA.cl]
    simp only []
    rw [if_neg (by omega)]
    generalize hr0:(⟨φ (now+gap),φ ((shredM gap vs ks (lv+1) (shredL gap l (lv+1) (now+gap)).2).2+gap),lv,kd,nm,name,b,n,s⟩:GRec)=r0
    have hst:r0.st=φ (now+gap):=by rw [<-hr0]
    have hen:r0.en=φ ((shredM gap vs ks (lv+1) (shredL gap l (lv+1) (now+gap)).2).2+gap):=by rw [<-hr0]
    obtain ⟨ro1,last1,last2,hA1,hl2,he1⟩:=nestL l (lv+1) (now+gap) (k+1) (r0::ro) (r0::ro) (φ (now+gap)) (φ (now+gap)) ((shredM gap vs ks (lv+1) (shredL gap l (lv+1) (now+gap)).2).1.map (stE φ)++rest)
      ⟨closeTo_same _ (by simp only [List.length_cons];omega),by simp only [List.length_cons];omega,by simp only [List.length_cons];omega⟩ (by omega) (Nat.succ_pos k) (by omega) (Int.le_refl _)
    obtain ⟨ro2,last3,last4,hA2,hl4,he2⟩:=nestM vs ks (lv+1) (shredL gap l (lv+1) (now+gap)).2 (k+1+(shredL gap l (lv+1) (now+gap)).1.length) ro1 (r0::ro) last1 last2 rest hA1 (by omega) (by omega) (by omega) hl2
    refine ⟨ro2,last3,⟨?_,hlen,by have:=hA2.le;omega⟩,?_⟩
    · obtain ⟨x,hx⟩:=closeTo_suffix _ _ _ _ hA2.cl
      have hx:ro2=x++(r0::ro):=hx
      have hlr:(((r0::ro).length:Nat):Int)=lv+1:=hA2.len
      have hcl:=hA2.cl
      rw [<-hlr,hx] at hcl
      rw [hx,closeTo_trans x (r0::ro) last3 last4 hcl lv (by omega),closeTo,if_pos (by omega),if_neg,hen]
      · exact closeTo_same _ hlen
      · rw [hen]
        have:=hφ (shredM gap vs ks (lv+1) (shredL gap l (lv+1) (now+gap)).2).2 ((shredM gap vs ks (lv+1) (shredL gap l (lv+1) (now+gap)).2).2+gap) (by omega) (by omega)
        omega
    · rw [he1,he2]
      congr 1
      omega
theorem nestL:∀ (gs:List GVal) (lv:Int) (now:Int) (k:Nat) (ro0 ro:List GRec) (last0 last:Int) (rest:List GRec),AtN lv ro0 last0 ro last->1<=lv->0<k->0<=now->last<=φ now ->
    ∃ ro1 last1 last2,AtN lv ro1 last1 ro last2/\last2<=φ (shredL gap gs lv now).2/\nestFrom k ro0 last0 ((shredL gap gs lv now).1.map (stE φ)++rest)=nestFrom (k+(shredL gap gs lv now).1.length) ro1 last1 rest
  | [],lv,now,k,ro0,ro,last0,last,rest,hA,h0,hk,hn,hl=>⟨ro0,last0,last,hA,hl,rfl⟩
  | g::gs,lv,now,k,ro0,ro,last0,last,rest,hA,h0,hk,hn,hl=>by
    simp only [shredL,List.map_append,List.append_assoc,List.length_append]
    have hinc:=hφ now (now+gap) hn (by omega)
    obtain ⟨h1,h1'⟩:=shredV_len gap g lv false ⟨#[]⟩ now
    have e1:0<=2*gap*((shredV gap g lv false ⟨#[]⟩ now).1.length:Int):=Int.mul_nonneg (by omega) (by omega)
    obtain ⟨ro1,last1,hA1,he1⟩:=nestV g lv false ⟨#[]⟩ now k ro0 ro last0 last ((shredL gap gs lv (shredV gap g lv false ⟨#[]⟩ now).2).1.map (stE φ)++rest) hA (by omega) (by rw [decide_eq_false (by omega),decide_eq_false (by omega)]) hn (by omega)
    obtain ⟨ro2,last3,last4,hA2,hl4,he2⟩:=nestL gs lv (shredV gap g lv false ⟨#[]⟩ now).2 (k+(shredV gap g lv false ⟨#[]⟩ now).1.length) ro1 ro last1 _ rest hA1 h0 (by omega) (by omega) (Int.le_refl _)
    exact ⟨ro2,last3,last4,hA2,hl4,by rw [he1,he2,Nat.add_assoc]⟩
theorem nestM:∀ (gs:List GVal) (ks:List ByteArray) (lv:Int) (now:Int) (k:Nat) (ro0 ro:List GRec) (last0 last:Int) (rest:List GRec),AtN lv ro0 last0 ro last->1<=lv->0<k->0<=now->last<=φ now ->
    ∃ ro1 last1 last2,AtN lv ro1 last1 ro last2/\last2<=φ (shredM gap gs ks lv now).2/\nestFrom k ro0 last0 ((shredM gap gs ks lv now).1.map (stE φ)++rest)=nestFrom (k+(shredM gap gs ks lv now).1.length) ro1 last1 rest
  | [],ks,lv,now,k,ro0,ro,last0,last,rest,hA,h0,hk,hn,hl=>by simp only [shredM];exact ⟨ro0,last0,last,hA,hl,rfl⟩
  | g::gs,[],lv,now,k,ro0,ro,last0,last,rest,hA,h0,hk,hn,hl=>by simp only [shredM];exact ⟨ro0,last0,last,hA,hl,rfl⟩
  | g::gs,nk::ks,lv,now,k,ro0,ro,last0,last,rest,hA,h0,hk,hn,hl=>by
    simp only [shredM,List.map_append,List.append_assoc,List.length_append]
    have hinc:=hφ now (now+gap) hn (by omega)
    obtain ⟨h1,h1'⟩:=shredV_len gap g lv true nk now
    have e1:0<=2*gap*((shredV gap g lv true nk now).1.length:Int):=Int.mul_nonneg (by omega) (by omega)
    obtain ⟨ro1,last1,hA1,he1⟩:=nestV g lv true nk now k ro0 ro last0 last ((shredM gap gs ks lv (shredV gap g lv true nk now).2).1.map (stE φ)++rest) hA (by omega) (by rw [decide_eq_false (by omega),decide_eq_false (by omega)]) hn (by omega)
    obtain ⟨ro2,last3,last4,hA2,hl4,he2⟩:=nestM gs ks lv (shredV gap g lv true nk now).2 (k+(shredV gap g lv true nk now).1.length) ro1 ro last1 _ rest hA1 h0 (by omega) (by omega) (Int.le_refl _)
    exact ⟨ro2,last3,last4,hA2,hl4,by rw [he1,he2,Nat.add_assoc]⟩
end
theorem nested_shred (g:GVal) (nm:Bool) (name:ByteArray) (h0:-1<φ gap):nestedG ((shredV gap g 0 nm name 0).1.map (stE φ))=true:=by
  unfold nestedG
  obtain ⟨ro1,last1,hA,he⟩:=nestV hφ hg g 0 nm name 0 0 [] [] (-1) (-1) [] ⟨rfl,rfl,Int.le_refl _⟩ (Int.le_refl _) rfl (Int.le_refl _) (by rw [Int.zero_add];exact h0)
  rw [List.append_nil] at he
  rw [he,nestFrom,closeAll_of ro1 last1 _ hA.cl,Bool.true_and]
  have:0<(shredV gap g 0 nm name 0).1.length:=by rw [shredV_eq];simp
  simp only [List.length_map]
  exact decide_eq_true (by omega)
end
mutual
theorem namedV (φ:Int->Int) (gap:Int):∀ (g:GVal) (lv:Nat) (nm:Bool) (name:ByteArray) (now:Int) (op o:List Int) (rest:List GRec),kindOk g->op.take lv=o->lv<=op.length->nm=(o.getLast? == some 5)->(nm=false->name=⟨#[]⟩) ->
    ∃ op1,op1.take lv=o/\lv<=op1.length/\namedFrom op ((shredV gap g lv nm name now).1.map (stE φ)++rest)=namedFrom op1 rest
  | .mk kd b n s l ks vs,lv,nm,name,now,op,o,rest,hk,ho,hl,hnm,hna=>by
    simp only [kindOk] at hk
    simp only [shredV,List.map_cons,List.map_append,List.cons_append,List.append_assoc,namedFrom,stE,Int.toNat_natCast,ho]
    have hc:((nm != (o.getLast? == some 5))||(!nm&&!decide (name=⟨#[]⟩)))=false:=by
      rw [<-hnm]
      cases nm with
      | true=>simp
      | false=>simp [hna rfl]
    rw [hc]
    simp only [Bool.false_eq_true,if_false]
    have hol:o.length=lv:=by rw [<-ho,List.length_take];omega
    have hlast:(o++[kd]).getLast?=some kd:=by simp
    have htk:(o++[kd]).take (lv+1)=o++[kd]:=List.take_of_length_le (by simp;omega)
    obtain ⟨op1,h1,h2,h3⟩:=namedL φ gap l (lv+1) (now+gap) (o++[kd]) (o++[kd]) ((shredM gap vs ks ((lv:Int)+1) (shredL gap l ((lv:Int)+1) (now+gap)).2).1.map (stE φ)++rest) hk.2.2.1 htk (by simp;omega) (fun hne=>by rw [hlast];have:=hk.1 hne;simp;exact this)
    obtain ⟨op2,h4,h5,h6⟩:=namedM φ gap vs ks (lv+1) (shredL gap l ((lv:Int)+1) (now+gap)).2 op1 (o++[kd]) rest hk.2.2.2 h1 h2 (fun hne=>by rw [hlast];have:=hk.2.1 hne;simp;exact this)
    refine ⟨op2,?_,by omega,?_⟩
    · have:op2.take lv=(op2.take (lv+1)).take lv:=by rw [List.take_take];congr 1;omega
      rw [this,h4,List.take_append_of_le_length (by omega),List.take_of_length_le (by omega)]
    · exact h3.trans h6
theorem namedL (φ:Int->Int) (gap:Int):∀ (gs:List GVal) (lv:Nat) (now:Int) (op o:List Int) (rest:List GRec),kindOks gs->op.take lv=o->lv<=op.length->(gs≠[]->(o.getLast? == some 5)=false) ->
    ∃ op1,op1.take lv=o/\lv<=op1.length/\namedFrom op ((shredL gap gs lv now).1.map (stE φ)++rest)=namedFrom op1 rest
  | [],lv,now,op,o,rest,hk,ho,hl,hnm=>⟨op,ho,hl,rfl⟩
  | g::gs,lv,now,op,o,rest,hk,ho,hl,hnm=>by
    simp only [kindOks] at hk
    simp only [shredL,List.map_append,List.append_assoc]
    obtain ⟨op1,h1,h2,h3⟩:=namedV φ gap g lv false ⟨#[]⟩ now op o ((shredL gap gs lv (shredV gap g lv false ⟨#[]⟩ now).2).1.map (stE φ)++rest) hk.1 ho hl (hnm (by simp)).symm (fun _=>rfl)
    obtain ⟨op2,h4,h5,h6⟩:=namedL φ gap gs lv (shredV gap g lv false ⟨#[]⟩ now).2 op1 o rest hk.2 h1 h2 (fun _=>hnm (by simp))
    exact ⟨op2,h4,h5,h3.trans h6⟩
theorem namedM (φ:Int->Int) (gap:Int):∀ (gs:List GVal) (ks:List ByteArray) (lv:Nat) (now:Int) (op o:List Int) (rest:List GRec),kindOks gs->op.take lv=o->lv<=op.length->(gs≠[]->(o.getLast? == some 5)=true) ->
    ∃ op1,op1.take lv=o/\lv<=op1.length/\namedFrom op ((shredM gap gs ks lv now).1.map (stE φ)++rest)=namedFrom op1 rest
  | [],ks,lv,now,op,o,rest,hk,ho,hl,hnm=>by simp only [shredM];exact ⟨op,ho,hl,rfl⟩
  | g::gs,[],lv,now,op,o,rest,hk,ho,hl,hnm=>by simp only [shredM];exact ⟨op,ho,hl,rfl⟩
  | g::gs,nk::ks,lv,now,op,o,rest,hk,ho,hl,hnm=>by
    simp only [kindOks] at hk
    simp only [shredM,List.map_append,List.append_assoc]
    obtain ⟨op1,h1,h2,h3⟩:=namedV φ gap g lv true nk now op o ((shredM gap gs ks lv (shredV gap g lv true nk now).2).1.map (stE φ)++rest) hk.1 ho hl (hnm (by simp)).symm (fun h=>by cases h)
    obtain ⟨op2,h4,h5,h6⟩:=namedM φ gap gs ks lv (shredV gap g lv true nk now).2 op1 o rest hk.2 h1 h2 (fun _=>hnm (by simp))
    exact ⟨op2,h4,h5,h3.trans h6⟩
end
theorem named_shred (φ:Int->Int) (gap:Int) (g:GVal) (hk:kindOk g):namedG ((shredV gap g 0 false emptyS 0).1.map (stE φ))=true:=by
  unfold namedG
  obtain ⟨op1,_,_,h⟩:=namedV φ gap g 0 false ⟨#[]⟩ 0 [] [] [] hk rfl (Nat.le_refl _) rfl (fun _=>rfl)
  rw [List.append_nil] at h
  exact h.trans rfl
def behind (lv:Int):List GRec->Prop
  | []=>True
  | r::_=>r.lv<=lv
theorem behind.mono {lv lv':Int} (h:lv<=lv'):∀ {l:List GRec},behind lv l->behind lv' l
  | [],_=>trivial
  | r::_,hb=>by simp only [behind] at hb ⊢;omega
theorem behindV (φ:Int->Int) (gap:Int) (g:GVal) (lv:Int) (nm:Bool) (name:ByteArray) (now:Int) (Y:List GRec):behind lv ((shredV gap g lv nm name now).1.map (stE φ)++Y):=by
  rw [shredV_eq]
  exact Int.le_refl _
theorem behindL (φ:Int->Int) (gap:Int) (gs:List GVal) (lv:Int) (now:Int) (Y:List GRec) (h:behind lv Y):behind lv ((shredL gap gs lv now).1.map (stE φ)++Y):=by
  cases gs with
  | nil=>exact h
  | cons g gs =>
    simp only [shredL,List.map_append,List.append_assoc]
    exact behindV φ gap g lv _ _ now _
theorem behindM (φ:Int->Int) (gap:Int) (gs:List GVal) (ks:List ByteArray) (lv:Int) (now:Int) (Y:List GRec) (h:behind lv Y):behind lv ((shredM gap gs ks lv now).1.map (stE φ)++Y):=by
  cases gs with
  | nil=>simp only [shredM];exact h
  | cons g gs =>
    cases ks with
    | nil=>simp only [shredM];exact h
    | cons k ks =>
      simp only [shredM,List.map_append,List.append_assoc]
      exact behindV φ gap g lv _ _ now _
theorem kids_step (φ:Int->Int) (gap:Int) (g:GVal) (lv:Int) (nm:Bool) (name:ByteArray) (now:Int) (n:Nat) (X:List GRec) (h:buildN n ((shredV gap g (lv+1) nm name now).1.map (stE φ)++X)=(g,X)) :
    kidsN (n+1) lv ((shredV gap g (lv+1) nm name now).1.map (stE φ)++X)=if nm then ⟨(kidsN n lv X).ls,name::(kidsN n lv X).ks,g::(kidsN n lv X).vs,(kidsN n lv X).rest⟩ else ⟨g::(kidsN n lv X).ls,(kidsN n lv X).ks,(kidsN n lv X).vs,(kidsN n lv X).rest⟩:=by
  rw [shredV_eq] at h ⊢
  simp only [List.map_cons,List.cons_append] at h ⊢
  rw [kidsN,h,if_pos (by simp only [stE];omega)]
  rfl
mutual
theorem buildV (φ:Int->Int) (gap:Int):∀ (g:GVal) (lv:Int) (nm:Bool) (name:ByteArray) (now:Int) (n:Nat) (rest:List GRec),g.wf->behind lv rest->2*(shredV gap g lv nm name now).1.length<=n ->
    buildN n ((shredV gap g lv nm name now).1.map (stE φ)++rest)=(g,rest)
  | .mk kd b n s l ks vs,lv,nm,name,now,m,rest,hw,hb,hm=>by
    simp only [GVal.wf] at hw
    simp only [shredV,List.length_cons,List.length_append] at hm
    obtain ⟨m,rfl⟩:∃ m',m=m'+1:=⟨m - 1,by omega⟩
    simp only [shredV,List.map_cons,List.map_append,List.cons_append,List.append_assoc,buildN,stE]
    rw [kidsL φ gap l lv (now+gap) m _ ⟨[],ks,vs,rest⟩ (2*(shredM gap vs ks (lv+1) (shredL gap l (lv+1) (now+gap)).2).1.length+1) (by omega) hw.2.1 (fun m' hm'=>kidsM φ gap vs ks lv (shredL gap l (lv+1) (now+gap)).2 m' rest hw.2.2 hw.1 hb hm') (behindM φ gap vs ks (lv+1) _ _ (hb.mono (by omega))) (by omega)]
    simp
theorem kidsL (φ:Int->Int) (gap:Int):∀ (gs:List GVal) (lv:Int) (now:Int) (n:Nat) (T:List GRec) (K:Kids) (c:Nat),1<=c->GVal.wfs gs->(∀ m,c<=m->kidsN m lv T=K)->behind (lv+1) T ->
    2*(shredL gap gs (lv+1) now).1.length+c<=n->kidsN n lv ((shredL gap gs (lv+1) now).1.map (stE φ)++T)=⟨gs++K.ls,K.ks,K.vs,K.rest⟩
  | [],lv,now,n,T,K,c,hc,hw,hT,hb,hn2=>by
    simp only [shredL,List.map_nil,List.nil_append,List.length_nil] at hn2 ⊢
    exact hT n (by omega)
  | g::gs,lv,now,n,T,K,c,hc,hw,hT,hb,hn2=>by
    simp only [GVal.wfs] at hw
    simp only [shredL,List.map_append,List.append_assoc,List.length_append] at hn2 ⊢
    have hpos:0<(shredV gap g (lv+1) false ⟨#[]⟩ now).1.length:=by rw [shredV_eq];simp
    obtain ⟨n,rfl⟩:∃ m',n=m'+1:=⟨n - 1,by omega⟩
    have hB:=buildV φ gap g (lv+1) false ⟨#[]⟩ now n ((shredL gap gs (lv+1) (shredV gap g (lv+1) false ⟨#[]⟩ now).2).1.map (stE φ)++T) hw.1 (behindL φ gap gs (lv+1) _ _ hb) (by omega)
    rw [kids_step φ gap g lv false ⟨#[]⟩ now n _ hB,kidsL φ gap gs lv (shredV gap g (lv+1) false ⟨#[]⟩ now).2 n T K c hc hw.2 hT hb (by omega)]
    rfl
theorem kidsM (φ:Int->Int) (gap:Int):∀ (vs:List GVal) (ks:List ByteArray) (lv:Int) (now:Int) (n:Nat) (rest:List GRec),GVal.wfs vs->ks.length=vs.length->behind lv rest->2*(shredM gap vs ks (lv+1) now).1.length+1<=n ->
    kidsN n lv ((shredM gap vs ks (lv+1) now).1.map (stE φ)++rest)=⟨[],ks,vs,rest⟩
  | [],ks,lv,now,n,rest,hw,hk,hb,hn=>by
    have hk0:ks=[]:=List.eq_nil_of_length_eq_zero hk
    subst hk0
    simp only [shredM,List.map_nil,List.nil_append,List.length_nil] at hn ⊢
    obtain ⟨n,rfl⟩:∃ m',n=m'+1:=⟨n - 1,by omega⟩
    cases rest with
    | nil=>rfl
    | cons r rest =>
      simp only [behind] at hb
      rw [kidsN,if_neg (by omega)]
  | g::gs,[],lv,now,n,rest,hw,hk,hb,hn=>by simp at hk
  | g::gs,nk::ks,lv,now,n,rest,hw,hk,hb,hn=>by
    simp only [GVal.wfs] at hw
    simp only [shredM,List.map_append,List.append_assoc,List.length_append] at hn ⊢
    have hpos:0<(shredV gap g (lv+1) true nk now).1.length:=by rw [shredV_eq];simp
    obtain ⟨n,rfl⟩:∃ m',n=m'+1:=⟨n - 1,by omega⟩
    have hB:=buildV φ gap g (lv+1) true nk now n ((shredM gap gs ks (lv+1) (shredV gap g (lv+1) true nk now).2).1.map (stE φ)++rest) hw.1 (behindM φ gap gs ks (lv+1) _ _ (hb.mono (by omega))) (by omega)
    rw [kids_step φ gap g lv true nk now n _ hB,kidsM φ gap gs ks lv (shredV gap g (lv+1) true nk now).2 n rest hw.2 (by simpa using hk) hb (by omega)]
    rfl
end
theorem build_shred (φ:Int->Int) (gap:Int) (g:GVal) (nm:Bool) (name:ByteArray) (now:Int) (hw:g.wf):buildG ((shredV gap g 0 nm name now).1.map (stE φ))=(g,[]):=by
  unfold buildG
  have:=buildV φ gap g 0 nm name now (enough ((shredV gap g 0 nm name now).1.map (stE φ))) [] hw trivial (by unfold enough;rw [List.length_map];omega)
  rw [List.append_nil] at this
  exact this
theorem buildR_shred {φ:Int->Int} (hφ:Incr φ) {gap:Int} (hg:1<=gap) (h0:-1<φ gap) (g:GVal) (hw:g.wf) (hs:sane g=0) (hl:(shredV gap g 0 false emptyS 0).1.length<=4096)
    (hen:φ (shredV gap g 0 false emptyS 0).2<=1099511627776):buildR ((shredV gap g 0 false emptyS 0).1.map (stE φ))=(g,0):=by
  have hk:=sane_kind g 0 0 hw hs
  have hB:=build_shred φ gap g false emptyS 0 hw
  have hhead:((((shredV gap g 0 false emptyS 0).1.map (stE φ)).head?.map GRec.en).getD 0)=φ (shredV gap g 0 false emptyS 0).2:=by rw [shredV_eq];rfl
  unfold buildR
  rw [if_neg,if_neg,hB]
  · rw [hB];simp [hs]
  · rw [hhead,List.length_map,nested_shred hφ hg g false emptyS h0,named_shred φ gap g hk]
    rintro (h | h | h | h)
    · omega
    · cases h
    · cases h
    · omega
end Go.Sy
/- Bounds on a value's records. No program in sight. -/
namespace Go.Sy
mutual
theorem shredV_fit {σ:Snap} (gap:Int):∀ (g:GVal) (r:List AT) (lv:Int) (nm:Bool) (name:ByteArray) (now:Int),RepV σ g r->name.size<=mostLen->RecsFit (shredV gap g lv nm name now).1
  | .mk kd b n s l ks vs,r,lv,nm,name,now,h,hn=>by
    simp only [RepV] at h
    obtain ⟨_,_,_,_,_,_,_,_,h3,h4,_,h6,h7,h8,_,_,h9⟩:=h
    simp only [shredV]
    intro x hx
    rcases List.mem_cons.1 hx with rfl | hx
    · exact ⟨h7,h8,hn⟩
    · rcases List.mem_append.1 hx with hx | hx
      · exact shredL_fit gap l _ _ _ h3 x hx
      · exact shredM_fit gap vs _ ks _ _ h6 h9 x hx
theorem shredL_fit {σ:Snap} (gap:Int):∀ (gs:List GVal) (rs:List (List AT)) (lv:Int) (now:Int),RepL σ gs rs->RecsFit (shredL gap gs lv now).1
  | [],_,_,_,_=>fun x hx=>by cases hx
  | g::gs,rs,lv,now,h=>by
    simp only [RepL] at h
    obtain ⟨r,rs',_,h2,h3⟩:=h
    simp only [shredL]
    intro x hx
    rcases List.mem_append.1 hx with hx | hx
    · exact shredV_fit gap g r _ _ _ _ h2 (by simp [mostLen,ByteArray.size]) x hx
    · exact shredL_fit gap gs rs' _ _ h3 x hx
theorem shredM_fit {σ:Snap} (gap:Int):∀ (gs:List GVal) (rs:List (List AT)) (ks:List ByteArray) (lv:Int) (now:Int),RepL σ gs rs->(∀ k∈ks,k.size<=mostLen)->RecsFit (shredM gap gs ks lv now).1
  | [],_,ks,_,_,_,_=>by simp only [shredM];exact fun x hx=>by cases hx
  | g::gs,_,[],_,_,_,_=>by simp only [shredM];exact fun x hx=>by cases hx
  | g::gs,rs,nk::ks,lv,now,h,hk=>by
    simp only [RepL] at h
    obtain ⟨r,rs',_,h2,h3⟩:=h
    simp only [shredM]
    intro x hx
    rcases List.mem_append.1 hx with hx | hx
    · exact shredV_fit gap g r _ _ _ _ h2 (hk nk (List.mem_cons_self ..)) x hx
    · exact shredM_fit gap gs rs' ks _ _ h3 (fun k hk'=>hk k (List.mem_cons_of_mem _ hk')) x hx
end
theorem bAnd_le (x m:Int) (h0:0<=m) (h1:m<=1000000000):0<=bAnd .i64 x m/\bAnd .i64 x m<=m:=by
  have hm:(BitVec.ofInt 64 m).toNat=m.toNat:=by
    rw [BitVec.toNat_ofInt]
    have:m % ((2 ^ 64:Nat):Int)=m:=Int.emod_eq_of_lt h0 (by omega)
    rw [this]
  have hle:(BitVec.ofInt 64 x &&& BitVec.ofInt 64 m).toNat<=m.toNat:=by
    rw [BitVec.toNat_and,<-hm]
    exact Nat.and_le_right
  have hw:bAnd .i64 x m=((BitVec.ofInt 64 x &&& BitVec.ofInt 64 m).toNat:Int):=by
    unfold bAnd
    refine IntWalk.i64_in _ ?_
    have hle':(BitVec.ofInt IntKind.i64.bits x &&& BitVec.ofInt IntKind.i64.bits m).toNat<=m.toNat:=hle
    generalize (BitVec.ofInt IntKind.i64.bits x &&& BitVec.ofInt IntKind.i64.bits m).toNat=q at hle'
    omega
  rw [hw]
  omega
end Go.Sy
namespace Go.Sy
open Go.Proofs
mutual
def cntV:GVal->Nat
  | .mk _ _ _ _ l _ vs=>1+(cntL l+cntL vs)
def cntL:List GVal->Nat
  | []=>0
  | g::gs=>cntV g+cntL gs
end
theorem cntV_eq (g:GVal):cntV g=1+(cntL g.l+cntL g.vs):=by cases g;rw [cntV];rfl
theorem cntL_append:∀ a b:List GVal,cntL (a++b)=cntL a+cntL b
  | [],b=>by simp [cntL]
  | g::a,b=>by simp only [List.cons_append,cntL,cntL_append a b];omega
theorem cntL_take {gs:List GVal} {k:Nat} {g:GVal} (h:gs[k]?=some g):cntL (gs.take (k+1))=cntL (gs.take k)+cntV g:=by
  rw [List.take_add_one,h,cntL_append]
  simp [cntL]
mutual
theorem cntV_le:∀ g:GVal,cntV g<=g.weight
  | .mk k b n s l ks vs=>by
    simp only [cntV,GVal.weight]
    have:=cntL_le l
    have:=cntL_le vs
    omega
theorem cntL_le:∀ gs:List GVal,cntL gs<=GVal.weights gs
  | []=>by simp [cntL]
  | g::gs=>by
    simp only [cntL,GVal.weights]
    have:=cntV_le g
    have:=cntL_le gs
    omega
end
theorem cntL_take_le (gs:List GVal) (k:Nat):cntL (gs.take k)<=cntL gs:=by
  have:=cntL_append (gs.take k) (gs.drop k)
  rw [List.take_append_drop] at this
  omega
mutual
theorem shredV_cnt (gap:Int):∀ (g:GVal) (lv:Int) (nm:Bool) (name:ByteArray) (now:Int),g.wf->(shredV gap g lv nm name now).1.length=cntV g
  | .mk k b n s l ks vs,lv,nm,name,now,h=>by
    simp only [GVal.wf] at h
    simp only [shredV,List.length_cons,List.length_append,cntV,shredL_cnt gap l _ _ h.2.1,shredM_cnt gap vs ks _ _ h.1 h.2.2]
    omega
theorem shredL_cnt (gap:Int):∀ (gs:List GVal) (lv now:Int),GVal.wfs gs->(shredL gap gs lv now).1.length=cntL gs
  | [],lv,now,_=>by simp [shredL,cntL]
  | g::gs,lv,now,h=>by
    simp only [GVal.wfs] at h
    simp only [shredL,List.length_append,cntL,shredV_cnt gap g _ _ _ _ h.1,shredL_cnt gap gs _ _ h.2]
theorem shredM_cnt (gap:Int):∀ (gs:List GVal) (ks:List ByteArray) (lv now:Int),ks.length=gs.length->GVal.wfs gs->(shredM gap gs ks lv now).1.length=cntL gs
  | [],ks,lv,now,_,_=>by simp [shredM,cntL]
  | g::gs,[],lv,now,h,_=>by simp at h
  | g::gs,k::ks,lv,now,h,h'=>by
    simp only [GVal.wfs] at h'
    simp only [shredM,List.length_append,cntL,shredV_cnt gap g _ _ _ _ h'.1,shredM_cnt gap gs ks _ _ (by simpa using h) h'.2]
end
set_option maxRecDepth 100000 in
set_option maxHeartbeats 1000000 in
theorem Count_c (g:GVal):∀ (σ:Snap) (r:List AT),RepV σ g r->g.weight<=1000000->PlainS Tryz.prog 42 [.agg r] σ (fun v=>v=.int .i64 (cntV g)):=by
  induction g using GVal.byWeight with | _ g ih=>?_
  intro σ r hr hw
  obtain ⟨la,lc,lrows,ma,mc,vrows,rfl,V⟩:=hr.open
  have hil:=in_len g
  have hkv:=V.kv
  have hle0:=cntV_le g
  have hlen:(g.l++g.vs).length=g.l.length+g.ks.length:=by rw [List.length_append,hkv]
  have htot:cntL (g.l++g.vs)+1=cntV g:=by rw [cntV_eq,cntL_append];omega
  refine enter_p Tryz.func42 rfl rfl (by (repeat' (first | exact trivial | exact vCells_lt _ _ _ _ _ _ | constructor))) fun w=>?_
  (repeat (first | refine cj_seq ?_ | refine cjr TT rfl ?_ | refine oj_then ?_))
  refine oj_callS rfl rfl rfl rfl rfl Tryz.call115 (by (repeat' (first | exact trivial | exact vCells_lt _ _ _ _ _ _ | constructor))) (inside_c σ g la lc lrows ma mc vrows V (by omega)) fun v σ' hle ⟨ao,cap,hv,H⟩=>⟨.a (.v (.slice ao (g.l.length+g.ks.length) cap)),trivial,hv.symm,?_⟩
  have R:RepL σ' (g.l++g.vs) (lrows++vrows):=RepL.append (V.l.mono hle) (V.v.mono hle)
  refine oj_run TT rfl ?_
  (repeat (first | refine oj_then ?_ | refine cj_block ?_))
  refine cj_loop (fun (_:Nat)=>σ') (fun k=>[(3,.a (.v (.int .i64 (1+cntL ((g.l++g.vs).take k):Nat)))),(7,.a (.v (.slice ao (g.l.length+g.ks.length) cap))),(8,.a (.v (.int .i64 (g.l.length+g.ks.length:Nat)))),(9,.a (.v (.int .i64 k)))])
    (fun _=>[]) (fun _=>[]) 0 (fun k=>k<=g.l.length+g.ks.length) (fun k=>g.l.length+g.ks.length - k) 0 (Nat.zero_le _) rfl (by (repeat first | exact trivial | refine ⟨rfl,?_⟩)) (by (repeat first | exact trivial | refine ⟨rfl,?_⟩)) rfl (by (repeat' (first | exact trivial | constructor))) (by (repeat' exact trivial)) fun k hk=>?_
  have hcb:=cntL_take_le (g.l++g.vs) k
  (repeat (first | refine cj_seq ?_ | refine cjr TT rfl ?_ | refine oj_then ?_))
  refine cj_if rfl (fun h=>?_) (fun h=>?_)
  · have hkl:k<g.l.length+g.ks.length:=by have:=of_decide_eq_true h;omega
    have hkl':k<(g.l++g.vs).length:=by omega
    have hget:=List.getElem?_eq_getElem hkl'
    obtain ⟨r,hr1,hr2⟩:=R.get hget
    obtain ⟨la',lc',lrows',ma',mc',vrows',rfl,V'⟩:=hr2.open
    have hwx:=in_weight (List.getElem_mem hkl')
    have hcx:=cntV_le (g.l++g.vs)[k]
    (repeat (first | refine cj_seq ?_ | refine cjr TT rfl ?_ | refine cj_skip ?_ | refine cj_block ?_ | refine nj_then ?_))
    refine oj_idx TT rfl rfl rfl rfl rfl rfl rfl rfl rfl H (by omega) hr1 (oj_run TT rfl ?_)
    (repeat (first | refine cjr TT rfl ?_ | refine oj_then ?_))
    refine oj_callP rfl rfl rfl rfl rfl Tryz.call42 (by (repeat' (first | exact trivial | exact vCells_lt _ _ _ _ _ _ | constructor))) (ih _ hwx σ' _ V'.rep (by omega)) fun v hv=>⟨.a (.v (.int .i64 (cntV (g.l++g.vs)[k]))),trivial,hv.symm,?_⟩
    refine oj_run TT rfl ?_
    (repeat (first | refine cjr TT rfl ?_ | refine oj_nil ?_ | refine nj_then ?_ | refine nj_block ?_ | (refine oj_add rfl rfl rfl rfl rfl rfl (by omega) ?_;refine oj_run TT rfl ?_)))
    have e:((1+cntL ((g.l++g.vs).take (k+1)):Nat):Int)=((1+cntL ((g.l++g.vs).take k):Nat):Int)+(cntV (g.l++g.vs)[k]:Nat):=by
      rw [cntL_take hget]
      omega
    refine nj_again (k+1) hkl (by omega) rfl (by rw [e];(repeat first | exact trivial | refine ⟨rfl,?_⟩)) (by (repeat first | exact trivial | refine ⟨rfl,?_⟩)) rfl (by (repeat' (first | exact trivial | constructor))) (by (repeat' exact trivial))
  · have hk0:k=(g.l++g.vs).length:=by have:=of_decide_eq_false h;omega
    subst hk0
    rw [List.take_length]
    have e:1+cntL (g.l++g.vs)=cntV g:=by omega
    rw [e]
    (repeat (first | refine cj_seq ?_ | refine cjr TT rfl ?_ | refine oj_then ?_ | refine cj_exit ?_ | refine cj_ret ?_ | refine nj_then ?_ | refine nj_then_exit ?_ | refine nj_block_out ?_))
    refine nj_ret TT rfl fun β w' _ _=>?_
    rfl
theorem shredG_k {g:GVal} {gap:Int} (h1:1<=gap) (h2:gap<=1000):shredG g gap=if sane g≠0 then ([],sane g) else ((shredV gap g 0 false emptyS 0).1,0):=by
  unfold shredG
  rw [if_neg (by omega)]
end Go.Sy
/- Plain laws about the shred as a list: whose records stand under whose. -/
namespace Go.Sy
abbrev Sk:=List (Int×Int)
def front (en:Int) (rest:Sk):Prop:=∀ x,rest.head?=some x->en<=x.1
theorem cntV_pos (g:GVal):0<cntV g:=by rw [cntV_eq];omega
def chain (S:Sk) (en:Int):Int->List Nat->Prop
  | _,[]=>True
  | last,m::ms=>∃ x,S[m]?=some x/\last<x.1/\x.2<en/\chain S en x.2 ms
end Go.Sy
namespace Go.Sy
open Go.Proofs
def strRows (l:List ByteArray):List (List AT):=l.map fun s=>[.v (.string s)]
theorem strRows_get {l:List ByteArray} {i:Nat} {s:ByteArray} (h:l[i]?=some s):(strRows l)[i]?=some [.v (.string s)]:=by unfold strRows;rw [List.getElem?_map,h];rfl
theorem take_succ_eq {α:Type} {a b:List α} {k:Nat} (h:a.take k=b.take k) (ha:k<a.length) (hb:k<b.length):a.take (k+1)=b.take (k+1)↔a[k]=b[k]:=by
  rw [List.take_succ_eq_append_getElem ha,List.take_succ_eq_append_getElem hb,h,List.append_cancel_left_eq,List.cons.injEq]
  simp
set_option maxRecDepth 100000 in
set_option maxHeartbeats 1000000 in
theorem Equal_c (σ:Snap) (a b:List ByteArray) (hl:a.length<=140737488355328) (ao bo:Option Addr) (ac bc:Nat) (HA:SlAt σ ao a.length ac 1 (strRows a)) (HB:SlAt σ bo b.length bc 1 (strRows b)) :
    PlainS Tryz.prog 181 [.a (.v (.slice ao a.length ac)),.a (.v (.slice bo b.length bc))] σ (fun x=>x=.bool (decide (a=b))):=by
  refine enter_p Tryz.func181 rfl rfl (by (repeat' (first | exact trivial | constructor))) fun w=>?_
  (repeat (first | refine cj_seq ?_ | refine cjr TT rfl ?_ | refine oj_then ?_))
  refine cj_if rfl (fun h=>?_) (fun h=>?_)
  · have h:¬ (a.length:Int)=b.length:=by simpa using h
    (repeat (first | refine cj_seq ?_ | refine cjr TT rfl ?_ | refine oj_then ?_ | refine cj_ret ?_ | refine nj_then_ret ?_))
    refine nj_ret TT rfl fun β w' _ _=>?_
    rw [decide_eq_false (fun e=>h (by rw [e]))]
    rfl
  have hlen:a.length=b.length:=by
    have h:(a.length:Int)=b.length:=by simpa using h
    omega
  (repeat (first | refine cj_seq ?_ | refine cjr TT rfl ?_ | refine oj_then ?_ | refine cj_skip ?_ | refine cj_block ?_ | refine nj_then ?_))
  refine cj_loop (fun (_:Nat)=>σ) (fun k=>[(0,.a (.v (.slice ao a.length ac))),(1,.a (.v (.slice bo b.length bc))),(12,.a (.v (.int .i64 a.length))),(13,.a (.v (.int .i64 k)))]) (fun _=>[]) (fun _=>[]) 0
    (fun k=>k<=a.length/\a.take k=b.take k) (fun k=>a.length - k) 0 ⟨Nat.zero_le _,rfl⟩ rfl (by (repeat first | exact trivial | refine ⟨rfl,?_⟩)) (by (repeat first | exact trivial | refine ⟨rfl,?_⟩)) rfl (by (repeat' (first | exact trivial | constructor))) (by (repeat' exact trivial)) fun k ⟨hk,hp⟩=>?_
  (repeat (first | refine cj_seq ?_ | refine cjr TT rfl ?_ | refine oj_then ?_))
  refine cj_if rfl (fun h=>?_) (fun h=>?_)
  rotate_left
  · have hk0:k=a.length:=by have:=of_decide_eq_false h;omega
    subst hk0
    rw [List.take_length,hlen,List.take_length] at hp
    (repeat (first | refine cj_seq ?_ | refine cjr TT rfl ?_ | refine oj_then ?_ | refine cj_exit ?_ | refine cj_ret ?_ | refine nj_then ?_ | refine nj_then_exit ?_ | refine nj_block_out ?_))
    refine nj_ret TT rfl fun β w' _ _=>?_
    rw [decide_eq_true hp]
    rfl
  have hkl:k<a.length:=by have:=of_decide_eq_true h;omega
  have hkl':k<b.length:=by omega
  have hra:=strRows_get (List.getElem?_eq_getElem hkl)
  have hrb:=strRows_get (List.getElem?_eq_getElem hkl')
  have hne:a[k]≠b[k]->a≠b:=fun hn e=>hn (by subst e;rfl)
  have hiff:=take_succ_eq hp hkl hkl'
  generalize a[k]=x at *
  generalize b[k]=y at *
  (repeat (first | refine cj_seq ?_ | refine cjr TT rfl ?_ | refine oj_then ?_ | refine cj_skip ?_ | refine cj_block ?_ | refine nj_then ?_))
  refine cj_draw [(0,.pure),(1,.pure),(2,.pure),(3,.quiet),(4,.pure),(5,.pure),(6,.pure),(7,.quiet),(8,.pure)] mixed (by kernel_rfl) (oj_run TT rfl ?_)
  refine oj_idx TT rfl rfl rfl rfl rfl rfl rfl rfl rfl HA (by omega) hra (oj_run TT rfl ?_)
  refine oj_idx TT rfl rfl rfl rfl rfl rfl rfl rfl rfl HB (by omega) hrb (oj_run TT rfl ?_)
  (repeat refine oj_then ?_)
  refine cj_if rfl (fun h=>?_) (fun h=>?_)
  · have h:¬ x=y:=by simpa using h
    (repeat (first | refine cj_seq ?_ | refine cjr TT rfl ?_ | refine oj_then ?_ | refine cj_ret ?_ | refine nj_then_ret ?_ | refine nj_block_ret ?_))
    refine nj_ret TT rfl fun β w' _ _=>?_
    rw [decide_eq_false (hne h)]
    rfl
  · have h:x=y:=by simpa using h
    (repeat (first | refine cjr TT rfl ?_ | refine oj_nil ?_ | refine cj_skip ?_ | refine nj_then ?_ | refine nj_block ?_ | (refine oj_add rfl rfl rfl rfl rfl rfl (by omega) ?_;refine oj_run TT rfl ?_)))
    refine nj_again (k+1) ⟨hkl,hiff.2 h⟩ (by omega) rfl (by (repeat first | exact trivial | refine ⟨rfl,?_⟩)) (by (repeat first | exact trivial | refine ⟨rfl,?_⟩)) rfl (by (repeat' (first | exact trivial | constructor))) (by (repeat' exact trivial))
structure GLine where
  id:Int
  ao:Option Addr
  cap:Nat
  st:List ByteArray
  cnt:Int
def lnCells (x:GLine):List AT:=[.v (.int .i64 x.id),.v (.slice x.ao x.st.length x.cap),.v (.int .i64 x.cnt)]
theorem lnCells_lt (n:Nat) (x:GLine):∀ c∈lnCells x,c.lt n:=by simp [lnCells,AT.lt]
def lnRows (l:List GLine):List (List AT):=l.map lnCells
theorem lnRows_get {l:List GLine} {i:Nat} {x:GLine} (h:l[i]?=some x):(lnRows l)[i]?=some (lnCells x):=by unfold lnRows;rw [List.getElem?_map,h];rfl
def LnOk (σ:Snap) (x:GLine):Prop:=x.st.length<=140737488355328/\SlAt σ x.ao x.st.length x.cap 1 (strRows x.st)
theorem LnOk.mono {σ σ':Snap} {x:GLine} (h:LnOk σ x) (hle:σ.le σ'):LnOk σ' x:=⟨h.1,h.2.mono hle⟩
def findG {α:Type} (q:α->Bool):List α->Nat->Int
  | [],_ => -1
  | x::l,k=>if q x then k else findG q l (k+1)
theorem findG_bd {α:Type} (q:α->Bool):∀ (l:List α) (k:Nat),-1<=findG q l k/\findG q l k<(k+l.length:Nat)
  | [],k=>by simp only [findG,List.length_nil];omega
  | x::l,k=>by
    have:=findG_bd q l (k+1)
    simp only [findG,List.length_cons]
    split<;>omega
set_option maxRecDepth 100000 in
set_option maxHeartbeats 1000000 in
theorem IndexFuncL_c (σ:Snap) (xs:List GLine) (hl:xs.length<=140737488355328) (ao:Option Addr) (cap:Nat) (H:SlAt σ ao xs.length cap 3 (lnRows xs)) (f:FuncId) (caps:List PT) (hcap:LtAll (caps.map ptSV))
    (hcall:∀ args w,(callFunc f args).run Tryz.prog w=.ok (.enter f args) w) (q:GLine->Bool) (hq:∀ x∈xs,PlainS Tryz.prog f (.agg (lnCells x)::caps.map ptSV) σ (fun v=>v=.bool (q x))) (hlt:(SV.a (.fn (.func f) caps)).lt 0) :
    PlainS Tryz.prog 217 [.a (.v (.slice ao xs.length cap)),.a (.fn (.func f) caps)] σ (fun x=>x=.int .i64 (findG q xs 0)):=by
  refine enter_p Tryz.func217 rfl rfl ⟨trivial,hlt,trivial⟩ fun w=>?_
  (repeat (first | refine cj_seq ?_ | refine cjr TT rfl ?_ | refine oj_then ?_ | refine cj_block ?_))
  refine cj_loop (fun (_:Nat)=>σ) (fun k=>[(0,.a (.v (.slice ao xs.length cap))),(1,.a (.fn (.func f) caps)),(7,.a (.v (.int .i64 xs.length))),(8,.a (.v (.int .i64 k)))]) (fun _=>[]) (fun _=>[]) 0
    (fun k=>k<=xs.length/\findG q (xs.drop k) k=findG q xs 0) (fun k=>xs.length - k) 0 ⟨Nat.zero_le _,rfl⟩ rfl (by (repeat first | exact trivial | refine ⟨rfl,?_⟩)) (by (repeat first | exact trivial | refine ⟨rfl,?_⟩)) rfl ⟨trivial,hlt,trivial,trivial,trivial⟩ trivial fun k ⟨hk,hp⟩=>?_
  (repeat (first | refine cj_seq ?_ | refine cjr TT rfl ?_ | refine oj_then ?_))
  refine cj_if rfl (fun h=>?_) (fun h=>?_)
  rotate_left
  · have hk0:k=xs.length:=by have:=of_decide_eq_false h;omega
    subst hk0
    rw [List.drop_length] at hp
    (repeat (first | refine cj_seq ?_ | refine cjr TT rfl ?_ | refine oj_then ?_ | refine cj_exit ?_ | refine cj_ret ?_ | refine nj_then ?_ | refine nj_then_exit ?_ | refine nj_block_out ?_))
    refine nj_ret TT rfl fun β w' _ _=>?_
    rw [<-hp]
    rfl
  have hkl:k<xs.length:=by have:=of_decide_eq_true h;omega
  have hra:=lnRows_get (List.getElem?_eq_getElem hkl)
  have hqx:=hq xs[k] (List.getElem_mem hkl)
  rw [List.drop_eq_getElem_cons hkl,findG] at hp
  generalize xs[k]=x at *
  (repeat (first | refine cj_seq ?_ | refine cjr TT rfl ?_ | refine oj_then ?_ | refine cj_skip ?_ | refine cj_block ?_ | refine nj_then ?_))
  refine oj_idx TT rfl rfl rfl rfl rfl rfl rfl rfl rfl H (by omega) hra (oj_run TT rfl ?_)
  refine oj_callP (ys:=.agg (lnCells x)::caps.map ptSV) rfl rfl rfl rfl rfl hcall ⟨lnCells_lt 0 x,hcap⟩ hqx fun v hv=>⟨.a (.b (q x)),trivial,hv.symm,?_⟩
  refine oj_run TT rfl ?_
  (repeat refine oj_then ?_)
  refine cj_if rfl (fun h=>?_) (fun h=>?_)
  · rw [h] at hp
    (repeat (first | refine cj_seq ?_ | refine cjr TT rfl ?_ | refine oj_then ?_ | refine cj_ret ?_ | refine nj_then_ret ?_ | refine nj_block_ret ?_))
    refine nj_ret TT rfl fun β w' _ _=>?_
    rw [<-hp]
    rfl
  · rw [h] at hp
    (repeat (first | refine cjr TT rfl ?_ | refine oj_nil ?_ | refine cj_skip ?_ | refine nj_then ?_ | refine nj_block ?_ | (refine oj_add rfl rfl rfl rfl rfl rfl (by omega) ?_;refine oj_run TT rfl ?_)))
    refine nj_again (k+1) ⟨hkl,hp⟩ (by omega) rfl (by (repeat first | exact trivial | refine ⟨rfl,?_⟩)) (by (repeat first | exact trivial | refine ⟨rfl,?_⟩)) rfl ⟨trivial,hlt,trivial,trivial,trivial⟩ trivial
set_option maxRecDepth 100000 in
set_option maxHeartbeats 1000000 in
theorem where_c (σ:Snap) (xs:List GLine) (hl:xs.length<=140737488355328) (ao:Option Addr) (cap:Nat) (next:Int) (H:SlAt σ ao xs.length cap 3 (lnRows xs)) (f:FuncId) (caps:List PT) (hcap:LtAll (caps.map ptSV))
    (hcall:∀ args w,(callFunc f args).run Tryz.prog w=.ok (.enter f args) w) (q:GLine->Bool) (hq:∀ x∈xs,PlainS Tryz.prog f (.agg (lnCells x)::caps.map ptSV) σ (fun v=>v=.bool (q x))) (hlt:(SV.a (.fn (.func f) caps)).lt 0) :
    PlainS Tryz.prog 179 [.agg [.v (.slice ao xs.length cap),.v (.int .i64 next)],.a (.fn (.func f) caps)] σ (fun x=>x=.int .i64 (findG q xs 0)):=by
  refine enter_p Tryz.func179 rfl rfl ⟨(by (repeat' (first | exact trivial | refine AllLt.of ?_ | constructor))),hlt,trivial⟩ fun w=>?_
  (repeat (first | refine cj_seq ?_ | refine cjr TT rfl ?_ | refine oj_then ?_))
  refine oj_callP rfl rfl rfl rfl rfl Tryz.call217 ⟨trivial,hlt,trivial⟩ (IndexFuncL_c σ xs hl ao cap H f caps hcap hcall q hq hlt) fun v hv=>⟨.a (.v (.int .i64 (findG q xs 0))),trivial,hv.symm,?_⟩
  refine oj_run TT rfl ?_
  (repeat (first | refine oj_then ?_ | refine cj_ret ?_))
  refine nj_ret TT rfl fun β w' _ _=>?_
  rfl
def ptrTo (g:Nat):PT:=.val (.pointer (some ⟨g,0,none⟩))
theorem fn_lt1 (f:Fn) (g n:Nat):(SV.a (.fn f [ptrTo g])).lt n:=by
  intro x hx
  rw [List.mem_singleton] at hx
  subst hx
  trivial
set_option maxRecDepth 100000 in
set_option maxHeartbeats 1000000 in
theorem line1_c (σ:Snap) (x:GLine) (hx:LnOk σ x) (s:List ByteArray) (so:Option Addr) (sc:Nat) (S:SlAt σ so s.length sc 1 (strRows s)) (g:Nat) (hg:σ.cell ⟨g,0,none⟩=some (.slice so s.length sc)) :
    PlainS Tryz.prog 180 (.agg (lnCells x)::[ptrTo g].map ptSV) σ (fun v=>v=.bool (decide (x.st=s))):=by
  refine enter_p Tryz.func180 rfl rfl ⟨lnCells_lt 0 x,trivial,trivial⟩ fun w=>?_
  (repeat (first | refine cj_seq ?_ | refine cjr TT rfl ?_ | refine oj_then ?_))
  refine oj_ldS (c:=.v (.slice so s.length sc)) TT rfl rfl rfl rfl rfl rfl rfl rfl hg trivial (oj_run TT rfl ?_)
  refine oj_callP rfl rfl rfl rfl rfl Tryz.call181 (by (repeat' (first | exact trivial | constructor))) (Equal_c σ x.st s hx.1 x.ao so x.cap sc hx.2 S) fun v hv=>⟨.a (.b (decide (x.st=s))),trivial,hv.symm,?_⟩
  refine oj_run TT rfl ?_
  (repeat (first | refine oj_then ?_ | refine cj_ret ?_))
  refine nj_ret TT rfl fun β w' _ _=>?_
  rfl
def lineG (xs:List GLine) (s:List ByteArray):Int:=findG (fun x=>decide (x.st=s)) xs 0
set_option maxRecDepth 100000 in
set_option maxHeartbeats 1000000 in
theorem line_c (σ:Snap) (xs:List GLine) (hl:xs.length<=140737488355328) (ao:Option Addr) (cap:Nat) (next:Int) (H:SlAt σ ao xs.length cap 3 (lnRows xs)) (hx:∀ x∈xs,LnOk σ x)
    (s:List ByteArray) (so:Option Addr) (sc:Nat) (S:SlAt σ so s.length sc 1 (strRows s)) :
    PlainS Tryz.prog 116 [.agg [.v (.slice ao xs.length cap),.v (.int .i64 next)],.a (.v (.slice so s.length sc))] σ (fun v=>v=.int .i64 (lineG xs s)):=by
  refine enter_p Tryz.func116 rfl rfl (by (repeat' (first | exact trivial | refine AllLt.of ?_ | constructor))) fun w=>?_
  (repeat (first | refine cj_seq ?_ | refine cjr TT rfl ?_ | refine oj_then ?_))
  refine oj_own 1 1 1 rfl (by (repeat' (first | exact trivial | refine AllLt.of ?_ | constructor))) rfl (by decide) fun g=>?_
  refine oj_seal 0 rfl rfl rfl fun σ1 hle1 hS=>?_
  have hg:σ1.cell ⟨g,0,none⟩=some (.slice so s.length sc):=by
    rcases hS with ⟨h,_⟩ | ⟨g',h1,h2⟩
    · cases h
    · obtain rfl:g=g':=by simpa using h1
      exact h2 0 _ rfl
  refine oj_callP rfl rfl rfl rfl rfl Tryz.call179 ⟨(by (repeat' (first | exact trivial | refine AllLt.of ?_ | constructor))),fn_lt1 (.func 180) g 0,trivial⟩ (where_c σ1 xs hl ao cap next (H.mono hle1) 180 [ptrTo g] ⟨trivial,trivial⟩ Tryz.call180 (fun x=>decide (x.st=s)) (fun x hm=>line1_c σ1 x ((hx x hm).mono hle1) s so sc (S.mono hle1) g hg) (fn_lt1 (.func 180) g 0)) fun v hv=>⟨.a (.v (.int .i64 (lineG xs s))),trivial,hv.symm,?_⟩
  refine oj_run TT rfl ?_
  (repeat (first | refine oj_then ?_ | refine cj_ret ?_))
  refine nj_ret TT rfl fun β w' _ _=>?_
  rfl
end Go.Sy
namespace Go.Sy
open Go.Proofs
structure SRow where
  ao:Option Addr
  cap:Nat
  ss:List ByteArray
def srCells (r:SRow):List AT:=[.v (.slice r.ao r.ss.length r.cap)]
def srRows (l:List SRow):List (List AT):=l.map srCells
theorem srRows_get {l:List SRow} {i:Nat} {x:SRow} (h:l[i]?=some x):(srRows l)[i]?=some (srCells x):=by unfold srRows;rw [List.getElem?_map,h];rfl
def SrOk (σ:Snap) (x:SRow):Prop:=x.ss.length<=140737488355328/\SlAt σ x.ao x.ss.length x.cap 1 (strRows x.ss)
theorem SrOk.mono {σ σ':Snap} {x:SRow} (h:SrOk σ x) (hle:σ.le σ'):SrOk σ' x:=⟨h.1,h.2.mono hle⟩
def lnXs (l:List GLine):List Value:=(lnRows l).flatten.map AT.val
def lnE (bo:Option Addr) (bc:Nat) (l:List GLine):AE:=⟨bo,l.length,bc,211,3,lnXs l⟩
theorem lnXs_append (a b:List GLine):lnXs (a++b)=lnXs a++lnXs b:=by simp [lnXs,lnRows]
theorem lnRows_all (a:List GLine):∀ r∈lnRows a,r.length=3/\(∀ c∈r,c.lt 0)/\r.all AT.one=true:=by
  intro r hr
  obtain ⟨x,_,rfl⟩:=List.mem_map.1 hr
  exact ⟨rfl,lnCells_lt 0 x,rfl⟩
theorem lnXs_get {l:List GLine} {i j:Nat} {r:GLine} {c:AT} (h:l[i]?=some r) (hj:(lnCells r)[j]?=some c):(lnXs l)[i*3+j]?=some c.val:=by
  unfold lnXs
  rw [List.getElem?_map,flat_get (sz:=3) (fun r hr=>(lnRows_all l r hr).1) (lnRows_get h) hj]
  rfl
theorem lnXs_set {l:List GLine} {i j:Nat} {r r':GLine} (c:AT) (h:l[i]?=some r) (hj:j<3) (hr:(lnCells r).set j c=lnCells r'):(lnXs l).set (i*3+j) c.val=lnXs (l.set i r'):=by
  unfold lnXs
  rw [<-List.map_set,flat_set (sz:=3) (fun r hr=>(lnRows_all l r hr).1) c (lnRows_get h) hj,hr]
  congr 2
  unfold lnRows
  rw [List.map_set]
theorem ln_sealed {σ:Snap} {bo:Option Addr} {bc:Nat} {l:List GLine} (h:ArrSealed σ (lnE bo bc l)) (hc:l.length<=bc):SlAt σ bo l.length bc 3 (lnRows l) :=
  h.sl (E:=lnE bo bc l) rfl (fun r hr=>⟨(lnRows_all l r hr).1,(lnRows_all l r hr).2.1⟩) (by simp [lnRows]) rfl hc
def idXs (l:List Int):List Value:=l.map fun k=>Value.int .i64 k
def idRows (l:List Int):List (List AT):=l.map fun k=>[.v (.int .i64 k)]
def idE (bo:Option Addr) (bc:Nat) (l:List Int):AE:=⟨bo,l.length,bc,3,1,idXs l⟩
theorem idRows_flat:∀ o:List Int,idXs o=(idRows o).flatten.map AT.val
  | []=>rfl
  | k::o=>by
    show Value.int .i64 k::idXs o=_
    rw [idRows_flat o]
    rfl
theorem idRows_get {l:List Int} {i:Nat} {x:Int} (h:l[i]?=some x):(idRows l)[i]?=some [.v (.int .i64 x)]:=by unfold idRows;rw [List.getElem?_map,h];rfl
theorem id_sealed {σ:Snap} {oo:Option Addr} {oc:Nat} {o:List Int} (h:ArrSealed σ (idE oo oc o)) (hc:o.length<=oc):SlAt σ oo o.length oc 1 (idRows o) :=
  h.sl (E:=idE oo oc o) (idRows_flat o) (fun r hr=>by
    obtain ⟨k,_,rfl⟩:=List.mem_map.1 hr
    exact ⟨rfl,fun c hc=>by cases hc with | head=>trivial | tail _ h=>cases h⟩) (by simp [idRows]) rfl hc
set_option maxRecDepth 100000 in
set_option maxHeartbeats 1000000 in
theorem CloneLn_c (σ:Snap) (xs:List GLine) (hl:xs.length<=1000000) (ao:Option Addr) (cap:Nat) (H:SlAt σ ao xs.length cap 3 (lnRows xs)) :
    FnS Tryz.prog 170 [.a (.v (.slice ao xs.length cap))] σ [] (fun v _ A'=>∃ bo bc,v=.slice bo xs.length bc/\xs.length<=bc/\A'=[lnE bo bc xs]):=by
  refine enter_f Tryz.func170 rfl rfl (by (repeat' (first | exact trivial | constructor))) fun w=>?_
  (repeat (first | refine cj_seq ?_ | refine cjr TT rfl ?_ | refine oj_then ?_ | (refine oj_slnil TT rfl rfl rfl rfl rfl rfl rfl rfl ?_;refine oj_run TT rfl ?_)))
  refine cj_if rfl (fun h=>?_) (fun h=>?_)
  · have h0:ao=none:=by simpa using h
    have hn0:xs.length=0:=by
      rcases H.at_ with h1 | ⟨ad,h1,_⟩
      · exact h1
      · rw [h0] at h1;cases h1
    have hr:xs=[]:=List.eq_nil_of_length_eq_zero hn0
    subst hr
    (repeat (first | refine cj_seq ?_ | refine cjr TT rfl ?_ | refine oj_then ?_ | refine cj_ret ?_ | refine nj_then_ret ?_))
    refine nj_nilarr 211 3 ?_
    refine nj_fret TT rfl fun β w' _ _=>?_
    exact ⟨none,0,rfl,Nat.le_refl _,rfl⟩
  (repeat (first | refine cj_seq ?_ | refine cjr TT rfl ?_ | refine cj_skip ?_ | refine nj_then ?_))
  refine oj_own 0 0 3 rfl (by (repeat' (first | exact trivial | refine AllLt.of ?_))) rfl (by decide) fun gb=>?_
  refine oj_append_sl TT 0 rfl rfl rfl rfl rfl rfl rfl H rfl rfl rfl rfl rfl rfl rfl rfl rfl (fun r hr=>(lnRows_all xs r hr).2.2) (by omega) (by show (0+xs.length)*40<=_;omega) fun ao' cap' hcap'=>oj_run TT rfl ?_
  (repeat (first | refine oj_then ?_ | refine cj_ret ?_))
  refine nj_fret TT rfl fun β w' _ _=>?_
  refine ⟨ao',cap',by show Value.slice ao' (0+xs.length) cap'=_;rw [Nat.zero_add],by omega,?_⟩
  show [_]=[_]
  rw [Nat.zero_add]
  rfl
structure GSt where
  xs:List GLine
  next:Int
  ids:List Int
def GLine.more (x:GLine):GLine:=⟨x.id,x.ao,x.cap,x.st,x.cnt+1⟩
def newLn (next:Int) (p:SRow):GLine:=⟨next,p.ao,p.cap,p.ss,0⟩
def addOne (s:GSt) (p:SRow):GSt :=
  if lineG s.xs p.ss<0 then ⟨s.xs++[(newLn s.next p).more],s.next+1,s.ids++[s.next]⟩
  else match s.xs[(lineG s.xs p.ss).toNat]? with
    | some x=>⟨s.xs.set (lineG s.xs p.ss).toNat x.more,s.next,s.ids++[x.id]⟩
    | none=>s
def addAll (s:GSt) (ps:List SRow):GSt:=ps.foldl addOne s
structure GFit (m:Nat) (s:GSt):Prop where
  xs:s.xs.length<=m
  ids:s.ids.length<=m
  next:-m<=s.next/\s.next<=m
  cnt:∀ x∈s.xs,-m<=x.cnt/\x.cnt<=m
theorem GFit.mono {m n:Nat} {s:GSt} (h:GFit m s) (hmn:m<=n):GFit n s :=
  ⟨Nat.le_trans h.xs hmn,Nat.le_trans h.ids hmn,by have:=h.next;omega,fun x hx=>by have:=h.cnt x hx;omega⟩
theorem lineG_bd (xs:List GLine) (s:List ByteArray):-1<=lineG xs s/\lineG xs s<xs.length:=by
  have:=findG_bd (fun x:GLine=>decide (x.st=s)) xs 0
  unfold lineG
  omega
theorem addOne_fit {m:Nat} {s:GSt} (h:GFit m s) (p:SRow):GFit (m+1) (addOne s p):=by
  unfold addOne
  split
  · refine ⟨by have:=h.xs;simp;omega,by have:=h.ids;simp;omega,by have:=h.next;dsimp only;omega,fun x hx=>?_⟩
    rcases List.mem_append.1 hx with hx | hx
    · have:=h.cnt x hx;omega
    · rw [List.mem_singleton] at hx
      subst hx
      show -((m+1:Nat):Int)<=(0:Int)+1/\(0:Int)+1<=((m+1:Nat):Int)
      omega
  · split
    · rename_i x hx
      refine ⟨by have:=h.xs;rw [List.length_set];omega,by have:=h.ids;simp;omega,by have:=h.next;dsimp only;omega,fun y hy=>?_⟩
      rcases List.mem_or_eq_of_mem_set hy with hy | hy
      · have:=h.cnt y hy;omega
      · subst hy
        have:=h.cnt x (List.mem_of_getElem? hx)
        show -((m+1:Nat):Int)<=x.cnt+1/\x.cnt+1<=((m+1:Nat):Int)
        omega
    · exact h.mono (by omega)
theorem addAll_fit:∀ (ps:List SRow) {m:Nat} {s:GSt},GFit m s->GFit (m+ps.length) (addAll s ps)
  | [],m,s,h=>h
  | p::ps,m,s,h=>(addAll_fit ps (addOne_fit h p)).mono (by simp only [List.length_cons];omega)
theorem addOne_ok {σ:Snap} {s:GSt} (h:∀ x∈s.xs,LnOk σ x) {p:SRow} (hp:SrOk σ p):∀ x∈(addOne s p).xs,LnOk σ x:=by
  unfold addOne
  split
  · intro x hx
    rcases List.mem_append.1 hx with hx | hx
    · exact h x hx
    · rw [List.mem_singleton] at hx;subst hx;exact hp
  · split
    · rename_i x hx
      intro y hy
      rcases List.mem_or_eq_of_mem_set hy with hy | hy
      · exact h y hy
      · subst hy;exact h x (List.mem_of_getElem? hx)
    · exact h
theorem addAll_ok {σ:Snap}:∀ (ps:List SRow) {s:GSt},(∀ x∈s.xs,LnOk σ x)->(∀ p∈ps,SrOk σ p)->∀ x∈(addAll s ps).xs,LnOk σ x
  | [],_,h,_=>h
  | p::ps,_,h,hp=>addAll_ok ps (addOne_ok h (hp p List.mem_cons_self)) fun q hq=>hp q (List.mem_cons_of_mem _ hq)
structure AdS where
  s:GSt
  bo:Option Addr
  bc:Nat
  io:Option Addr
  ic:Nat
structure AdM where
  xs:List GLine
  next:Int
  j:Nat
  bo:Option Addr
  bc:Nat
set_option maxRecDepth 100000 in
set_option maxHeartbeats 1000000 in
theorem Add_c (σ:Snap) (xs:List GLine) (next:Int) (ao:Option Addr) (cap:Nat) (H:SlAt σ ao xs.length cap 3 (lnRows xs)) (hx:∀ x∈xs,LnOk σ x) (ps:List SRow) (po:Option Addr) (pc:Nat) (P:SlAt σ po ps.length pc 1 (srRows ps)) (hp:∀ p∈ps,SrOk σ p)
    (m:Nat) (hfit:GFit m ⟨xs,next,[]⟩) (hm:m+ps.length<=1000000) :
    PureS Tryz.prog 106 [.agg [.v (.slice ao xs.length cap),.v (.int .i64 next)],.a (.v (.slice po ps.length pc))] σ (fun v σ'=>∃ bo bc io ic,v=.tuple #[.agg #[.slice bo (addAll ⟨xs,next,[]⟩ ps).xs.length bc,.int .i64 (addAll ⟨xs,next,[]⟩ ps).next],.slice io (addAll ⟨xs,next,[]⟩ ps).ids.length ic] /\
      SlAt σ' bo (addAll ⟨xs,next,[]⟩ ps).xs.length bc 3 (lnRows (addAll ⟨xs,next,[]⟩ ps).xs)/\SlAt σ' io (addAll ⟨xs,next,[]⟩ ps).ids.length ic 1 (idRows (addAll ⟨xs,next,[]⟩ ps).ids)):=by
  have hxl:=hfit.xs
  dsimp only at hxl
  refine enter_s Tryz.func106 rfl rfl (by (repeat' (first | exact trivial | refine AllLt.of ?_ | constructor))) fun w=>?_
  (repeat (first | refine cj_seq ?_ | refine cjr TT rfl ?_ | refine oj_then ?_))
  refine oj_callF [] (A0:=[]) (Ar:=[]) rfl rfl rfl rfl rfl rfl rfl Tryz.call170 (by (repeat' (first | exact trivial | constructor))) (CloneLn_c σ xs (by omega) ao cap H) fun v σ1 A1 hle ⟨bo0,bc0,hv,hcap,hA⟩=>⟨.a (.v (.slice bo0 xs.length bc0)),trivial,hv.symm,?_⟩
  subst hA
  have hx:=fun x h=>(hx x h).mono hle
  have hp:=fun p h=>(hp p h).mono hle
  have P:=P.mono hle
  refine oj_run TT rfl ?_
  (repeat (first | refine cj_seq ?_ | refine cjr TT rfl ?_ | refine oj_then ?_ | refine cj_block ?_))
  refine cj_nilarr 3 1 ?_
  refine cj_cutB (fun (s:AdS)=>σ1) (fun s=>[(2,.a (.p 0 0)),(4,.a (.p 1 0)),(6,.a (.v (.slice s.io s.s.ids.length s.ic)))]) (fun s=>[(0,.loc 57,[.v (.slice s.bo s.s.xs.length s.bc),.v (.int .i64 s.s.next)]),(1,.loc 57,[.v (.slice none 0 0),.v (.int .i64 0)])])
    (fun s=>[lnE s.bo s.bc s.s.xs,idE s.io s.ic s.s.ids]) 2 (fun s=>s.s=addAll ⟨xs,next,[]⟩ ps/\s.s.xs.length<=s.bc/\s.s.ids.length<=s.ic) ?_ (fun s hs=>?_)
  rotate_left
  · obtain ⟨h1,h2,h3⟩:=hs
    obtain ⟨s,bo,bc,io,ic⟩:=s
    dsimp only at h1 h2 h3 ⊢
    subst h1
    (repeat (first | refine cj_seq ?_ | refine cjr TT rfl ?_ | refine oj_then ?_ | refine cj_ret ?_))
    refine nj_seal 0 rfl rfl fun σ2 hle2 hS1=>?_
    refine nj_seal 0 rfl rfl fun σ3 hle3 hS2=>?_
    refine nj_ret TT rfl fun β w' _ _=>?_
    exact ⟨bo,bc,io,ic,rfl,(ln_sealed hS1 h2).mono hle3,id_sealed hS2 h3⟩
  refine cj_loop2 (fun _ (_:AdS)=>σ1) (fun (k:Nat) s=>[(2,.a (.p 0 0)),(4,.a (.p 1 0)),(6,.a (.v (.slice s.io s.s.ids.length s.ic))),(14,.a (.v (.slice po ps.length pc))),(15,.a (.v (.int .i64 ps.length))),(16,.a (.v (.int .i64 k)))])
    (fun _ s=>[(0,.loc 57,[.v (.slice s.bo s.s.xs.length s.bc),.v (.int .i64 s.s.next)]),(1,.loc 57,[.v (.slice none 0 0),.v (.int .i64 0)])]) (fun _ s=>[lnE s.bo s.bc s.s.xs,idE s.io s.ic s.s.ids]) 2
    (fun k s=>k<=ps.length/\s.s=addAll ⟨xs,next,[]⟩ (ps.take k)/\s.s.xs.length<=s.bc/\s.s.ids.length<=s.ic) (fun k _=>ps.length - k) 0 ⟨⟨xs,next,[]⟩,bo0,bc0,none,0⟩ ⟨Nat.zero_le _,rfl,hcap,Nat.le_refl _⟩ rfl (by (repeat first | exact trivial | refine ⟨rfl,?_⟩)) (by (repeat first | exact trivial | refine ⟨rfl,?_⟩)) rfl (by (repeat' (first | exact trivial | exact Nat.le_of_ble_eq_true rfl | constructor))) (by (repeat' (first | exact trivial | exact Nat.le_of_ble_eq_true rfl | refine AllLt.of ?_ | constructor))) fun k ⟨s,bo,bc,io,ic⟩ ⟨hk,hs,hbc,hic⟩=>?_
  dsimp only at hs hbc hic ⊢
  (repeat (first | refine cj_seq ?_ | refine cjr TT rfl ?_ | refine oj_then ?_))
  refine cj_if rfl (fun h=>?_) (fun h=>?_)
  rotate_left
  · have hk0:k=ps.length:=by have:=of_decide_eq_false h;omega
    subst hk0
    rw [List.take_length] at hs
    (repeat (first | refine cj_exit ?_ | refine nj_then_exit ?_ | refine nj_block_out ?_))
    refine nj_again (⟨s,bo,bc,io,ic⟩:AdS) ⟨hs,hbc,hic⟩ Nat.zero_lt_one rfl (by (repeat first | exact trivial | refine ⟨rfl,?_⟩)) (by (repeat first | exact trivial | refine ⟨rfl,?_⟩)) rfl (by (repeat' (first | exact trivial | exact Nat.le_of_ble_eq_true rfl | constructor))) (by (repeat' (first | exact trivial | exact Nat.le_of_ble_eq_true rfl | refine AllLt.of ?_ | constructor)))
  have hkl:k<ps.length:=by have:=of_decide_eq_true h;omega
  have hrow:=srRows_get (List.getElem?_eq_getElem hkl)
  have hpo:=hp ps[k] (List.getElem_mem hkl)
  have hnext:addAll ⟨xs,next,[]⟩ (ps.take (k+1))=addOne s ps[k]:=by
    rw [List.take_succ_eq_append_getElem hkl,hs]
    unfold addAll
    rw [List.foldl_append]
    rfl
  have hF:GFit 999999 s:=by
    have:=addAll_fit (ps.take k) hfit
    rw [<-hs,List.length_take] at this
    exact this.mono (by omega)
  have hF1:=hF.xs
  have hF2:=hF.ids
  have hF3:=hF.next
  have hxs:∀ x∈s.xs,LnOk σ1 x:=by
    have:=addAll_ok (σ:=σ1) (ps.take k) (s:=⟨xs,next,[]⟩) hx fun p h=>hp p (List.mem_of_mem_take h)
    rw [<-hs] at this
    exact this
  clear hs
  generalize ps[k]=p at *
  (repeat (first | refine cj_seq ?_ | refine cjr TT rfl ?_ | refine cj_skip ?_ | refine cj_block ?_ | refine nj_then ?_))
  refine oj_idx TT rfl rfl rfl rfl rfl rfl rfl rfl rfl P (by omega) hrow (oj_run TT rfl ?_)
  (repeat (first | refine cj_seq ?_ | refine cjr TT rfl ?_ | refine oj_then ?_))
  refine oj_peekP rfl rfl rfl rfl rfl Tryz.call116 (by (repeat' (first | exact trivial | refine AllLt.of ?_ | constructor))) (fun σ' h1 h2=>line_c σ' s.xs (by omega) bo bc s.next (ln_sealed (h2 0 _ rfl) hbc) (fun x h=>(hxs x h).mono h1) p.ss p.ao p.cap (hpo.mono h1).2) fun v hv=>⟨.a (.v (.int .i64 (lineG s.xs p.ss))),trivial,hv.symm,?_⟩
  refine oj_run TT rfl ?_
  (repeat (first | refine cj_seq ?_ | refine cjr TT rfl ?_ | refine oj_then ?_))
  refine cj_cutN (fun (_:AdM)=>σ1) (fun q=>[(2,.a (.p 0 0)),(4,.a (.p 1 0)),(6,.a (.v (.slice io s.ids.length ic))),(9,.a (.v (.int .i64 q.j))),(14,.a (.v (.slice po ps.length pc))),(15,.a (.v (.int .i64 ps.length))),(16,.a (.v (.int .i64 k)))])
    (fun q=>[(0,.loc 57,[.v (.slice q.bo q.xs.length q.bc),.v (.int .i64 q.next)]),(1,.loc 57,[.v (.slice none 0 0),.v (.int .i64 0)])]) (fun q=>[lnE q.bo q.bc q.xs,idE io ic s.ids]) 2
    (fun q=>q.xs.length<=q.bc/\∃ x,q.xs[q.j]?=some x/\(-1000000<=x.cnt/\x.cnt<=1000000)/\(⟨q.xs.set q.j x.more,q.next,s.ids++[x.id]⟩:GSt)=addOne s p) ?_ (fun q hq=>?_)
  · have hlb:=lineG_bd s.xs p.ss
    refine cj_if rfl (fun h=>?_) (fun h=>?_)
    · have h:=of_decide_eq_true h
      have e:(s.xs++[newLn s.next p]).length=s.xs.length+1:=by simp
      have hadd:addOne s p=⟨(s.xs++[newLn s.next p]).set s.xs.length (newLn s.next p).more,s.next+1,s.ids++[s.next]⟩:=by
        unfold addOne
        rw [if_pos h,List.set_append_right _ _ (Nat.le_refl _),Nat.sub_self]
        rfl
      (repeat (first | refine cj_seq ?_ | refine cjr TT rfl ?_ | refine oj_then ?_))
      refine oj_append_lit TT 0 rfl rfl rfl rfl rfl rfl rfl rfl rfl rfl rfl rfl rfl rfl rfl rfl rfl rfl (by (repeat' (first | exact trivial | refine AllLt.of ?_ | constructor))) rfl (by omega) (by show (s.xs.length+1)*40<=_;omega) fun ao' cap' hcap'=>oj_run TT rfl ?_
      (repeat (first | refine cjr TT rfl ?_ | refine oj_then ?_ | refine oj_nil ?_ | (refine oj_add rfl rfl rfl rfl rfl rfl (by omega) ?_;refine oj_run TT rfl ?_)))
      refine nj_again (⟨s.xs++[newLn s.next p],s.next+1,s.xs.length,ao',cap'⟩:AdM) ⟨by dsimp only;omega,newLn s.next p,by simp,by show (-1000000:Int)<=0/\(0:Int)<=1000000;omega,hadd.symm⟩ Nat.zero_lt_one rfl (by (repeat first | exact trivial | refine ⟨rfl,?_⟩)) ?_ ?_ (by (repeat' (first | exact trivial | exact Nat.le_of_ble_eq_true rfl | constructor))) (by (repeat' (first | exact trivial | exact Nat.le_of_ble_eq_true rfl | refine AllLt.of ?_ | constructor)))
      · dsimp only
        rw [e]
        (repeat first | exact trivial | refine ⟨rfl,?_⟩)
      · show [_,_]=[_,_]
        dsimp only
        unfold lnE
        rw [lnXs_append,e]
        rfl
    · have h:=of_decide_eq_false h
      obtain ⟨j,hj⟩:∃ j:Nat,lineG s.xs p.ss=j:=⟨(lineG s.xs p.ss).toNat,by omega⟩
      have hjl:j<s.xs.length:=by omega
      have hadd:addOne s p=⟨s.xs.set j s.xs[j].more,s.next,s.ids++[s.xs[j].id]⟩:=by
        unfold addOne
        rw [if_neg h,hj,Int.toNat_natCast,List.getElem?_eq_getElem hjl]
      rw [hj]
      have hc:=hF.cnt _ (List.getElem_mem hjl)
      (repeat refine cj_skip ?_)
      refine nj_again (⟨s.xs,s.next,j,bo,bc⟩:AdM) ⟨hbc,s.xs[j],List.getElem?_eq_getElem hjl,by omega,hadd.symm⟩ Nat.zero_lt_one rfl (by (repeat first | exact trivial | refine ⟨rfl,?_⟩)) (by (repeat first | exact trivial | refine ⟨rfl,?_⟩)) rfl (by (repeat' (first | exact trivial | exact Nat.le_of_ble_eq_true rfl | constructor))) (by (repeat' (first | exact trivial | exact Nat.le_of_ble_eq_true rfl | refine AllLt.of ?_ | constructor)))
  obtain ⟨mxs,mnext,j,mbo,mbc⟩:=q
  obtain ⟨hmc,x,hxj,hxc,hadd⟩:=hq
  dsimp only at hmc hxj hxc hadd ⊢
  have hjl:=(List.getElem?_eq_some_iff.1 hxj).1
  refine cj_arrAt 0 (E:=lnE mbo mbc mxs) rfl (show 0<mxs.length by omega) fun gb hgb=>?_
  have hgb:mbo=some ⟨gb,0,none⟩:=hgb
  subst hgb
  have had:∀ q:Nat,some (SV.a (AT.v (.pointer (some (Addr.add (Addr.add ⟨gb,0,none⟩ ((j:Int).toNat*3)) q)))))=some (SV.a (AT.v (.pointer (some ⟨gb,j*3+q,none⟩)))):=fun q=>by
    rw [Int.toNat_natCast,add0,Addr.add_lit]
  (repeat (first | refine cj_seq ?_ | refine cjr TT rfl ?_))
  refine oj_indexAddr TT rfl rfl rfl rfl rfl rfl rfl rfl rfl ⟨by omega,by omega⟩ (oj_run TT rfl ?_)
  refine oj_ldA 0 (off:=j*3+2) (c:=.v (.int .i64 x.cnt)) TT rfl rfl rfl rfl rfl (had 2) rfl rfl rfl rfl (lnXs_get hxj rfl) trivial (oj_run TT rfl ?_)
  refine oj_add rfl rfl rfl rfl rfl rfl (by omega) (oj_run TT rfl ?_)
  refine oj_indexAddr TT rfl rfl rfl rfl rfl rfl rfl rfl rfl ⟨by omega,by omega⟩ (oj_run TT rfl ?_)
  refine oj_stA 0 (off:=j*3+2) (A':=[lnE (some ⟨gb,0,none⟩) mbc (mxs.set j x.more),idE io ic s.ids]) TT rfl rfl rfl rfl (had 2) rfl rfl rfl rfl rfl (by show j*3+2<mxs.length*3;omega) trivial rfl ?_ (oj_run TT rfl ?_)
  · show [_,_]=[_,_]
    unfold lnE
    rw [<-lnXs_set (j:=2) (r':=x.more) (.v (.int .i64 (x.cnt+1))) hxj (by omega) rfl,List.length_set]
  have hxj':(mxs.set j x.more)[j]?=some x.more:=by rw [List.getElem?_set,if_pos rfl,if_pos hjl]
  (repeat (first | refine cjr TT rfl ?_ | refine oj_then ?_))
  refine oj_indexAddr TT rfl rfl rfl rfl rfl rfl rfl rfl rfl ⟨by omega,by omega⟩ (oj_run TT rfl ?_)
  refine oj_ldA 0 (off:=j*3+0) (c:=.v (.int .i64 x.id)) TT rfl rfl rfl rfl rfl (had 0) rfl rfl rfl rfl (lnXs_get (j:=0) hxj' rfl) trivial (oj_run TT rfl ?_)
  refine oj_append_lit TT 1 rfl rfl rfl rfl rfl rfl rfl rfl rfl rfl rfl rfl rfl rfl rfl rfl rfl rfl (by (repeat' (first | exact trivial | refine AllLt.of ?_ | constructor))) rfl (by omega) (by show (s.ids.length+1)*8<=_;omega) fun io' ic' hic'=>oj_run TT rfl ?_
  (repeat (first | refine cjr TT rfl ?_ | refine oj_nil ?_ | refine nj_then ?_ | refine nj_block ?_ | (refine oj_add rfl rfl rfl rfl rfl rfl (by omega) ?_;refine oj_run TT rfl ?_)))
  refine nj_again (k+1,(⟨⟨mxs.set j x.more,mnext,s.ids++[x.id]⟩,some ⟨gb,0,none⟩,mbc,io',ic'⟩:AdS)) ⟨hkl,by dsimp only;rw [hadd,hnext],by dsimp only;rw [List.length_set];exact hmc,by dsimp only;rw [List.length_append];exact hic'⟩ (by dsimp only;omega) rfl ?_ ?_ ?_ (by (repeat' (first | exact trivial | exact Nat.le_of_ble_eq_true rfl | constructor))) (by (repeat' (first | exact trivial | exact Nat.le_of_ble_eq_true rfl | refine AllLt.of ?_ | constructor)))
  · dsimp only
    rw [List.length_append]
    (repeat first | exact trivial | refine ⟨rfl,?_⟩)
  · dsimp only
    rw [List.length_set]
    (repeat first | exact trivial | refine ⟨rfl,?_⟩)
  · show [_,_]=[_,_]
    dsimp only
    unfold idE idXs
    rw [List.map_append,List.length_append]
    rfl
end Go.Sy
namespace Go.Sy
open Go.Proofs
def sndFrom (all:List GLine) (next:Int):List GLine->Nat->Int->Bool
  | [],_,_=>true
  | x::l,k,last=>if x.id<=last then false else if next<=x.id then false else if x.cnt<1 then false else if lineG all x.st=k then sndFrom all next l (k+1) x.id else false
def soundGd (xs:List GLine) (next:Int):Bool:=sndFrom xs next xs 0 (-1)
set_option maxRecDepth 100000 in
set_option maxHeartbeats 1000000 in
theorem SoundGd_c (σ:Snap) (xs:List GLine) (hl:xs.length<=140737488355328) (ao:Option Addr) (cap:Nat) (next:Int) (H:SlAt σ ao xs.length cap 3 (lnRows xs)) (hx:∀ x∈xs,LnOk σ x) :
    PlainS Tryz.prog 45 [.agg [.v (.slice ao xs.length cap),.v (.int .i64 next)]] σ (fun v=>v=.bool (soundGd xs next)):=by
  refine enter_p Tryz.func45 rfl rfl (by (repeat' (first | exact trivial | refine AllLt.of ?_ | constructor))) fun w=>?_
  (repeat (first | refine cj_seq ?_ | refine cjr TT rfl ?_ | refine oj_then ?_ | refine cj_block ?_))
  refine cj_loop2 (fun _ _=>σ) (fun (k:Nat) (last:Int)=>[(1,.a (.p 0 0)),(3,.a (.v (.int .i64 last))),(7,.a (.v (.slice ao xs.length cap))),(8,.a (.v (.int .i64 xs.length))),(9,.a (.v (.int .i64 k)))]) (fun _ _=>[(0,.loc 57,[.v (.slice ao xs.length cap),.v (.int .i64 next)])]) (fun _ _=>[]) 1
    (fun k last=>k<=xs.length/\sndFrom xs next (xs.drop k) k last=soundGd xs next) (fun k _=>xs.length - k) 0 (-1) ⟨Nat.zero_le _,rfl⟩ rfl (by (repeat first | exact trivial | refine ⟨rfl,?_⟩)) (by (repeat first | exact trivial | refine ⟨rfl,?_⟩)) rfl (by (repeat' (first | exact trivial | exact Nat.le_of_ble_eq_true rfl | constructor))) (by (repeat' (first | exact trivial | exact Nat.le_of_ble_eq_true rfl | refine AllLt.of ?_ | constructor))) fun k last ⟨hk,hp⟩=>?_
  (repeat (first | refine cj_seq ?_ | refine cjr TT rfl ?_ | refine oj_then ?_))
  refine cj_if rfl (fun h=>?_) (fun h=>?_)
  rotate_left
  · have hk0:k=xs.length:=by have:=of_decide_eq_false h;omega
    subst hk0
    rw [List.drop_length] at hp
    (repeat (first | refine cj_seq ?_ | refine cjr TT rfl ?_ | refine oj_then ?_ | refine cj_exit ?_ | refine cj_ret ?_ | refine nj_then ?_ | refine nj_then_exit ?_ | refine nj_block_out ?_))
    refine nj_ret TT rfl fun β w' _ _=>?_
    rw [<-hp]
    rfl
  have hkl:k<xs.length:=by have:=of_decide_eq_true h;omega
  have hra:=lnRows_get (List.getElem?_eq_getElem hkl)
  have hxk:=hx xs[k] (List.getElem_mem hkl)
  rw [List.drop_eq_getElem_cons hkl,sndFrom] at hp
  generalize xs[k]=x at *
  (repeat (first | refine cj_seq ?_ | refine cjr TT rfl ?_ | refine cj_skip ?_ | refine cj_block ?_ | refine nj_then ?_))
  refine oj_idx TT rfl rfl rfl rfl rfl rfl rfl rfl rfl H (by omega) hra (oj_run TT rfl ?_)
  (repeat (first | refine cj_seq ?_ | refine cjr TT rfl ?_ | refine oj_then ?_))
  refine oj_split 18 rfl (fun h1=>?_) (fun h1=>?_)
  · have h1:decide (x.id<=last)=true:=h1
    rw [if_pos (of_decide_eq_true h1)] at hp
    refine oj_run TT rfl ?_
    (repeat (first | refine cj_seq ?_ | refine cjr TT rfl ?_ | refine oj_then ?_ | refine cj_if_t rfl ?_ | refine cj_ret ?_ | refine nj_then_ret ?_ | refine nj_block_ret ?_))
    refine nj_ret TT rfl fun β w' _ _=>?_
    rw [<-hp]
    rfl
  have h1:decide (x.id<=last)=false:=h1
  rw [if_neg (of_decide_eq_false h1)] at hp
  refine oj_run TT rfl ?_
  refine oj_split 25 rfl (fun h2=>?_) (fun h2=>?_)
  · have h2:decide (x.id≥next)=true:=h2
    rw [if_pos (of_decide_eq_true h2)] at hp
    refine oj_run TT rfl ?_
    (repeat (first | refine cj_seq ?_ | refine cjr TT rfl ?_ | refine oj_then ?_ | refine cj_if_t rfl ?_ | refine cj_ret ?_ | refine nj_then_ret ?_ | refine nj_block_ret ?_))
    refine nj_ret TT rfl fun β w' _ _=>?_
    rw [<-hp]
    rfl
  have h2:decide (x.id≥next)=false:=h2
  rw [if_neg (of_decide_eq_false h2)] at hp
  refine oj_run TT rfl ?_
  refine oj_split 30 rfl (fun h3=>?_) (fun h3=>?_)
  · have h3:decide (x.cnt<1)=true:=h3
    rw [if_pos (of_decide_eq_true h3)] at hp
    refine oj_run TT rfl ?_
    (repeat (first | refine cj_seq ?_ | refine cjr TT rfl ?_ | refine oj_then ?_ | refine cj_if_t rfl ?_ | refine cj_ret ?_ | refine nj_then_ret ?_ | refine nj_block_ret ?_))
    refine nj_ret TT rfl fun β w' _ _=>?_
    rw [<-hp]
    rfl
  have h3:decide (x.cnt<1)=false:=h3
  rw [if_neg (of_decide_eq_false h3)] at hp
  refine oj_run TT rfl ?_
  refine oj_callP rfl rfl rfl rfl rfl Tryz.call116 (by (repeat' (first | exact trivial | refine AllLt.of ?_ | constructor))) (line_c σ xs hl ao cap next H hx x.st x.ao x.cap hxk.2) fun v hv=>⟨.a (.v (.int .i64 (lineG xs x.st))),trivial,hv.symm,?_⟩
  refine oj_run TT rfl ?_
  (repeat refine oj_then ?_)
  refine cj_if rfl (fun h=>?_) (fun h=>?_)
  · have h:¬ lineG xs x.st=k:=by simpa using h
    rw [if_neg h] at hp
    (repeat (first | refine cj_seq ?_ | refine cjr TT rfl ?_ | refine oj_then ?_ | refine cj_ret ?_ | refine nj_then_ret ?_ | refine nj_block_ret ?_))
    refine nj_ret TT rfl fun β w' _ _=>?_
    rw [<-hp]
    rfl
  · have h:lineG xs x.st=k:=by simpa using h
    rw [if_pos h] at hp
    (repeat (first | refine cjr TT rfl ?_ | refine oj_nil ?_ | refine cj_skip ?_ | refine nj_then ?_ | refine nj_block ?_ | (refine oj_add rfl rfl rfl rfl rfl rfl (by omega) ?_;refine oj_run TT rfl ?_)))
    refine nj_again (k+1,x.id) ⟨hkl,hp⟩ (by dsimp only;omega) rfl (by (repeat first | exact trivial | refine ⟨rfl,?_⟩)) (by (repeat first | exact trivial | refine ⟨rfl,?_⟩)) rfl (by (repeat' (first | exact trivial | exact Nat.le_of_ble_eq_true rfl | constructor))) (by (repeat' (first | exact trivial | exact Nat.le_of_ble_eq_true rfl | refine AllLt.of ?_ | constructor)))
end Go.Sy
/- Plain laws on summaries that paths are counted in. No program in sight. -/
namespace Go.Sy
theorem findG_map {α β:Type} (q:β->Bool) (f:α->β):∀ (l:List α) (k:Nat),findG q (l.map f) k=findG (fun x=>q (f x)) l k
  | [],_=>rfl
  | x::l,k=>by simp only [List.map_cons,findG,findG_map q f l]
theorem findG_ge {α:Type} (q:α->Bool):∀ (l:List α) (k:Nat),findG q l k = -1\/(k:Int)<=findG q l k
  | [],_=>.inl rfl
  | x::l,k=>by
    simp only [findG]
    split
    · exact .inr (Int.le_refl _)
    · rcases findG_ge q l (k+1) with h | h
      · exact .inl h
      · exact .inr (by omega)
theorem findG_app {α:Type} (q:α->Bool):∀ (l m:List α) (k:Nat),findG q (l++m) k=if findG q l k<0 then findG q m (k+l.length) else findG q l k
  | [],m,k=>by simp [findG]
  | x::l,m,k=>by
    simp only [List.cons_append,findG,List.length_cons]
    split
    · rw [if_neg (by omega)]
    · rw [findG_app q l m (k+1),show k+1+l.length=k+(l.length+1) by omega]
theorem findG_neg {α:Type} {q:α->Bool}:∀ {l:List α} {k:Nat},findG q l k<0->∀ x∈l,q x=false
  | x::l,k,h,y,hy=>by
    simp only [findG] at h
    split at h
    · omega
    · rename_i hx
      cases hy with
      | head=>simpa using hx
      | tail _ hy=>exact findG_neg h y hy
theorem findG_some {α:Type} {q:α->Bool}:∀ {l:List α} {k:Nat} {j:Nat},findG q l k=(k+j:Nat)->∃ x,l[j]?=some x/\q x=true
  | x::l,k,j,h=>by
    simp only [findG] at h
    split at h
    · rename_i hx
      have:j=0:=by omega
      subst this
      exact ⟨x,rfl,hx⟩
    · have hb:=findG_ge q l (k+1)
      obtain ⟨j,rfl⟩:∃ i,j=i+1:=⟨j - 1,by omega⟩
      obtain ⟨y,h1,h2⟩:=findG_some (l:=l) (k:=k+1) (j:=j) (by rw [h];congr 1;omega)
      exact ⟨y,by simpa using h1,h2⟩
  | [],k,j,h=>by simp only [findG] at h;omega
theorem lineG_st (xs:List GLine) (s:List ByteArray):lineG xs s=findG (fun t=>decide (t=s)) (xs.map GLine.st) 0:=by
  rw [findG_map]
  rfl
theorem lineG_at {xs:List GLine} {s:List ByteArray} {j:Nat} (h:lineG xs s=j):∃ x,xs[j]?=some x/\x.st=s:=by
  obtain ⟨x,h1,h2⟩:=findG_some (k:=0) (j:=j) (by rw [Nat.zero_add];exact h)
  exact ⟨x,h1,of_decide_eq_true h2⟩
theorem addOne_new {s:GSt} {p:SRow} (h:lineG s.xs p.ss<0):addOne s p=⟨s.xs++[(newLn s.next p).more],s.next+1,s.ids++[s.next]⟩:=if_pos h
theorem addOne_old {s:GSt} {p:SRow} {j:Nat} {x:GLine} (h:lineG s.xs p.ss=j) (hx:s.xs[j]?=some x):addOne s p=⟨s.xs.set j x.more,s.next,s.ids++[x.id]⟩:=by
  unfold addOne
  rw [if_neg (by omega),h,Int.toNat_natCast,hx]
theorem map_st_set {xs:List GLine} {j:Nat} {x:GLine} (hx:xs[j]?=some x):(xs.set j x.more).map GLine.st=xs.map GLine.st:=by
  rw [List.map_set]
  apply List.ext_getElem?
  intro i
  rw [List.getElem?_set]
  split
  · rename_i h
    subst h
    have hlt:=(List.getElem?_eq_some_iff.1 hx).1
    rw [if_pos (by simpa using hlt),List.getElem?_map,hx]
    rfl
  · rfl
structure GInv (s:GSt):Prop where
  next:s.next=s.xs.length
  at_:∀ (j:Nat) x,s.xs[j]?=some x->x.id=j/\1<=x.cnt/\lineG s.xs x.st=j
theorem addOne_spec {s:GSt} (h:GInv s) (p:SRow):GInv (addOne s p)/\(∀ (j:Nat) x,s.xs[j]?=some x->∃ y,(addOne s p).xs[j]?=some y/\y.st=x.st/\y.id=x.id) /\
    ∃ (j:Nat) (y:GLine),(addOne s p).xs[j]?=some y/\y.st=p.ss/\(addOne s p).ids=s.ids++[y.id]:=by
  have hbd:=lineG_bd s.xs p.ss
  by_cases hn:lineG s.xs p.ss<0
  · rw [addOne_new hn]
    refine ⟨⟨by rw [h.next];simp,fun j x hx=>?_⟩,fun j x hx=>⟨x,?_,rfl,rfl⟩,s.xs.length,(newLn s.next p).more,by simp,rfl,rfl⟩
    · dsimp only at hx ⊢
      by_cases hj:j<s.xs.length
      · rw [List.getElem?_append_left hj] at hx
        obtain ⟨h1,h2,h3⟩:=h.at_ j x hx
        refine ⟨h1,h2,?_⟩
        unfold lineG at h3 ⊢
        rw [findG_app,if_neg (by omega),h3]
      · rw [List.getElem?_append_right (by omega)] at hx
        have hj0:j - s.xs.length=0:=by
          have:=(List.getElem?_eq_some_iff.1 hx).1
          simpa using this
        rw [hj0] at hx
        simp only [List.getElem?_cons_zero,Option.some.injEq] at hx
        subst hx
        have hjl:j=s.xs.length:=by omega
        subst hjl
        refine ⟨h.next,Int.le_refl _,?_⟩
        unfold lineG at hn ⊢
        rw [findG_app]
        show (if findG (fun x=>decide (x.st=p.ss)) s.xs 0<0 then findG (fun x=>decide (x.st=p.ss)) [(newLn s.next p).more] (0+s.xs.length) else _)=_
        rw [if_pos hn]
        simp only [findG]
        rw [if_pos (show decide ((newLn s.next p).more.st=p.ss)=true from decide_eq_true rfl),Nat.zero_add]
    · dsimp only
      rw [List.getElem?_append_left (List.getElem?_eq_some_iff.1 hx).1]
      exact hx
  · obtain ⟨j,hj⟩:∃ j:Nat,lineG s.xs p.ss=j:=⟨(lineG s.xs p.ss).toNat,by omega⟩
    obtain ⟨x,hx,hst⟩:=lineG_at hj
    have hlt:=(List.getElem?_eq_some_iff.1 hx).1
    rw [addOne_old hj hx]
    have hl:∀ t,lineG (s.xs.set j x.more) t=lineG s.xs t:=fun t=>by rw [lineG_st,lineG_st,map_st_set hx]
    have hself:(s.xs.set j x.more)[j]?=some x.more:=by rw [List.getElem?_set,if_pos rfl,if_pos hlt]
    refine ⟨⟨by dsimp only;rw [List.length_set];exact h.next,fun i y hy=>?_⟩,fun i y hy=>?_,j,x.more,hself,hst,rfl⟩
    · dsimp only at hy ⊢
      rw [hl]
      by_cases hij:j=i
      · subst hij
        rw [hself] at hy
        obtain rfl:=Option.some.inj hy
        obtain ⟨h1,h2,h3⟩:=h.at_ j x hx
        exact ⟨h1,by show 1<=x.cnt+1;omega,h3⟩
      · rw [List.getElem?_set,if_neg hij] at hy
        exact h.at_ i y hy
    · dsimp only
      by_cases hij:j=i
      · subst hij
        rw [hx] at hy
        obtain rfl:=Option.some.inj hy
        exact ⟨x.more,hself,rfl,rfl⟩
      · exact ⟨y,by rw [List.getElem?_set,if_neg hij];exact hy,rfl,rfl⟩
theorem addAll_inv:∀ (ps:List SRow) {s:GSt},GInv s->GInv (addAll s ps)/\(∀ (j:Nat) x,s.xs[j]?=some x->∃ y,(addAll s ps).xs[j]?=some y/\y.st=x.st/\y.id=x.id) /\
    ∃ t,(addAll s ps).ids=s.ids++t/\t.length=ps.length
  | [],s,h=>⟨h,fun j x hx=>⟨x,hx,rfl,rfl⟩,[],by rw [List.append_nil];rfl,rfl⟩
  | p::ps,s,h=>by
    obtain ⟨h1,h2,j0,y0,h3,h4,h5⟩:=addOne_spec h p
    obtain ⟨g1,g2,t,g3,g4⟩:=addAll_inv ps h1
    refine ⟨g1,fun j x hx=>?_,y0.id::t,?_,by simp [g4]⟩
    · obtain ⟨y,a1,a2,a3⟩:=h2 j x hx
      obtain ⟨z,b1,b2,b3⟩:=g2 j y a1
      exact ⟨z,b1,b2.trans a2,b3.trans a3⟩
    · show (addAll (addOne s p) ps).ids=_
      rw [g3,h5,List.append_assoc]
      rfl
theorem snd_of {s:GSt} (h:GInv s):∀ (l:List GLine) (k:Nat),s.xs.drop k=l->sndFrom s.xs s.next l k ((k:Int) - 1)=true
  | [],_,_=>rfl
  | x::l,k,hl=>by
    have hx:s.xs[k]?=some x:=by
      have:(s.xs.drop k)[0]?=some x:=by rw [hl];rfl
      simpa using this
    have hlt:=(List.getElem?_eq_some_iff.1 hx).1
    obtain ⟨h1,h2,h3⟩:=h.at_ k x hx
    have hn:=h.next
    rw [sndFrom,if_neg (by omega),if_neg (by omega),if_neg (by omega),if_pos h3,h1]
    have:=snd_of h l (k+1) (by rw [<-List.drop_drop,hl];rfl)
    rw [show (((k+1:Nat):Int) - 1)=(k:Int) by omega] at this
    exact this
theorem sound_of {s:GSt} (h:GInv s):soundGd s.xs s.next=true:=snd_of h s.xs 0 rfl
end Go.Sy
