/- Parts of the proof of CStreamsValues: S17, XCl, XRow, CFacts, SFacts, Cv. No conditions. -/
import Derived.Test.YtlonlnagmfdlbaaGreatDoorM11
import Derived.Carry
import Derived.RowKit
import Derived.ChangeStays
import Derived.ChangeSame
import Derived.ReadAgain
import Derived.SizedLaws
import Derived.Deep.DeepHandedRow
import Derived.ProofKit
import Derived.OpenShut
import Derived.Lay
import Derived.SevenTiedAt
import Derived.Stop.Joined
import Derived.Test.YtlonlnagmfdlbaaGreatDoorCards
import Derived.Test.YtlonlnagmfdlbaaGreatDoorTie
import Derived.Shelf.Vars
namespace Go.Sy
open Go.Proofs
mutual
theorem shredV_small (gap:Int):∀ (g:GVal) (lv:Int) (nm:Bool) (name:ByteArray) (now:Int),∀ r∈(shredV gap g lv nm name now).1,r.n.dg.size<=g.weight/\r.s.size<=g.weight
  | .mk k b n s l ks vs,lv,nm,name,now=>by
    intro r hr
    simp only [shredV,List.mem_cons,List.mem_append] at hr
    simp only [GVal.weight]
    rcases hr with rfl | hr | hr
    · exact ⟨by dsimp only;omega,by dsimp only;omega⟩
    · have:=shredL_small gap l (lv+1) (now+gap) r hr
      omega
    · have:=shredM_small gap vs ks (lv+1) (shredL gap l (lv+1) (now+gap)).2 r hr
      omega
theorem shredL_small (gap:Int):∀ (gs:List GVal) (lv now:Int),∀ r∈(shredL gap gs lv now).1,r.n.dg.size<=GVal.weights gs/\r.s.size<=GVal.weights gs
  | [],lv,now=>by intro r hr;cases hr
  | g::gs,lv,now=>by
    intro r hr
    simp only [shredL,List.mem_append] at hr
    simp only [GVal.weights]
    rcases hr with hr | hr
    · have:=shredV_small gap g lv false ⟨#[]⟩ now r hr
      omega
    · have:=shredL_small gap gs lv (shredV gap g lv false ⟨#[]⟩ now).2 r hr
      omega
theorem shredM_small (gap:Int):∀ (gs:List GVal) (ks:List ByteArray) (lv now:Int),∀ r∈(shredM gap gs ks lv now).1,r.n.dg.size<=GVal.weights gs/\r.s.size<=GVal.weights gs
  | [],ks,lv,now=>by intro r hr;simp [shredM] at hr
  | g::gs,[],lv,now=>by intro r hr;simp [shredM] at hr
  | g::gs,k::ks,lv,now=>by
    intro r hr
    simp only [shredM,List.mem_append] at hr
    simp only [GVal.weights]
    rcases hr with hr | hr
    · have:=shredV_small gap g lv true k now r hr
      omega
    · have:=shredM_small gap gs ks lv (shredV gap g lv true k now).2 r hr
      omega
end
theorem MadeOk.small {gap:Int} {X:GIx} {k:Nat} (h:MadeOk gap X k):FitIx X:=fun d hd r hr=>by
  obtain ⟨g,-,-,hw,e,-⟩:=h.doc d hd
  rw [e] at hr
  have:=shredV_small gap g 0 false emptyS 0 r hr
  exact ⟨Nat.le_trans (by omega) (show 300<=mostLen by decide),by omega⟩
theorem ixB_kinds (ds:List GDoc) (it:GItem):ixB ds it=[]\/∃ p,rightG p=true/\ixB ds it=pbytes p:=by
  unfold ixB
  cases recAt ds it with
  | none=>exact .inl rfl
  | some r =>
    dsimp only
    split
    · cases h:rightG (partR r).1 with
      | false=>exact .inl (pbytes_nil.2 h)
      | true=>exact .inr ⟨_,h,rfl⟩
    · exact .inl rfl
theorem strP_right (s:ByteArray):rightG (strP s)=true:=(right_iff _).2 (Rt.str s)
theorem btw_one {ds:List GDoc} {line:Int} {a b:ByteArray} (hb:b.data.toList=a.data.toList++[0]) {T:List GItem} (h:BtwG ds line (strP a) (strP b) T):eqG ds line (strP a)=T:=by
  unfold BtwG at h
  rw [if_pos ⟨strP_right a,strP_right b⟩] at h
  unfold eqG
  rw [if_pos (strP_right a)]
  refine (h.same _ fun x _=>?_).symm
  rw [Bool.eq_iff_iff,inB_iff,decide_eq_true_eq]
  rcases ixB_kinds ds x with e | ⟨p,hp,e⟩
  · rw [e]
    exact ⟨fun h=>absurd rfl h.1,fun h=>absurd h.symm (pbytes_ne (strP_right a))⟩
  · rw [e,part_between hp hb]
    exact ⟨fun h=>h.2,fun h=>⟨pbytes_ne hp,h⟩⟩
theorem btw_join {ds:List GDoc} {line:Int} {a b c:ByteArray} (hab:0<=Lib.compareBytes b.data.toList a.data.toList) (hbc:0<=Lib.compareBytes c.data.toList b.data.toList) {T1 T2 T3:List GItem}
    (h1:BtwG ds line (strP a) (strP b) T1) (h2:BtwG ds line (strP b) (strP c) T2) (h3:BtwG ds line (strP a) (strP c) T3):T1++T2=T3:=by
  unfold BtwG at h1 h2 h3
  rw [if_pos ⟨strP_right _,strP_right _⟩] at h1 h2 h3
  rw [<-strP_ord] at hab hbc
  exact (Stab.join (ixB ds) hab hbc h1 h2).uniq (kSWO _) h3
def gtB (a b:ByteArray):Bool:=!(Op.bytesLess a.toList b.toList||a.toList == b.toList)
theorem less_cmp:∀ {a b:List UInt8},Op.bytesLess a b=true->0<=Lib.compareBytes b a
  | _,[],h=>by unfold Op.bytesLess at h;cases h
  | [],_::_,_=>by show (0:Int)<=1;omega
  | x::a,y::b,h=>by
    unfold Op.bytesLess at h
    rw [Bool.or_eq_true,Bool.and_eq_true,decide_eq_true_eq,beq_iff_eq] at h
    rcases h with h | ⟨rfl,h⟩
    · rw [cb_gt h]
      omega
    · rw [cb_cons]
      exact less_cmp h
theorem gtB_cmp {a b:ByteArray} (h:gtB a b=false):0<=Lib.compareBytes b.data.toList a.data.toList:=by
  unfold gtB at h
  rw [Bool.not_eq_false',Bool.or_eq_true,beq_iff_eq] at h
  rw [<-ByteArray.toList_eq,<-ByteArray.toList_eq]
  rcases h with h | h
  · exact less_cmp h
  · rw [h,cb_refl]
    exact Int.le_refl _
section
variable {cf:Cf} {Q:Exit->Act->World->Prop} {σ:Snap} {env:Env} {hp:HP} {A:List AE} {nh:Nat} {it:Item} {rest:List Item}
theorem oj_strgt {d:Nat} {x y:Operand} {t yt:TypeId} {a b:ByteArray} (hop:it.o.op=.binOp .gtr t x y yt) (hd:it.o.dst=some d) (hg:guardVal it.guard env=some true) (hN:Nat.blt d cf.N=true)
    (hx:evalO env x=some (.a (.v (.string a)))) (hy:evalO env y=some (.a (.v (.string b))))
    (hk:OJ cf rest Q σ ((d,.a (.b (gtB a b)))::env) hp A nh):OJ cf (it::rest) Q σ env hp A nh:=by
  refine oj_val (.a (.b (gtB a b))) hd hg hN trivial (fun _ α β ha w=>?_) hk
  have h1:α.eval x=.string a:=evalO_eval ha hx
  have h2:α.eval y=.string b:=evalO_eval ha hy
  have hG:(eqGuard .gtr t x y (.string a) (.string b)).run cf.P w=.ok () w:=rfl
  have hB:(binOp .gtr t (.string a) (.string b)).run cf.P w=.ok (.bool (gtB a b)) w:=by
    simp only [binOp,Op.stringOp,Sem.run_pure]
    rfl
  simp only [execOp,hop,h1,h2,Sem.run_bind,hG,hB,Result.andThen_ok,Sem.run_pure]
  rfl
end
structure GqS where
  k:Nat
  X:GIx
def zeroB:ByteArray:=⟨#[0]⟩
theorem app_zero (a:ByteArray):(a++zeroB).data.toList=a.data.toList++[0]:=by
  show (a.append zeroB).data.toList=_
  rw [ByteArray.append_eq]
  simp [zeroB]
set_option maxRecDepth 100000 in
set_option maxHeartbeats 8000000 in
theorem StreamsValues_c (σ:Snap) (m:Int) (hm:σ.cell ⟨0,0,none⟩=some (.int .i64 m)) (gs:List GVal) (rows:List (List AT)) (lo:Option Addr) (lc:Nat) (H:SlAt σ lo gs.length lc 8 rows) (hl:gs.length<=140737488355328) (hR:RepL σ gs rows) (line:Int)
    (a b c:ByteArray) (ha:a.size<=mostLen) (hb:b.size<=mostLen) (hc:c.size<=mostLen) :
    PureS Tryz.prog 9 [.a (.v (.slice lo gs.length lc)),.a (.v (.int .i64 line)),.a (.v (.string a)),.a (.v (.string b)),.a (.v (.string c))] σ (fun v _=>v=.bool true):=by
  unfold mostLen at ha hb hc
  refine enter_s Tryz.func9 rfl rfl ⟨trivial,trivial,trivial,trivial,trivial,trivial⟩ fun w=>?_
  (repeat (first | refine cj_seq ?_ | refine cjr TT rfl ?_ | refine oj_then ?_))
  refine oj_callS rfl rfl rfl rfl rfl Tryz.call35 trivial (awake19_c σ m hm) fun v s0 hle0 hv=>⟨.a .tt,trivial,hv.symm,?_⟩
  have H:=H.mono hle0
  have hR:=hR.mono hle0
  have hm:=hle0.cell hm
  refine oj_run TT rfl ?_
  (repeat (first | refine cj_seq ?_ | refine cjr TT rfl ?_ | refine oj_then ?_))
  refine oj_split 31 rfl (fun h=>?_) (fun h=>?_)
  · refine oj_run TT rfl ?_
    (repeat (first | refine cj_seq ?_ | refine cjr TT rfl ?_ | refine oj_then ?_ | refine cj_if_t rfl ?_ | refine cj_ret ?_ | refine nj_then_ret ?_))
    refine nj_ret TT rfl fun β w' _ _=>?_
    rfl
  have h6:gs.length<=6:=by have:=of_decide_eq_false (show decide ((6:Int)<gs.length)=false from h);omega
  refine oj_run TT rfl ?_
  refine oj_add rfl rfl rfl rfl rfl rfl (by omega) (oj_run TT rfl ?_)
  refine oj_add rfl rfl rfl rfl rfl rfl (by omega) (oj_run TT rfl ?_)
  refine oj_split 42 rfl (fun h=>?_) (fun h=>?_)
  · refine oj_run TT rfl ?_
    (repeat (first | refine cj_seq ?_ | refine cjr TT rfl ?_ | refine oj_then ?_ | refine cj_if_t rfl ?_ | refine cj_ret ?_ | refine nj_then_ret ?_))
    refine nj_ret TT rfl fun β w' _ _=>?_
    rfl
  have hsz:a.size+b.size+c.size<=200:=by have:=of_decide_eq_false (show decide ((200:Int)<(a.size:Int)+b.size+c.size)=false from h);omega
  refine oj_run TT rfl ?_
  refine oj_strgt rfl rfl rfl rfl rfl rfl (oj_run TT rfl ?_)
  refine oj_split 47 rfl (fun h=>?_) (fun h=>?_)
  · refine oj_run TT rfl ?_
    (repeat (first | refine cj_seq ?_ | refine cjr TT rfl ?_ | refine oj_then ?_ | refine cj_if_t rfl ?_ | refine cj_ret ?_ | refine nj_then_ret ?_))
    refine nj_ret TT rfl fun β w' _ _=>?_
    rfl
  have hab:=gtB_cmp (show gtB a b=false from h)
  refine oj_run TT rfl ?_
  refine oj_strgt rfl rfl rfl rfl rfl rfl (oj_run TT rfl ?_)
  (repeat refine oj_then ?_)
  refine cj_if rfl (fun h=>?_) (fun h=>?_)
  · (repeat (first | refine cj_seq ?_ | refine cjr TT rfl ?_ | refine oj_then ?_ | refine cj_ret ?_ | refine nj_then_ret ?_))
    refine nj_ret TT rfl fun β w' _ _=>?_
    rfl
  have hbc:=gtB_cmp (show gtB b c=false from h)
  (repeat (first | refine cj_seq ?_ | refine cjr TT rfl ?_ | refine cj_skip ?_ | refine nj_then ?_))
  refine oj_callP rfl rfl rfl rfl rfl Tryz.call38 (by (repeat' exact trivial)) (New_c s0) fun v hv=>⟨.agg (ixCells ix0),ixCells_lt _ _,hv.symm,?_⟩
  refine oj_run TT rfl ?_
  (repeat (first | refine cj_seq ?_ | refine cjr TT rfl ?_ | refine oj_then ?_ | refine cj_block ?_))
  refine cj_loop2 (fun (s:Snap) (_:GqS)=>s) (fun _ t=>[(0,.a (.v (.slice lo gs.length lc))),(1,.a (.v (.int .i64 line))),(2,.a (.v (.string a))),(3,.a (.v (.string b))),(4,.a (.v (.string c))),(11,.a .tt),(12,.a (.p 0 0)),(13,.a (.v (.int .i64 (t.k:Nat))))]) (fun _ t=>[(0,.loc 60,ixCells t.X)]) (fun _ _=>[]) 1
    (fun s t=>s0.le s/\t.k<=gs.length/\IxAt s t.X/\MadeOk 1 t.X t.k) (fun _ t=>gs.length - t.k) s0 ⟨0,ix0⟩ ⟨Snap.le_refl _,Nat.zero_le _,ix0_at s0,made0 1⟩ rfl (by (repeat first | exact trivial | refine ⟨rfl,?_⟩)) (by (repeat first | exact trivial | refine ⟨rfl,?_⟩)) rfl ⟨trivial,trivial,trivial,trivial,trivial,trivial,by show 0<1;omega,trivial,trivial⟩
    (by exact ⟨⟨by omega,ixCells_lt 1 _⟩,trivial⟩) fun s ⟨k,X⟩ ⟨hle,hk,IX,M⟩=>?_
  dsimp only at hk IX M ⊢
  have H:=H.mono hle
  have hR:=hR.mono hle
  have hm:=hle.cell hm
  (repeat (first | refine cj_seq ?_ | refine cjr TT rfl ?_ | refine oj_then ?_))
  refine cj_if rfl (fun h=>?_) (fun h=>?_)
  · have hkl:k<gs.length:=by have:=of_decide_eq_true h;omega
    obtain ⟨r,hr1,hr2⟩:=hR.get (List.getElem?_eq_getElem hkl)
    generalize gs[k]=g at *
    obtain ⟨la,lc',lrows,ma,mc,vrows,rfl,V⟩:=hr2.open
    (repeat (first | refine cj_seq ?_ | refine cjr TT rfl ?_ | refine cj_skip ?_ | refine cj_block ?_ | refine nj_then ?_))
    refine oj_idx TT rfl rfl rfl rfl rfl rfl rfl rfl rfl H (by omega) hr1 (oj_run TT rfl ?_)
    refine oj_callP rfl rfl rfl rfl rfl Tryz.call13 (by (repeat' (first | exact trivial | exact vCells_lt _ _ _ _ _ _ | constructor))) (Few_c s g _ 200 V.rep (by omega) (by omega)) fun v ⟨fb,hv,hfew⟩=>⟨.a (.b fb),trivial,hv.symm,?_⟩
    refine oj_run TT rfl ?_
    (repeat refine oj_then ?_)
    refine cj_if rfl (fun h=>?_) (fun h=>?_)
    · (repeat (first | refine cj_seq ?_ | refine cjr TT rfl ?_ | refine oj_then ?_ | refine cj_ret ?_ | refine nj_then_ret ?_ | refine nj_block_ret ?_))
      refine nj_ret TT rfl fun β w' _ _=>?_
      rfl
    have hwg:g.weight<=300:=by
      have:=hfew (by simpa using h)
      omega
    (repeat (first | refine cj_seq ?_ | refine cjr TT rfl ?_ | refine cj_skip ?_ | refine nj_then ?_))
    refine oj_idx TT rfl rfl rfl rfl rfl rfl rfl rfl rfl H (by omega) hr1 (oj_run TT rfl ?_)
    refine oj_callS rfl rfl rfl rfl rfl Tryz.call39 ⟨vCells_lt _ _ _ _ _ _,trivial,trivial⟩ (Shred_s s g _ 1 V.rep (by omega)) fun v s1 hle1 ⟨ao,cap,hv,HL⟩=>⟨.tup [.a (.v (.slice ao (shredG g 1).1.length cap)),.a (.v (.int .i64 (shredG g 1).2))],(by (repeat' (first | exact trivial | refine SV.lt_tup ?_ | constructor))),hv.symm,?_⟩
    rw [shredG_k (by omega) (by omega)] at HL ⊢
    have IX:=IX.mono hle1
    by_cases hs:sane g≠0
    · rw [if_pos hs] at HL ⊢
      dsimp only at HL ⊢
      refine oj_run TT rfl ?_
      (repeat (first | refine cj_seq ?_ | refine cjr TT rfl ?_ | refine oj_then ?_))
      refine cj_if rfl (fun h=>absurd (by simpa using h) hs) (fun h=>?_)
      (repeat (first | refine cjr TT rfl ?_ | refine oj_nil ?_ | refine cj_skip ?_ | refine nj_then ?_ | refine nj_block ?_ | (refine oj_add rfl rfl rfl rfl rfl rfl (by omega) ?_;refine oj_run TT rfl ?_)))
      refine nj_again (s1,(⟨k+1,X⟩:GqS)) ⟨Snap.le_trans hle hle1,hkl,IX,M.skip⟩ (by dsimp only;omega) rfl (by (repeat first | exact trivial | refine ⟨rfl,?_⟩)) (by (repeat first | exact trivial | refine ⟨rfl,?_⟩)) rfl ⟨trivial,trivial,trivial,trivial,trivial,trivial,by show 0<1;omega,trivial,trivial⟩ (by exact ⟨⟨by omega,ixCells_lt 1 _⟩,trivial⟩)
    have hs:sane g=0:=by simpa using hs
    rw [if_neg (by simp [hs])] at HL ⊢
    dsimp only at HL ⊢
    obtain ⟨hc1,hc2,hc3,hsound,R,-⟩:=shred_facts V.rep (gap:=1) (by omega) (by omega) (by omega) hs rfl
    have hlev:=shred_levels (gap:=1) (by omega) g
    have hwf:=V.rep.wf
    generalize hLdef:(shredV 1 g 0 false emptyS 0).1=L at *
    refine oj_run TT rfl ?_
    (repeat (first | refine cj_seq ?_ | refine cjr TT rfl ?_ | refine oj_then ?_))
    refine cj_if rfl (fun _=>?_) (fun h=>absurd h (by decide))
    (repeat (first | refine cj_seq ?_ | refine cjr TT rfl ?_))
    have hnum:=M.num
    have hadd:=IxAdd_c s1 X IX M.idx k L R (by omega) hsound hlev ao cap HL (fun d hd=>(M.id d hd).2) (by omega) (k*300) M.fit (by omega)
    refine oj_set 78 (.agg (ixCells X)) rfl (ixCells_lt _ _) (fun _=>rfl) ?_
    refine oj_callS rfl rfl rfl rfl rfl Tryz.call40 ⟨ixCells_lt 0 X,(by (repeat' (first | exact trivial | refine AllLt.of ?_ | constructor))),trivial⟩ hadd fun v s2 hle2 ⟨X',hv,IX',hP',⟨lo',lc2,ids,hds⟩,hfit⟩=>⟨.tup [.agg (ixCells X'),.a (.v (.int .i64 0))],(by intro x hx;simp only [List.mem_cons,List.not_mem_nil,or_false] at hx;rcases hx with rfl | rfl;exact ixCells_lt 0 X';trivial),hv.symm,?_⟩
    refine oj_run TT rfl ?_
    (repeat (first | refine cj_seq ?_ | refine cjr TT rfl ?_ | refine oj_then ?_))
    refine cj_if rfl (fun h=>absurd h (by decide)) (fun _=>?_)
    (repeat (first | refine cjr TT rfl ?_ | refine oj_nil ?_ | refine cj_skip ?_ | refine nj_then ?_ | refine nj_block ?_ | (refine oj_add rfl rfl rfl rfl rfl rfl (by omega) ?_;refine oj_run TT rfl ?_)))
    have M':MadeOk 1 X' (k+1):=by
      refine ⟨hP',fun d hd=>?_,fun d hd=>?_,?_,hfit.mono (by omega)⟩
      · rw [hds] at hd
        rcases List.mem_append.1 hd with hd | hd
        · exact M.doc d hd
        · rw [List.mem_singleton] at hd
          subst hd
          exact ⟨g,hwf,hs,hwg,hLdef.symm,hsound,R,by show L.length<=300;omega⟩
      · rw [hds] at hd
        rcases List.mem_append.1 hd with hd | hd
        · have:=M.id d hd
          omega
        · rw [List.mem_singleton] at hd
          subst hd
          show 0<=(k:Int)/\(k:Int)<((k+1:Nat):Int)
          omega
      · rw [hds,List.length_append,List.length_singleton]
        omega
    refine nj_again (s2,(⟨k+1,X'⟩:GqS)) ⟨Snap.le_trans hle (Snap.le_trans hle1 hle2),hkl,IX',M'⟩ (by dsimp only;omega) rfl (by (repeat first | exact trivial | refine ⟨rfl,?_⟩)) (by (repeat first | exact trivial | refine ⟨rfl,?_⟩)) rfl ⟨trivial,trivial,trivial,trivial,trivial,trivial,by show 0<1;omega,trivial,trivial⟩ (by exact ⟨⟨by omega,ixCells_lt 1 _⟩,trivial⟩)
  have hk0:k=gs.length:=by have:=of_decide_eq_false h;omega
  have hnum:=M.num
  have hF:=M.small
  have ho:=M.idx.ord
  have hd:∀ d∈X.ds,d.ids.length=d.L.length/\d.L.length<=10000:=fun d hd=>⟨(M.idx.doc d hd).1,by obtain ⟨_,_,_,_,_,_,_,h⟩:=M.doc d hd;omega⟩
  have hpt:∀ s:ByteArray,s.size<=1000->(strP s).n.dg.size<=mostLen/\(strP s).s.size<=1000000:=fun s h=>⟨Nat.zero_le _,by show s.size<=1000000;omega⟩
  have hz:(a++zeroB).size=a.size+1:=ByteArray.size_append
  (repeat (first | refine cj_seq ?_ | refine cjr TT rfl ?_ | refine oj_then ?_ | refine cj_exit ?_ | refine nj_then ?_ | refine nj_then_exit ?_ | refine nj_block_out ?_ | (refine oj_band rfl rfl rfl rfl rfl rfl ?_;refine oj_run TT rfl ?_)))
  generalize bAnd .i64 line 15=K
  refine oj_set 96 (.agg (ixCells X)) rfl (ixCells_lt _ _) (fun _=>rfl) ?_
  refine oj_set 98 (.agg (paCells (strP a))) rfl (paCells_lt _ _) (fun _=>rfl) ?_
  refine oj_callS (ys:=[.agg (ixCells X),.a (.v (.int .i64 K)),.agg (paCells (strP a))]) rfl rfl rfl rfl rfl Tryz.call46 ⟨ixCells_lt 0 X,trivial,paCells_lt 0 _,trivial⟩ (EqualIx_c s m hm X IX (by omega) (fun d h=>⟨(hd d h).1,by have:=(hd d h).2;omega⟩) ho hF K (strP a) (hpt _ (by omega))) fun v t1 hlet1 ⟨oE,cE,hv,HE⟩=>⟨.a (.v (.slice oE (eqG X.ds K (strP a)).length cE)),trivial,hv.symm,?_⟩
  have IX:=IX.mono hlet1
  have hm:=hlet1.cell hm
  refine oj_run TT rfl ?_
  (repeat (first | refine cj_seq ?_ | refine cjr TT rfl ?_ | refine oj_then ?_))
  refine oj_strcat rfl rfl rfl rfl rfl rfl (by show a.size+1<=_;omega) (oj_run TT rfl ?_)
  refine oj_set 100 (.agg (ixCells X)) rfl (ixCells_lt _ _) (fun _=>rfl) ?_
  refine oj_set 102 (.agg (paCells (strP a))) rfl (paCells_lt _ _) (fun _=>rfl) ?_
  refine oj_set 105 (.agg (paCells (strP (a++zeroB)))) rfl (paCells_lt _ _) (fun _=>rfl) ?_
  refine oj_callS (ys:=[.agg (ixCells X),.a (.v (.int .i64 K)),.agg (paCells (strP a)),.agg (paCells (strP (a++zeroB)))]) rfl rfl rfl rfl rfl Tryz.call47 ⟨ixCells_lt 0 X,trivial,paCells_lt 0 _,paCells_lt 0 _,trivial⟩ (Between_c t1 m hm X IX (by omega) hd ho hF K (strP a) (strP (a++zeroB)) (hpt _ (by omega)) (hpt _ (by omega))) fun v t2 hlet2 ⟨T0,oT0,cT0,hv,bT0,lT0,_,HT0⟩=>⟨.a (.v (.slice oT0 T0.length cT0)),trivial,hv.symm,?_⟩
  have IX:=IX.mono hlet2
  have hm:=hlet2.cell hm
  have e0:=btw_one (app_zero a) bT0
  rw [e0] at HE ⊢
  have HE:=HE.mono hlet2
  refine oj_run TT rfl ?_
  (repeat (first | refine cj_seq ?_ | refine cjr TT rfl ?_ | refine oj_then ?_))
  refine oj_set 107 (.agg (ixCells X)) rfl (ixCells_lt _ _) (fun _=>rfl) ?_
  refine oj_set 109 (.agg (paCells (strP a))) rfl (paCells_lt _ _) (fun _=>rfl) ?_
  refine oj_set 110 (.agg (paCells (strP b))) rfl (paCells_lt _ _) (fun _=>rfl) ?_
  refine oj_callS (ys:=[.agg (ixCells X),.a (.v (.int .i64 K)),.agg (paCells (strP a)),.agg (paCells (strP b))]) rfl rfl rfl rfl rfl Tryz.call47 ⟨ixCells_lt 0 X,trivial,paCells_lt 0 _,paCells_lt 0 _,trivial⟩ (Between_c t2 m hm X IX (by omega) hd ho hF K (strP a) (strP b) (hpt _ (by omega)) (hpt _ (by omega))) fun v t3 hlet3 ⟨T1,oT1,cT1,hv,bT1,lT1,_,HT1⟩=>⟨.a (.v (.slice oT1 T1.length cT1)),trivial,hv.symm,?_⟩
  have IX:=IX.mono hlet3
  have hm:=hlet3.cell hm
  have HE:=HE.mono hlet3
  have HT0:=HT0.mono hlet3
  refine oj_run TT rfl ?_
  (repeat (first | refine cj_seq ?_ | refine cjr TT rfl ?_ | refine oj_then ?_))
  refine oj_set 112 (.agg (ixCells X)) rfl (ixCells_lt _ _) (fun _=>rfl) ?_
  refine oj_set 114 (.agg (paCells (strP b))) rfl (paCells_lt _ _) (fun _=>rfl) ?_
  refine oj_set 115 (.agg (paCells (strP c))) rfl (paCells_lt _ _) (fun _=>rfl) ?_
  refine oj_callS (ys:=[.agg (ixCells X),.a (.v (.int .i64 K)),.agg (paCells (strP b)),.agg (paCells (strP c))]) rfl rfl rfl rfl rfl Tryz.call47 ⟨ixCells_lt 0 X,trivial,paCells_lt 0 _,paCells_lt 0 _,trivial⟩ (Between_c t3 m hm X IX (by omega) hd ho hF K (strP b) (strP c) (hpt _ (by omega)) (hpt _ (by omega))) fun v t4 hlet4 ⟨T2,oT2,cT2,hv,bT2,lT2,_,HT2⟩=>⟨.a (.v (.slice oT2 T2.length cT2)),trivial,hv.symm,?_⟩
  have IX:=IX.mono hlet4
  have hm:=hlet4.cell hm
  have HE:=HE.mono hlet4
  have HT0:=HT0.mono hlet4
  have HT1:=HT1.mono hlet4
  refine oj_run TT rfl ?_
  (repeat (first | refine cj_seq ?_ | refine cjr TT rfl ?_ | refine oj_then ?_))
  refine oj_own 4 0 5 rfl (fun c hc=>by cases hc) rfl (by decide) fun g4=>?_
  refine oj_append_sl TT 0 rfl rfl rfl rfl rfl rfl rfl HT1 rfl rfl rfl rfl rfl rfl rfl rfl rfl (fun r hr=>(itRows_all _ r hr).2.2) (by omega) (by show (0+T1.length)*40<=_;omega) fun ao1 cap1 hcap1=>oj_run TT rfl ?_
  refine oj_append_sl TT 0 rfl rfl rfl rfl rfl rfl rfl HT2 rfl rfl rfl rfl rfl rfl rfl rfl rfl (fun r hr=>(itRows_all _ r hr).2.2) (by omega) (by show (0+T1.length+T2.length)*40<=_;omega) fun ao2 cap2 hcap2=>?_
  refine oj_seal 0 rfl rfl rfl fun s5 hle5 hS=>?_
  have hl12:0+T1.length+T2.length=(T1++T2).length:=by rw [List.length_append,Nat.zero_add]
  have hS:ArrSealed s5 (itE ao2 cap2 (T1++T2)):=by
    unfold itE
    rw [itXs_append,<-hl12]
    exact hS
  have HA:=it_sealed hS (by omega)
  rw [hl12] at hcap2 ⊢
  have IX:=IX.mono hle5
  have hm:=hle5.cell hm
  have HE:=HE.mono hle5
  have HT0:=HT0.mono hle5
  have hl1:(T1++T2).length<=10000000:=by rw [<-hl12];omega
  refine oj_run TT rfl ?_
  (repeat (first | refine cj_seq ?_ | refine oj_then ?_))
  refine cj_draw [(0,.pure),(1,.pure),(2,.pure),(4,.pure),(3,.keep),(5,.keep),(6,.keep),(7,.pure),(8,.pure),(9,.pure),(11,.quiet),(12,.pure),(13,.quiet),(14,.quiet),(10,.keep),(15,.keep),(16,.keep),(17,.keep),(18,.pure),(19,.pure)] mixed (by kernel_rfl) (oj_run TT rfl ?_)
  refine oj_callS rfl rfl rfl rfl rfl Tryz.call44 (by (repeat' (first | exact trivial | constructor))) (theirs19_c s5 T0 (by omega) oE cE HE) fun v s6 hle6 ⟨b1,d1,hv,B1⟩=>⟨.a (.v (.slice b1 T0.length d1)),trivial,hv.symm,?_⟩
  have IX:=IX.mono hle6
  have hm:=hle6.cell hm
  have HA:=HA.mono hle6
  have HT0:=HT0.mono hle6
  refine oj_run TT rfl ?_
  refine oj_callS rfl rfl rfl rfl rfl Tryz.call44 (by (repeat' (first | exact trivial | constructor))) (theirs19_c s6 T0 (by omega) oT0 cT0 HT0) fun v s7 hle7 ⟨b2,d2,hv,B2⟩=>⟨.a (.v (.slice b2 T0.length d2)),trivial,hv.symm,?_⟩
  have IX:=IX.mono hle7
  have hm:=hle7.cell hm
  have HA:=HA.mono hle7
  have B1:=B1.mono hle7
  refine oj_run TT rfl ?_
  refine oj_callP rfl rfl rfl rfl rfl Tryz.call43 (by (repeat' (first | exact trivial | constructor))) (Same19_c s7 T0 T0 (by omega) b1 d1 B1 b2 d2 B2) fun v hv=>⟨.a .tt,trivial,by rw [hv,decide_eq_true rfl];rfl,?_⟩
  refine oj_run TT rfl ?_
  refine oj_callS rfl rfl rfl rfl rfl Tryz.call44 (by (repeat' (first | exact trivial | constructor))) (theirs19_c s7 (T1++T2) (by omega) ao2 cap2 HA) fun v s8 hle8 ⟨b3,d3,hv,B3⟩=>⟨.a (.v (.slice b3 (T1++T2).length d3)),trivial,hv.symm,?_⟩
  have IX:=IX.mono hle8
  have hm:=hle8.cell hm
  refine oj_run TT rfl ?_
  refine oj_set 133 (.agg (ixCells X)) rfl (ixCells_lt _ _) (fun _=>rfl) ?_
  refine oj_set 135 (.agg (paCells (strP a))) rfl (paCells_lt _ _) (fun _=>rfl) ?_
  refine oj_set 136 (.agg (paCells (strP c))) rfl (paCells_lt _ _) (fun _=>rfl) ?_
  refine oj_callS (ys:=[.agg (ixCells X),.a (.v (.int .i64 K)),.agg (paCells (strP a)),.agg (paCells (strP c))]) rfl rfl rfl rfl rfl Tryz.call47 ⟨ixCells_lt 0 X,trivial,paCells_lt 0 _,paCells_lt 0 _,trivial⟩ (Between_c s8 m hm X IX (by omega) hd ho hF K (strP a) (strP c) (hpt _ (by omega)) (hpt _ (by omega))) fun v s9 hle9 ⟨T3,oT3,cT3,hv,bT3,lT3,_,HT3⟩=>⟨.a (.v (.slice oT3 T3.length cT3)),trivial,hv.symm,?_⟩
  have e3:=btw_join hab hbc bT1 bT2 bT3
  subst e3
  have B3:=B3.mono hle9
  refine oj_run TT rfl ?_
  refine oj_callS rfl rfl rfl rfl rfl Tryz.call44 (by (repeat' (first | exact trivial | constructor))) (theirs19_c s9 (T1++T2) (by omega) oT3 cT3 HT3) fun v s10 hle10 ⟨b4,d4,hv,B4⟩=>⟨.a (.v (.slice b4 (T1++T2).length d4)),trivial,hv.symm,?_⟩
  have B3:=B3.mono hle10
  refine oj_run TT rfl ?_
  refine oj_callP rfl rfl rfl rfl rfl Tryz.call43 (by (repeat' (first | exact trivial | constructor))) (Same19_c s10 (T1++T2) (T1++T2) (by omega) b3 d3 B3 b4 d4 B4) fun v hv=>⟨.a .tt,trivial,by rw [hv,decide_eq_true rfl];rfl,?_⟩
  refine oj_run TT rfl ?_
  (repeat (first | refine oj_then ?_ | refine cj_ret ?_))
  refine nj_ret TT rfl fun β w' _ _=>?_
  rfl
end Go.Sy
/- From a row's data to what the walks ask: a value that is read in the world is a tree that lies in memory, all of it sealed. -/
namespace Go.Sy
open Go.ChangeShapes Go.RowKit
def snapOf (W:World):Snap:=fun b=>W.heap[b]?
theorem snapOf_sealed (W:World):Sealed (snapOf W) W:=fun _ _ h=>h
theorem snapOf_cell (W:World) (a:Addr):(snapOf W).cell a=W.cell? a:=rfl
structure VT (P:Program) (tV tL tM tE tD tS tI tB:TypeId):Prop where
  v:∃ fs:Array Field,P.underlying tV=some (.struct fs)/\fs.toList.map (fun f=>(f.type,f.offset))=[(tI,0),(tB,1),(tD,2),(tS,5),(tL,6),(tM,7)]
  l:P.underlying tL=some (.slice tV)
  m:P.underlying tM=some (.slice tE)
  e:∃ fs:Array Field,P.underlying tE=some (.struct fs)/\fs.toList.map (fun f=>(f.type,f.offset))=[(tS,0),(tV,1)]
  d:∃ fs:Array Field,P.underlying tD=some (.struct fs)/\fs.toList.map (fun f=>(f.type,f.offset))=[(tB,0),(tS,1),(tI,2)]
  s:P.underlying tS=some .string
  i:P.underlying tI=some (.int .i64)
  b:P.underlying tB=some .bool
  cV:P.cellsOf tV=8
  cE:P.cellsOf tE=9
  cD:P.cellsOf tD=3
  cS:P.cellsOf tS=1
  cI:P.cellsOf tI=1
  cB:P.cellsOf tB=1
  cL:P.cellsOf tL=1
  cM:P.cellsOf tM=1
  bV:0<P.bytesOf tV
  bE:0<P.bytesOf tE
section
variable {H:Type} {enc:TypeId×Value->H} {P:Program} {w:World} {sp:Nat->Bool} {held:Bool}
theorem field_at {fs:Array Field} {l:List (TypeId×Nat)} (h:fs.toList.map (fun f=>(f.type,f.offset))=l) {i:Nat} {t:TypeId} {o:Nat} (hi:l[i]?=some (t,o)) :
    ∃ f,fs[i]?=some f/\f.type=t/\f.offset=o:=by
  subst h
  rw [List.getElem?_map] at hi
  simp only [Option.map_eq_some_iff,Prod.mk.injEq] at hi
  obtain ⟨f,h1,h2,h3⟩:=hi
  exact ⟨f,by simpa using h1,h2,h3⟩
theorem open_struct {t:TypeId} {fs:Array Field} {l:List (TypeId×Nat)} {n:Nat} {cs:List Value} {x:DataW H×List MemPlace} (hu:P.underlying t=some (.struct fs)) (hl:fs.toList.map (fun f=>(f.type,f.offset))=l)
    (h:DataW.trod enc P w 0 sp held n t cs=some x) :
    ∃ m,m<n/\cs.length=P.cellsOf t/\∀ (i:Nat) (u:TypeId) (o:Nat),l[i]?=some (u,o)->∃ y:DataW H×List MemPlace,DataW.trod enc P w 0 sp held m u ((cs.drop o).take (P.cellsOf u))=some y/\∀ k∈y.1.weights P u,k∈x.1.weights P t:=by
  obtain ⟨xs,m,rfl,rfl,h1,h2,h3⟩:=DataW.trod_struct hu h
  refine ⟨m,by omega,h1,fun i u o hi=>?_⟩
  obtain ⟨f,hf,rfl,rfl⟩:=field_at hl hi
  have hi':i<xs.length:=by
    rw [h2]
    have:=(List.getElem?_eq_some_iff.1 (show fs.toList[i]?=some f by simpa using hf)).1
    simpa using this
  refine ⟨xs[i],by rw [h3 i f hf,List.getElem?_eq_getElem hi'],fun k hk=>?_⟩
  rw [DataW.weights.eq_def]
  simp only [hu]
  exact DataW.weights_mem_each (j:=i) (t:=f.type) (d:=xs[i].1) (by simp;exact ⟨f,by simpa using hf,rfl⟩) (by simp [List.getElem?_eq_getElem hi']) k hk
theorem weightsAll_mem {e:TypeId}:∀ {ds:List (DataW H)} {d:DataW H},d∈ds->∀ k∈d.weights P e,k∈DataW.weightsAll P e ds
  | _::_,_,.head _,k,hk=>by rw [DataW.weightsAll];exact List.mem_append_left _ hk
  | _::_,_,.tail _ h,k,hk=>by rw [DataW.weightsAll];exact List.mem_append_right _ (weightsAll_mem h k hk)
theorem open_sl {t e:TypeId} {n sz:Nat} {c:Value} {x:DataW H×List MemPlace} (hu:P.underlying t=some (.slice e)) (hc:P.cellsOf e=sz) (hb:0<P.bytesOf e) (h:DataW.trod enc P w 0 sp held n t [c]=some x)
    (hw:∀ k∈x.1.weights P t,k<=reachBytes) :
    ∃ (ao:Option Addr) (len cap m:Nat),c=.slice ao len cap/\m<n/\len<=cap/\len<=reachBytes /\
      (len=0\/∃ a,ao=some a/\∀ i,i<len->∃ (cs:List Value) (y:DataW H×List MemPlace),cs.length=sz/\(∀ j v,cs[j]?=some v->w.cell? (a.add (i*sz+j))=some v) /\
        DataW.trod enc P w 0 sp held m e cs=some y/\∀ k∈y.1.weights P e,k∈x.1.weights P t):=by
  rcases DataW.trod_slice hu h with ⟨h1,rfl⟩ | ⟨a,len,cap,elems,rest,m,rfl,h1,rfl,_,h3,h4,h5,h6,_,_⟩
  · injection h1 with h1
    subst h1
    refine ⟨none,0,0,0,rfl,?_,Nat.le_refl _,by decide,.inl rfl⟩
    cases n with
    | zero=>simp [DataW.trod] at h
    | succ n=>omega
  · injection h1 with h1
    subst h1
    have hwt:(DataW.slice (elems.map (·.1)) (rest.map (·.1)):DataW H).weights P t=((elems.map (·.1)).length+(rest.map (·.1)).length)*P.bytesOf e::(DataW.weightsAll P e (elems.map (·.1))++DataW.weightsAll P e (rest.map (·.1))):=by
      rw [DataW.weights.eq_def]
      simp only [hu]
    refine ⟨some a,len,cap,m,rfl,by omega,h3,?_,.inr ⟨a,rfl,fun i hi=>?_⟩⟩
    · have:=hw _ (by rw [hwt];exact List.mem_cons_self)
      simp only [List.length_map] at this
      have h7:elems.length<=(elems.length+rest.length)*P.bytesOf e:=Nat.le_trans (Nat.le_add_right _ _) (Nat.le_mul_of_pos_right _ hb)
      omega
    · have hi':i<elems.length:=by omega
      have h8:=h6 i hi
      rw [List.getElem?_eq_getElem hi',hc] at h8
      obtain ⟨cs,h9,h10⟩:=Option.bind_eq_some_iff.1 h8
      obtain ⟨_,h11,h12⟩:=World.cells?_some h9
      refine ⟨cs,elems[i],h11,fun j v hj=>?_,h10,fun k hk=>?_⟩
      · have hj':j<sz:=by rw [<-h11];exact (List.getElem?_eq_some_iff.1 hj).1
        have:=h12 j hj'
        rw [hj] at this
        rw [<-this]
        congr 1
        exact (Addr.add_add _ _ _).symm
      · rw [hwt]
        exact List.mem_cons_of_mem _ (List.mem_append_left _ (weightsAll_mem (List.mem_map.2 ⟨elems[i],List.getElem_mem hi',rfl⟩) k hk))
theorem RepL.range {σ:Snap} {G:Nat->GVal} {R:Nat->List AT}:∀ l:List Nat,(∀ i∈l,RepV σ (G i) (R i))->RepL σ (l.map G) (l.map R)
  | [],_=>by simp [RepL]
  | a::l,h=>by
    simp only [List.map_cons,RepL]
    exact ⟨R a,l.map R,rfl,h a List.mem_cons_self,RepL.range l fun i hi=>h i (List.mem_cons_of_mem _ hi)⟩
theorem keyRows_range (K:Nat->ByteArray) (R:Nat->List AT):∀ l:List Nat,keyRows (l.map K) (l.map R)=l.map fun i=>keyRow (K i) (R i)
  | []=>rfl
  | a::l=>by simp [keyRows,keyRows_range K R l]
theorem slAt_range {ao:Option Addr} {len cap sz:Nat} {R:Nat->List AT} (h1:len<=cap) (h2:∀ i,i<len->(R i).length=sz/\∀ c∈R i,c.lt 0)
    (h3:len=0\/∃ a,ao=some a/\∀ i,i<len->∀ j v,((R i).map (AT.den β0))[j]?=some v->w.cell? (a.add (i*sz+j))=some v):SlAt (snapOf w) ao len cap sz ((List.range len).map R):=by
  refine ⟨by simp,h1,fun r hr=>?_,?_⟩
  · obtain ⟨i,hi,rfl⟩:=List.mem_map.1 hr
    exact h2 i (List.mem_range.1 hi)
  · rcases h3 with h3 | ⟨a,h3,h4⟩
    · exact .inl h3
    · refine .inr ⟨a,h3,fun i r j c hr hc=>?_⟩
      rw [List.getElem?_map] at hr
      obtain ⟨i',h5,rfl⟩:=Option.map_eq_some_iff.1 hr
      obtain ⟨h6,h7⟩:=List.getElem?_eq_some_iff.1 h5
      have h8:i<len:=by simpa using h6
      have h9:i'=i:=by simpa using h7.symm
      subst h9
      rw [snapOf_cell]
      exact h4 i' h8 j _ (by rw [List.getElem?_map,hc];rfl)
variable {tV tL tM tE tD tS tI tB:TypeId}
theorem open_str {n:Nat} {t:TypeId} {c:Value} {x:DataW H×List MemPlace} (hu:P.underlying t=some .string) (h:DataW.trod enc P w 0 sp held n t [c]=some x) (hw:∀ k∈x.1.weights P t,k<=reachBytes) :
    ∃ s:ByteArray,c=.string s/\s.size<=mostLen:=by
  obtain ⟨s,h1,rfl,_⟩:=DataW.trod_string hu h
  injection h1 with h1
  subst h1
  refine ⟨s,rfl,?_⟩
  have:=hw s.data.toList.length (by rw [DataW.weights.eq_def];exact List.mem_cons_self)
  have h2:s.data.toList.length=s.size:=rfl
  rw [h2] at this
  exact this
theorem open_val (T:VT P tV tL tM tE tD tS tI tB):∀ (n:Nat) (cs:List Value) (x:DataW H×List MemPlace),DataW.trod enc P w 0 sp held n tV cs=some x->(∀ k∈x.1.weights P tV,k<=reachBytes) ->
    ∃ (g:GVal) (r:List AT),cs=r.map (AT.den β0)/\RepV (snapOf w) g r:=by
  intro n
  induction n using Nat.strongRecOn with
  | _ n ih=>?_
  intro cs x h hw
  obtain ⟨fs,hu,hl⟩:=T.v
  obtain ⟨m,hm,hlen,hf⟩:=open_struct hu hl h
  rw [T.cV] at hlen
  match cs,hlen with
  | [c0,c1,c2,c3,c4,c5,c6,c7],_ =>
  obtain ⟨y0,h0,_⟩:=hf 0 tI 0 rfl
  obtain ⟨y1,h1,_⟩:=hf 1 tB 1 rfl
  obtain ⟨y2,h2,w2⟩:=hf 2 tD 2 rfl
  obtain ⟨y3,h3,w3⟩:=hf 3 tS 5 rfl
  obtain ⟨y4,h4,w4⟩:=hf 4 tL 6 rfl
  obtain ⟨y5,h5,w5⟩:=hf 5 tM 7 rfl
  rw [T.cI] at h0
  rw [T.cB] at h1
  rw [T.cD] at h2
  rw [T.cS] at h3
  rw [T.cL] at h4
  rw [T.cM] at h5
  simp only [List.drop_zero,List.drop_succ_cons,List.take_succ_cons,List.take_zero] at h0 h1 h2 h3 h4 h5
  obtain ⟨k,e0,-,-⟩:=DataW.trod_int T.i h0
  obtain ⟨b,e1,-⟩:=DataW.trod_bool T.b h1
  obtain ⟨s,e5,hs⟩:=open_str T.s h3 fun k hk=>hw k (w3 k hk)
  obtain ⟨fd,hud,hld⟩:=T.d
  obtain ⟨md,hmd,-,hfd⟩:=open_struct hud hld h2
  obtain ⟨z0,g0,_⟩:=hfd 0 tB 0 rfl
  obtain ⟨z1,g1,v1⟩:=hfd 1 tS 1 rfl
  obtain ⟨z2,g2,_⟩:=hfd 2 tI 2 rfl
  rw [T.cB] at g0
  rw [T.cS] at g1
  rw [T.cI] at g2
  simp only [List.drop_zero,List.drop_succ_cons,List.take_succ_cons,List.take_zero] at g0 g1 g2
  obtain ⟨ng,e2,-⟩:=DataW.trod_bool T.b g0
  obtain ⟨dg,e3,hdg⟩:=open_str T.s g1 fun k hk=>hw k (w2 k (v1 k hk))
  obtain ⟨ex,e4,-,-⟩:=DataW.trod_int T.i g2
  injection e0 with e0
  injection e1 with e1
  injection e2 with e2
  injection e4 with e4
  subst e0 e1 e2 e3 e4 e5
  obtain ⟨la,ll,lc,ml,rfl,hml,hll,hlr,hle⟩:=open_sl T.l T.cV T.bV h4 fun k hk=>hw k (w4 k hk)
  obtain ⟨ma,lm,mc,mm,rfl,hmm,hlm,hmr,hme⟩:=open_sl T.m T.cE T.bE h5 fun k hk=>hw k (w5 k hk)
  have HL:∀ i,∃ gr:GVal×List AT,i<ll->RepV (snapOf w) gr.1 gr.2/\∀ a,la=some a->∀ j v,(gr.2.map (AT.den β0))[j]?=some v->w.cell? (a.add (i*8+j))=some v:=by
    intro i
    by_cases hi:i<ll
    · rcases hle with h0 | ⟨a,rfl,hle⟩
      · omega
      · obtain ⟨cs,y,_,q2,q3,q4⟩:=hle i hi
        obtain ⟨g,r,rfl,hr⟩:=ih ml (by omega) cs y q3 fun k hk=>hw k (w4 k (q4 k hk))
        exact ⟨(g,r),fun _=>⟨hr,fun a' ha=>by injection ha with ha;subst ha;exact q2⟩⟩
    · exact ⟨(.mk 0 false ⟨false,⟨#[]⟩,0⟩ ⟨#[]⟩ [] [] [],[]),fun h=>absurd h hi⟩
  have HM:∀ i,∃ gr:ByteArray×GVal×List AT,i<lm->gr.1.size<=mostLen/\RepV (snapOf w) gr.2.1 gr.2.2/\∀ a,ma=some a->∀ j v,((keyRow gr.1 gr.2.2).map (AT.den β0))[j]?=some v->w.cell? (a.add (i*9+j))=some v:=by
    intro i
    by_cases hi:i<lm
    · rcases hme with h0 | ⟨a,rfl,hme⟩
      · omega
      · obtain ⟨cs,y,q1,q2,q3,q4⟩:=hme i hi
        obtain ⟨fe,hue,hle'⟩:=T.e
        obtain ⟨me,hme',-,hfe⟩:=open_struct hue hle' q3
        obtain ⟨u0,p0,x0⟩:=hfe 0 tS 0 rfl
        obtain ⟨u1,p1,x1⟩:=hfe 1 tV 1 rfl
        rw [T.cS] at p0
        rw [T.cV] at p1
        match cs,q1 with
        | c::cs',q1 =>
          simp only [List.drop_zero,List.drop_succ_cons,List.take_succ_cons,List.take_zero] at p0 p1
          rw [List.take_of_length_le (by simp at q1;omega)] at p1
          obtain ⟨key,rfl,hk⟩:=open_str T.s p0 fun k hk=>hw k (w5 k (q4 k (x0 k hk)))
          obtain ⟨g,r,rfl,hr⟩:=ih me (by omega) cs' u1 p1 fun k hk=>hw k (w5 k (q4 k (x1 k hk)))
          exact ⟨(key,g,r),fun _=>⟨hk,hr,fun a' ha=>by injection ha with ha;subst ha;exact q2⟩⟩
    · exact ⟨(⟨#[]⟩,.mk 0 false ⟨false,⟨#[]⟩,0⟩ ⟨#[]⟩ [] [] [],[]),fun h=>absurd h hi⟩
  obtain ⟨FL,HL⟩:=Classical.axiomOfChoice HL
  obtain ⟨FM,HM⟩:=Classical.axiomOfChoice HM
  refine ⟨.mk k b ⟨ng,dg,ex⟩ s ((List.range ll).map fun i=>(FL i).1) ((List.range lm).map fun i=>(FM i).1) ((List.range lm).map fun i=>(FM i).2.1),
    [.v (.int .i64 k),.b b,.b ng,.v (.string dg),.v (.int .i64 ex),.v (.string s),.v (.slice la ll lc),.v (.slice ma lm mc)],rfl,?_⟩
  simp only [RepV]
  refine ⟨la,lc,(List.range ll).map fun i=>(FL i).2,ma,mc,(List.range lm).map fun i=>(FM i).2.2,by simp,?_,RepL.range _ fun i hi=>(HL i (List.mem_range.1 hi)).1,by simp,?_,RepL.range _ fun i hi=>(HM i (List.mem_range.1 hi)).2.1,hdg,hs,by simpa [mostLen,reachBytes] using hlr,by simpa [mostLen,reachBytes] using hmr,?_⟩
  · simp only [List.length_map,List.length_range]
    refine slAt_range hll (fun i hi=>⟨(HL i hi).1.len,(HL i hi).1.clo⟩) ?_
    rcases hle with h0 | ⟨a,rfl,_⟩
    · exact .inl h0
    · exact .inr ⟨a,rfl,fun i hi=>(HL i hi).2 a rfl⟩
  · rw [keyRows_range]
    simp only [List.length_map,List.length_range]
    refine slAt_range hlm (fun i hi=>⟨by simp [keyRow,(HM i hi).2.1.len],fun c hc=>?_⟩) ?_
    · cases hc with
      | head=>trivial
      | tail _ hc=>exact (HM i hi).2.1.clo c hc
    · rcases hme with h0 | ⟨a,rfl,_⟩
      · exact .inl h0
      · exact .inr ⟨a,rfl,fun i hi=>(HM i hi).2.2 a rfl⟩
  · intro key hk
    obtain ⟨i,hi,rfl⟩:=List.mem_map.1 hk
    exact (HM i (List.mem_range.1 hi)).1
end
end Go.Sy
/- The closing of a law's row, alike from law to law. -/
namespace Go.Sy
open Go.ChangeShapes Go.RowKit
section
variable {H:Type} {enc:TypeId×Value->H} {P:Program} {W W':World} {sp:Nat->Bool}
theorem trodAll_stays {T:TypeId->Prop} (K:_root_.Go.Kids P T) (hz:∀ t e,T t->P.underlying t=some (.slice e)->0<P.cellsOf e) :
    ∀ {ts:List TypeId} {vs:List Value} {ds:List (DataW H)} {ps:List MemPlace},(∀ t∈ts,T t)->DataW.TrodAll enc P W 0 (fun _=>true) true ts vs ds ps ->
      (∀ p∈ps,W.sameAt W' p)->(∀ p∈ps,sp p.block=true)->DataW.TrodAll enc P W' 0 sp true ts vs ds ps
  | [],[],[],_,_,h,_,_=>h
  | _::_,_::_,_::_,_,hT,⟨p,q,⟨n,h1⟩,h2,e⟩,hs,hb =>
    ⟨p,q,⟨n,DataW.trod_stays K (fun ht hu=>hz _ _ ht hu) (fun h=>by cases h) (hT _ List.mem_cons_self) h1 (fun x hx=>hs x (by rw [e];exact List.mem_append_left _ hx)) (fun x hx=>hb x (by rw [e];exact List.mem_append_left _ hx))⟩,
      trodAll_stays K hz (fun t ht=>hT t (List.mem_cons_of_mem _ ht)) h2 (fun x hx=>hs x (by rw [e];exact List.mem_append_right _ hx)) (fun x hx=>hb x (by rw [e];exact List.mem_append_right _ hx)),e⟩
theorem below_of_fr {M:Nat->Prop} {w w':World} (h:Fr M w w') (hM:∀ b,¬ M b):Below w.heap.size w w':=⟨h.os,h.tape,h.output,h.size,fun k hk=>h.block k hk (hM k)⟩
theorem post_of_law {f:Func} {s:ChangeSpec} {apart fresh handsOn again:Bool} {args:Array Value} {ds gs:List (DataW H)} {before:List MemPlace} {tB:TypeId}
    (hl:laidOutB P=true) (hm:mapsRowed P=true) (hz:∀ t e,t<P.types.size->P.underlying t=some (.slice e)->0<P.cellsOf e)
    (hts:∀ t∈f.params.toList,t<P.types.size) (hr:f.resultTypes=#[tB]) (hB:P.underlying tB=some .bool) (hv:s.vars=[])
    (hres:(s.fn H (ds++gs)).results=[.lit (.bool true)]) (hargs:(s.fn H (ds++gs)).args=ds) (hvars:(s.fn H (ds++gs)).vars=[])
    (hW:DataW.Whole enc P f.params.toList s.vars apart W args.toList ds gs before) (hb:Below W.heap.size W W') :
    s.post enc P f apart fresh handsOn again W args (.bool true) W':=by
  have hW':=hW
  obtain ⟨p,q,hA,hV,rfl,hfz,hnd⟩:=hW
  rw [hv] at hV
  obtain ⟨rfl,rfl⟩:=trodVars_none hV
  have hlt:∀ x∈p++([]:List MemPlace),x.block<W.heap.size:=fun x hx=>hW'.lt x hx
  have h1:∀ (b:Nat) (sp:Nat->Bool) (hd:Bool),DataW.TrodAll enc P W' b sp hd f.resultTypes.toList ((Value.bool true).resultList f.resultTypes.size) (s.fn H (ds++[])).results []:=by
    intro b sp hd
    rw [hr,hres]
    exact trodAll_mk1 (shut_bool hB true)
  have h2:∀ sp:Nat->Bool,(∀ x∈p++([]:List MemPlace),sp x.block=true)->DataW.TrodAll enc P W' 0 sp true f.params.toList args.toList (s.fn H (ds++[])).args p:=by
    intro sp hs
    rw [hargs]
    exact trodAll_stays (T:=(·<P.types.size)) (kids_rows hl hm) hz hts hA (fun x hx=>hb.same (hlt x (List.mem_append_left _ hx))) (fun x hx=>hs x (List.mem_append_left _ hx))
  have h3:∀ sp:Nat->Bool,DataW.TrodVars enc P W' sp s.vars (s.fn H (ds++[])).vars []:=by
    intro sp
    rw [hv,hvars]
    rfl
  have hold:∀ x∈p++([]:List MemPlace),(fun b=>decide (b<W.heap.size)) x.block=true:=fun x hx=>by simpa using hlt x hx
  refine ⟨ds,[],_,[],p,[],hW',h1 _ _ _,h2 _ hold,h3 _,hb.frame _,fun _=>⟨ok_one hr rfl (okWide_bool_mk hB _),_,_,([]++p)++[],⟨[]++p,[],trodAll_append (h2 _ (fun _ _=>rfl)) (h1 _ _ _),h3 _,rfl,?_,?_⟩,?_⟩⟩
  · intro b off hp
    have hp':MemPlace.cell b off∈p++([]:List MemPlace):=by simpa using hp
    rw [hb.frozen (p:=⟨b,off,none⟩) (hlt _ hp')]
    exact hfz b off hp'
  · intro ha
    have:=hnd ha
    simpa using this
  · intro x hp _
    simpa using hp
theorem okWide_agg {tV tL tM tE tD tS tI tB:TypeId} (T:VT P tV tL tM tE tD tS tI tB) {r:Reach} {base:Nat} {v:Value} (h:Value.okWide P W r base tV v):∃ cs:Array Value,v=.agg cs/\cs.size=P.cellsOf tV:=by
  obtain ⟨fs,hu,_⟩:=T.v
  unfold Value.okWide at h
  rw [hu] at h
  obtain ⟨cs,h1,h2,_⟩:=h
  exact ⟨cs,h1,h2⟩
theorem okWide_str {t:TypeId} (T:∃ fs,P.underlying t=some (.struct fs)) {r:Reach} {base:Nat} {v:Value} (h:Value.okWide P W r base t v):∃ (fs:Array Field) (_:P.underlying t=some (.struct fs)) (cs:Array Value),v=.agg cs/\cs.size=P.cellsOf t:=by
  obtain ⟨fs,hu⟩:=T
  unfold Value.okWide at h
  rw [hu] at h
  obtain ⟨cs,h1,h2,_⟩:=h
  exact ⟨fs,hu,cs,h1,h2⟩
theorem weights_le {ts:List TypeId} {ds:List (DataW H)} (h:(DataW.weightsEach P ts ds).all (·<=reachBytes)=true) {j:Nat} {t:TypeId} {d:DataW H} (ht:ts[j]?=some t) (hd:ds[j]?=some d):∀ k∈d.weights P t,k<=reachBytes:=by
  intro k hk
  have:=List.all_eq_true.1 h k (DataW.weights_mem_each ht hd k hk)
  simpa using this
end
end Go.Sy
/- Closed facts of the program that every row's closing asks. -/
namespace Go.Proofs.YtlonlnagmfdlbaaGreatDoor.Row
open Go Go.Proofs Go.Sy Go.ChangeShapes Go.WideShapes Go.ChangeAt Go.RowKit
set_option maxRecDepth 100000
theorem own:ownKnob Tryz.prog.godebug=none:=by kernel_rfl
theorem laidOut:laidOutB Tryz.prog=true:=by kernel_rfl
theorem rowed:mapsRowed Tryz.prog=true:=by kernel_rfl
theorem full:∀ t e,t<Tryz.prog.types.size->Tryz.prog.underlying t=some (.slice e)->0<Tryz.prog.cellsOf e:=slices_full_of Tryz.prog (by kernel_rfl)
theorem vt:VT Tryz.prog 28 25 26 184 24 9 3 4 where
  v:=⟨_,Tryz.underlying28,rfl⟩
  l:=by kernel_rfl
  m:=by kernel_rfl
  e:=⟨_,Tryz.underlying184,rfl⟩
  d:=⟨_,Tryz.underlying24,rfl⟩
  s:=by kernel_rfl
  i:=by kernel_rfl
  b:=by kernel_rfl
  cV:=by kernel_rfl
  cE:=by kernel_rfl
  cD:=by kernel_rfl
  cS:=by kernel_rfl
  cI:=by kernel_rfl
  cB:=by kernel_rfl
  cL:=by kernel_rfl
  cM:=by kernel_rfl
  bV:=of_decide_eq_true (by kernel_rfl)
  bE:=of_decide_eq_true (by kernel_rfl)
end Go.Proofs.YtlonlnagmfdlbaaGreatDoor.Row
/- The library's variable holds a whole number. -/
namespace Go.Proofs.YtlonlnagmfdlbaaGreatDoor.Row
open Go Go.Proofs Go.Sy Go.ChangeShapes Go.WideShapes Go.ChangeAt Go.RowKit
set_option maxRecDepth 100000
theorem farLen (w:World) (h:w.ShapedOpen Tryz.prog):∃ m,w.cell? ⟨0,0,none⟩=some (.int .i64 m):=Go.Proofs.cell_of_shapedOpen_int (zero:=#[.int .i64 0]) (t:=3) h (of_decide_eq_true (by kernel_rfl)) (by kernel_rfl) rfl (by kernel_rfl) (by kernel_rfl) Tryz.underlying3
end Go.Proofs.YtlonlnagmfdlbaaGreatDoor.Row
/- More of what rows hand in: lists of values. No program in sight. -/
namespace Go.Sy
open Go.ChangeShapes Go.RowKit
section
variable {H:Type} {enc:TypeId×Value->H} {P:Program} {w:World} {sp:Nat->Bool} {held:Bool} {tV tL tM tE tD tS tI tB:TypeId}
theorem open_valL (T:VT P tV tL tM tE tD tS tI tB) {n:Nat} {c:Value} {x:DataW H×List MemPlace} (h:DataW.trod enc P w 0 sp held n tL [c]=some x) (hw:∀ k∈x.1.weights P tL,k<=reachBytes) :
    ∃ (ao:Option Addr) (cap:Nat) (gs:List GVal) (rows:List (List AT)),c=.slice ao gs.length cap/\SlAt (snapOf w) ao gs.length cap 8 rows/\gs.length<=140737488355328/\RepL (snapOf w) gs rows:=by
  obtain ⟨la,ll,lc,ml,rfl,hml,hll,hlr,hle⟩:=open_sl T.l T.cV T.bV h hw
  have HL:∀ i,∃ gr:GVal×List AT,i<ll->RepV (snapOf w) gr.1 gr.2/\∀ a,la=some a->∀ j v,(gr.2.map (AT.den β0))[j]?=some v->w.cell? (a.add (i*8+j))=some v:=by
    intro i
    by_cases hi:i<ll
    · rcases hle with h0 | ⟨a,rfl,hle⟩
      · omega
      · obtain ⟨cs,y,_,q2,q3,q4⟩:=hle i hi
        obtain ⟨g,r,rfl,hr⟩:=open_val T ml cs y q3 fun k hk=>hw k (q4 k hk)
        exact ⟨(g,r),fun _=>⟨hr,fun a' ha=>by injection ha with ha;subst ha;exact q2⟩⟩
    · exact ⟨(.mk 0 false ⟨false,⟨#[]⟩,0⟩ ⟨#[]⟩ [] [] [],[]),fun h=>absurd h hi⟩
  obtain ⟨FL,HL⟩:=Classical.axiomOfChoice HL
  refine ⟨la,lc,(List.range ll).map fun i=>(FL i).1,(List.range ll).map fun i=>(FL i).2,by simp,?_,?_,RepL.range _ fun i hi=>(HL i (List.mem_range.1 hi)).1⟩
  · simp only [List.length_map,List.length_range]
    refine slAt_range hll (fun i hi=>⟨(HL i hi).1.len,(HL i hi).1.clo⟩) ?_
    rcases hle with h0 | ⟨a,rfl,_⟩
    · exact .inl h0
    · exact .inr ⟨a,rfl,fun i hi=>(HL i hi).2 a rfl⟩
  · simp only [List.length_map,List.length_range]
    simp only [reachBytes] at hlr
    omega
end
end Go.Sy
