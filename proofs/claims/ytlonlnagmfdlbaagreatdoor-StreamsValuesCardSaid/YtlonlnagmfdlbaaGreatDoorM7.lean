/- Parts of the proof of CStreamsValues: F9, F10, Vc, F11, F12, F13, F14, F15, F17. No conditions. -/
import Derived.Test.YtlonlnagmfdlbaaGreatDoorM6
namespace Go.Sy
open Go.Proofs
theorem ow_ld1 {cf:Cf} {Q:Exit->Act->World->Prop} {W:(Nat->Addr)->World->Prop} {σ:Snap} {env:Env} {hp:HP} {A:List AE} {nh:Nat} {it:Item} {rest:List Item} {d t:Nat} {x:Operand} {T:List (Nat×TI)} (hT:TTok cf.P T) {ti:TI} {g off:Nat} (c:AT)
    (hq:(match it.tag with | .quiet=>true | _=>false)=true) (hop:it.o.op=.load t x) (hd:it.o.dst=some d) (hg:guardVal it.guard env=some true) (hN:Nat.blt d cf.N=true)
    (hx:evalO env x=some (.a (.v (.pointer (some ⟨g,off,none⟩))))) (ht:tget T t=some ti) (hag:ti.agg=false)
    (hv:∀ β w,W β w->w.cell? ⟨g,off,none⟩=some c.val) (hc:c.lt 0) (k:OW cf rest Q W σ ((d,.a c)::env) hp A nh):OW cf (it::rest) Q W σ env hp A nh:=by
  refine ow_val (.a c) hd hg hN (AT.lt_mono (Nat.zero_le _) hc) (fun _ a β ha=>?_) k
  cases htag:it.tag with
  | quiet =>
    intro w hw
    obtain ⟨inf,d',z,hs⟩:=tiOf_spec (hT _ _ ht)
    have hcell:=hv β w hw
    have hx':a.eval x=.pointer (some ⟨g,off,none⟩):=evalO_eval ha hx
    have hload:(load ⟨g,off,none⟩).run cf.P w=.ok c.val w:=by rw [run_load,hcell]
    simp only [execOp,hop,Instr.loadAt,hx',Instr.sureAddr,loadVar,Sem.run_bind,Sem.run_pure,Result.andThen_ok,run_isAgg hs.und,hs.agg,hag,Bool.false_eq_true,if_false,hload]
    simp only [SV.den,AT.den_val hc β]
  | _=>rw [htag] at hq;cases hq
def sE (gs:Nat) (ao:Option Addr) (n cap:Nat) (now gap:Int):AE:=⟨some ⟨gs,0,none⟩,1,1,193,3,[.slice ao n cap,.int .i64 now,.int .i64 gap]⟩
def rE (ao:Option Addr) (n cap:Nat) (l:List GRec):AE:=⟨ao,n,cap,130,11,recXs l⟩
def shA (gs:Nat) (ao:Option Addr) (cap:Nat) (now gap:Int) (l:List GRec):List AE:=[sE gs ao l.length cap now gap,rE ao l.length cap l]
set_option maxRecDepth 100000 in
set_option maxHeartbeats 1000000 in
theorem number_c (σ:Snap) (gs:Nat) (ao:Option Addr) (n cap:Nat) (now gap:Int) (h1:0<=now) (h2:now<=1125899906842624) (h3:0<=gap) (h4:gap<=1000) :
    FnS Tryz.prog 169 [.a (.v (.pointer (some ⟨gs,0,none⟩)))] σ [sE gs ao n cap now gap] (fun v _ A'=>v=.int .i64 (now+gap)/\A'=[sE gs ao n cap (now+gap) gap]):=by
  refine enter_f Tryz.func169 rfl rfl (by (repeat' (first | exact trivial | constructor))) fun w=>?_
  (repeat (first | refine cj_seq ?_ | refine cjr TT rfl ?_ | refine oj_then ?_))
  refine cj_draw [(0,.pure),(1,.pure),(2,.pure),(3,.quiet),(4,.pure),(5,.pure),(6,.pure),(7,.quiet),(8,.pure),(9,.pure),(10,.pure),(11,.sink)] mixed (by kernel_rfl) (oj_run TT rfl ?_)
  refine oj_ldA 0 (c:=.v (.int .i64 now)) TT rfl rfl rfl rfl rfl rfl rfl rfl rfl rfl rfl trivial (oj_run TT rfl ?_)
  refine oj_ldA 0 (c:=.v (.int .i64 gap)) TT rfl rfl rfl rfl rfl rfl rfl rfl rfl rfl rfl trivial (oj_run TT rfl ?_)
  refine oj_add rfl rfl rfl rfl rfl rfl (by omega) (oj_run TT rfl ?_)
  refine oj_stA 0 (A':=[sE gs ao n cap (now+gap) gap]) TT rfl rfl rfl rfl rfl rfl rfl rfl rfl rfl (by show 1<1*3;omega) trivial rfl rfl (oj_run TT rfl ?_)
  (repeat (first | refine cj_seq ?_ | refine cjr TT rfl ?_ | refine oj_then ?_))
  refine oj_ldA 0 (c:=.v (.int .i64 (now+gap))) TT rfl rfl rfl rfl rfl rfl rfl rfl rfl rfl rfl trivial (oj_run TT rfl ?_)
  (repeat (first | refine oj_then ?_ | refine cj_ret ?_))
  refine nj_fret TT rfl fun β w' _ _=>?_
  exact ⟨rfl,rfl⟩
def ord71_1:List (Nat×Tag):=[(0,.pure),(1,.quiet),(2,.pure),(3,.quiet),(4,.pure),(5,.quiet),(6,.pure),(7,.quiet),(8,.pure),(9,.keep),(10,.pure),(11,.keep),(12,.pure),(13,.keep),(14,.pure),(15,.keep)]
def ord71_15:List (Nat×Tag):=[(0,.pure),(1,.pure),(2,.pure),(3,.quiet),(4,.pure),(5,.pure),(6,.keep),(7,.pure),(8,.pure),(9,.sink)]
structure ShS where
  σ:Snap
  k:Nat
  ao:Option Addr
  cap:Nat
  now:Int
  P:List GRec
theorem weights_drop {l:List GVal} {i:Nat} {g:GVal} (h:l[i]?=some g):GVal.weights (l.drop i)=g.weight+GVal.weights (l.drop (i+1)):=by
  have hlt:=(List.getElem?_eq_some_iff.1 h).1
  rw [List.drop_eq_getElem_cons hlt,GVal.weights,(List.getElem?_eq_some_iff.1 h).2]
theorem recXs_push (L:List GRec) (x:GRec):recXs L++(recCells x).map AT.val=recXs (L++[x]):=by
  rw [recXs_append]
  simp [recXs,recRows]
def rec0 (lv:Int) (nm:Bool) (name:ByteArray):GRec:=⟨0,0,lv,0,nm,name,false,dec0,emptyS⟩
set_option maxRecDepth 100000 in
set_option maxHeartbeats 4000000 in
theorem shredder_c (g:GVal):∀ (σ:Snap) (r:List AT) (x:GRec) (gs:Nat) (ao:Option Addr) (cap:Nat) (now gap:Int) (L:List GRec),RepV σ g r->0<=now->now+2000*g.weight<=1125899906842624->0<=gap->gap<=1000 ->
    L.length+g.weight<=1000000->0<=x.lv->x.lv+g.weight<=1099511627776->L.length<=cap ->
    FnS Tryz.prog 104 [.a (.v (.pointer (some ⟨gs,0,none⟩))),.agg r,.agg (recCells x)] σ (shA gs ao cap now gap L) (fun v _ A'=>v=.tuple #[]/\∃ ao' cap',(L++(shredV gap g x.lv x.nm x.name now).1).length<=cap' /\
      A'=shA gs ao' cap' (shredV gap g x.lv x.nm x.name now).2 gap (L++(shredV gap g x.lv x.nm x.name now).1)):=by
  induction g using GVal.byWeight with | _ g ih=>?_
  intro σ r x gs ao cap now gap L hr hn1 hn2 hg1 hg2 hnw hlv1 hlv2 hncap
  obtain ⟨la,lc,lrows,ma,mc,vrows,rfl,V⟩:=hr.open
  have hwg:=g.weight_eq
  have hwl:=weights_len g.l
  have hwv:=weights_len g.vs
  have hkv:=V.kv
  have hsl:=shredL_now g.l (x.lv+1) (now+gap) hg1 hg2
  have hsm:=shredM_now (gap:=gap) g.vs g.ks (x.lv+1) (shredL gap g.l (x.lv+1) (now+gap)).2 hg1 hg2
  have hll:=(shredL_len gap g.l (x.lv+1) (now+gap)).1
  have hlm:=(shredM_len gap g.vs g.ks (x.lv+1) (shredL gap g.l (x.lv+1) (now+gap)).2).1
  rw [shredV_eq]
  refine enter_f Tryz.func104 rfl rfl (by (repeat' (first | exact trivial | exact vCells_lt _ _ _ _ _ _ | refine AllLt.of ?_ | constructor))) fun w=>?_
  (repeat (first | refine cj_seq ?_ | refine cjr TT rfl ?_ | refine oj_then ?_))
  refine cj_drawW ord71_1 (fun β w=>StW _ σ [(0,.loc 28,vCells g la lc ma mc)] _ β w) (fun β w h=>h.sub (subH_of ⟨rfl,trivial⟩)) mixed (by kernel_rfl) ?_
  refine ow_pure TT rfl rfl rfl rfl rfl rfl ?_
  refine ow_load TT [(0,.loc 28,vCells g la lc ma mc)] _ (subH_of ⟨rfl,trivial⟩) (fun _ _ h=>h) rfl rfl rfl rfl rfl ?_
  refine ow_pure TT rfl rfl rfl rfl rfl rfl ?_
  refine ow_load TT [(0,.loc 28,vCells g la lc ma mc)] _ (subH_of ⟨rfl,trivial⟩) (fun _ _ h=>h) rfl rfl rfl rfl rfl ?_
  refine ow_pure TT rfl rfl rfl rfl rfl rfl ?_
  refine ow_load TT [(0,.loc 28,vCells g la lc ma mc)] _ (subH_of ⟨rfl,trivial⟩) (fun _ _ h=>h) rfl rfl rfl rfl rfl ?_
  refine ow_pure TT rfl rfl rfl rfl rfl rfl ?_
  refine ow_load TT [(0,.loc 28,vCells g la lc ma mc)] _ (subH_of ⟨rfl,trivial⟩) (fun _ _ h=>h) rfl rfl rfl rfl rfl ?_
  refine ow_pure TT rfl rfl rfl rfl rfl rfl ?_
  refine ow_put TT rfl rfl rfl rfl (fun _ _ h=>h.sub (subH_of ⟨rfl,trivial⟩)) ?_
  refine ow_pure TT rfl rfl rfl rfl rfl rfl ?_
  refine ow_put TT rfl rfl rfl rfl (fun _ _ h=>h.sub (subH_of ⟨rfl,trivial⟩)) ?_
  refine ow_pure TT rfl rfl rfl rfl rfl rfl ?_
  refine ow_put TT rfl rfl rfl rfl (fun _ _ h=>h.sub (subH_of ⟨rfl,trivial⟩)) ?_
  refine ow_pure TT rfl rfl rfl rfl rfl rfl ?_
  refine ow_put TT rfl rfl rfl rfl (fun _ _ h=>h.sub (subH_of ⟨rfl,trivial⟩)) ?_
  refine ow_end rfl (fun _ _ h=>h.sub (subH_of ⟨rfl,trivial⟩)) (oj_nil ?_)
  (repeat (first | refine cj_seq ?_ | refine cjr TT rfl ?_ | refine nj_then ?_))
  refine oj_callF [0,1] (A0:=[sE gs ao L.length cap now gap]) (Ar:=[rE ao L.length cap L]) rfl rfl rfl rfl rfl rfl rfl Tryz.call169 (by (repeat' (first | exact trivial | constructor))) (number_c σ gs ao L.length cap now gap hn1 (by omega) hg1 hg2) fun v σ1 A1 hle1 ⟨hv,hA⟩=>⟨.a (.v (.int .i64 (now+gap))),trivial,hv.symm,?_⟩
  subst hA
  refine oj_run TT rfl ?_
  (repeat (first | refine cj_seq ?_ | refine cjr TT rfl ?_ | refine oj_then ?_))
  refine oj_ldA 0 (c:=.v (.slice ao L.length cap)) TT rfl rfl rfl rfl rfl rfl rfl rfl rfl rfl rfl trivial (oj_run TT rfl ?_)
  (repeat (first | refine cj_seq ?_ | refine oj_then ?_))
  let x1:GRec:=⟨now+gap,x.en,x.lv,g.kind,x.nm,x.name,g.b,g.n,g.s⟩
  refine cj_sub (env':=[(0,.a (.v (.pointer (some ⟨gs,0,none⟩)))),(4,.a (.p 0 0)),(5,.a (.p 1 0)),(6,.a (.v (.int .i64 L.length)))]) (hp':=[(0,.loc 28,vCells g la lc ma mc),(1,.loc 130,recCells x1)]) (subE_of (by (repeat first | exact trivial | refine ⟨rfl,?_⟩))) (subH_of (by (repeat first | exact trivial | refine ⟨rfl,?_⟩))) ?_
  refine cj_draw [(0,.pure),(1,.pure),(2,.pure),(3,.pure),(4,.quiet),(5,.quiet),(6,.keep),(7,.sink),(8,.pure),(9,.pure),(10,.sink)] mixed (by kernel_rfl) (oj_run TT rfl ?_)
  refine oj_ldA 0 (c:=.v (.slice ao L.length cap)) TT rfl rfl rfl rfl rfl rfl rfl rfl rfl rfl rfl trivial (oj_run TT rfl ?_)
  refine oj_append_lit TT 1 rfl rfl rfl rfl rfl rfl rfl rfl rfl rfl rfl rfl rfl rfl rfl rfl rfl rfl (by (repeat' (first | exact trivial | refine AllLt.of ?_ | constructor))) rfl (by omega) (by show (L.length+1)*112<=_;omega) fun ao1 cap1 hcap1=>oj_run TT rfl ?_
  refine oj_stA 0 (A':=[sE gs ao1 (L.length+1) cap1 (now+gap) gap,⟨ao1,L.length+1,cap1,130,11,recXs L++(recCells x1).map AT.val⟩]) TT rfl rfl rfl rfl rfl rfl rfl rfl rfl rfl (by show 0<1*3;omega) trivial rfl rfl (oj_run TT rfl ?_)
  rw [recXs_push]
  (repeat (first | refine cj_seq ?_ | refine cjr TT rfl ?_ | refine oj_then ?_ | refine cj_block ?_))
  refine cj_cutB (fun (s:ShS)=>s.σ) (fun _=>[(0,.a (.v (.pointer (some ⟨gs,0,none⟩)))),(4,.a (.p 0 0)),(5,.a (.p 1 0)),(6,.a (.v (.int .i64 L.length)))])
    (fun _=>[(0,.loc 28,vCells g la lc ma mc),(1,.loc 130,recCells x1)]) (fun s=>shA gs s.ao s.cap s.now gap (L++x1::s.P)) 2
    (fun s=>σ1.le s.σ/\s.P=(shredL gap g.l (x.lv+1) (now+gap)).1/\s.now=(shredL gap g.l (x.lv+1) (now+gap)).2/\(L++x1::s.P).length<=s.cap) ?_ (fun s ⟨hs,hsP,hsn,hscap⟩=>?_)
  · refine cj_loop (fun (s:ShS)=>s.σ) (fun s=>[(0,.a (.v (.pointer (some ⟨gs,0,none⟩)))),(4,.a (.p 0 0)),(5,.a (.p 1 0)),(6,.a (.v (.int .i64 L.length))),(42,.a (.v (.slice la g.l.length lc))),(43,.a (.v (.int .i64 g.l.length))),(44,.a (.v (.int .i64 s.k)))])
      (fun _=>[(0,.loc 28,vCells g la lc ma mc),(1,.loc 130,recCells x1)]) (fun s=>shA gs s.ao s.cap s.now gap (L++x1::s.P)) 2
      (fun s=>s.k<=g.l.length/\σ1.le s.σ/\s.P++(shredL gap (g.l.drop s.k) (x.lv+1) s.now).1=(shredL gap g.l (x.lv+1) (now+gap)).1/\(shredL gap (g.l.drop s.k) (x.lv+1) s.now).2=(shredL gap g.l (x.lv+1) (now+gap)).2 /\
        0<=s.now/\s.now+2000*GVal.weights (g.l.drop s.k)<=now+gap+2000*GVal.weights g.l/\s.P.length+GVal.weights (g.l.drop s.k)<=GVal.weights g.l/\(L++x1::s.P).length<=s.cap)
      (fun s=>g.l.length - s.k) ⟨σ1,0,ao1,cap1,now+gap,[]⟩ ⟨Nat.zero_le _,Snap.le_refl _,rfl,rfl,by dsimp only;omega,by dsimp only;rw [List.drop_zero];omega,by dsimp only;rw [List.drop_zero];simp,by dsimp only;simp;omega⟩
      rfl (by (repeat first | exact trivial | refine ⟨rfl,?_⟩)) (by (repeat first | exact trivial | refine ⟨rfl,?_⟩)) (by unfold shA;simp only [List.length_append];rfl) (by (repeat' (first | exact trivial | exact Nat.le_of_ble_eq_true rfl | constructor))) (by (repeat' (first | exact trivial | exact Nat.le_of_ble_eq_true rfl | exact vCells_lt _ _ _ _ _ _ | refine AllLt.of ?_ | constructor))) fun ⟨s,k,ao,cap,nw,P⟩ ⟨hk,hs,hP1,hP2,hnw1,hnw2,hPw,hcp⟩=>?_
    dsimp only at hk hs hP1 hP2 hnw1 hnw2 hPw hcp ⊢
    (repeat (first | refine cj_seq ?_ | refine cjr TT rfl ?_ | refine oj_then ?_))
    refine cj_if rfl (fun h=>?_) (fun h=>?_)
    · have hkl:k<g.l.length:=by simpa using h
      obtain ⟨rr,hr1,hr2⟩:=(V.l.mono (Snap.le_trans hle1 hs)).get (List.getElem?_eq_getElem hkl)
      obtain ⟨la',lc',lrows',ma',mc',vrows',rfl,V'⟩:=hr2.open
      have hwx:=weight_l (List.getElem_mem hkl)
      have hwd:=weights_drop (List.getElem?_eq_getElem hkl)
      rw [List.drop_eq_getElem_cons hkl,shredL] at hP1 hP2
      have hnx:=shredV_now (gap:=gap) g.l[k] (x.lv+1) false emptyS nw hg1 hg2
      have hlx:=(shredV_len gap g.l[k] (x.lv+1) false emptyS nw).1
      have hlen:(L++x1::P).length=L.length+1+P.length:=by simp;omega
      (repeat (first | refine cj_seq ?_ | refine cjr TT rfl ?_ | refine cj_skip ?_ | refine cj_block ?_ | refine nj_then ?_))
      refine oj_idx TT rfl rfl rfl rfl rfl rfl rfl rfl rfl ((V.L.mono hle1).mono hs) (by omega) hr1 (oj_run TT rfl ?_)
      (repeat (first | refine cjr TT rfl ?_ | refine oj_then ?_))
      refine oj_add rfl rfl rfl rfl rfl rfl (by show -9223372036854775808<=x.lv+1/\x.lv+1<=9223372036854775807;omega) (oj_run TT rfl ?_)
      refine oj_set 53 (.agg (recCells (rec0 (x.lv+1) false emptyS))) rfl (recCells_lt _ _) (fun _=>rfl) ?_
      refine oj_callF [0,1] (A0:=shA gs ao cap nw gap (L++x1::P)) (Ar:=[]) rfl rfl rfl rfl rfl rfl rfl Tryz.call104 (by (repeat' (first | exact trivial | exact vCells_lt _ _ _ _ _ _ | refine AllLt.of ?_ | constructor))) (ih _ hwx s _ (rec0 (x.lv+1) false emptyS) gs ao cap nw gap (L++x1::P) V'.rep hnw1 (by omega) hg1 hg2 (by omega) (by show 0<=x.lv+1;omega) (by show x.lv+1+_<=_;omega) hcp) fun v σ2 A2 hle2 ⟨hv,ao',cap',hcp',hA⟩=>⟨.tup [],(by (repeat' (first | exact trivial | refine SV.lt_tup ?_))),hv.symm,?_⟩
      subst hA
      refine oj_run TT rfl ?_
      (repeat (first | refine cjr TT rfl ?_ | refine oj_nil ?_ | refine nj_then ?_ | refine nj_block ?_ | (refine oj_add rfl rfl rfl rfl rfl rfl (by omega) ?_;refine oj_run TT rfl ?_)))
      refine nj_again ⟨σ2,k+1,ao',cap',(shredV gap g.l[k] (x.lv+1) false emptyS nw).2,P++(shredV gap g.l[k] (x.lv+1) false emptyS nw).1⟩
        ⟨hkl,Snap.le_trans hs hle2,by rw [List.append_assoc];exact hP1,hP2,by dsimp only;omega,by dsimp only;omega,by dsimp only;rw [List.length_append];omega,?_⟩ (by dsimp only;omega) rfl (by (repeat first | exact trivial | refine ⟨rfl,?_⟩)) (by (repeat first | exact trivial | refine ⟨rfl,?_⟩)) ?_ (by (repeat' (first | exact trivial | exact Nat.le_of_ble_eq_true rfl | constructor))) (by (repeat' (first | exact trivial | exact Nat.le_of_ble_eq_true rfl | exact vCells_lt _ _ _ _ _ _ | refine AllLt.of ?_ | constructor)))
      · have e:L++x1::(P++(shredV gap g.l[k] (x.lv+1) false emptyS nw).1)=L++x1::P++(shredV gap g.l[k] (x.lv+1) false emptyS nw).1:=by simp
        dsimp only
        rw [e];exact hcp'
      · have e:L++x1::(P++(shredV gap g.l[k] (x.lv+1) false emptyS nw).1)=L++x1::P++(shredV gap g.l[k] (x.lv+1) false emptyS nw).1:=by simp
        dsimp only
        rw [e,List.append_nil]
        rfl
    · have hk0:k=g.l.length:=by simp at h;omega
      subst hk0
      rw [List.drop_length,shredL] at hP1 hP2
      rw [List.append_nil] at hP1
      (repeat (first | refine cj_exit ?_ | refine nj_then_exit ?_ | refine nj_block_out ?_))
      refine nj_again ⟨s,g.l.length,ao,cap,nw,P⟩ ⟨hs,hP1,hP2,hcp⟩ Nat.zero_lt_one rfl (by (repeat first | exact trivial | refine ⟨rfl,?_⟩)) (by (repeat first | exact trivial | refine ⟨rfl,?_⟩)) rfl (by (repeat' (first | exact trivial | exact Nat.le_of_ble_eq_true rfl | constructor))) (by (repeat' (first | exact trivial | exact Nat.le_of_ble_eq_true rfl | exact vCells_lt _ _ _ _ _ _ | refine AllLt.of ?_ | constructor)))
  obtain ⟨s,k0,ao,cap,nw0,P0⟩:=s
  dsimp only at hs hsP hsn hscap ⊢
  have hlP:P0.length<=GVal.weights g.l:=by rw [hsP];exact hll
  have hn0:nw0<=now+gap+2000*GVal.weights g.l:=by rw [hsn];exact hsl.2
  have hn0':now+gap<=nw0:=by rw [hsn];exact hsl.1
  rw [<-hsn] at hlm hsm
  rw [<-hsn,<-hsP]
  clear hsn hsP
  (repeat (first | refine cj_seq ?_ | refine cjr TT rfl ?_ | refine oj_then ?_ | refine cj_block ?_))
  refine cj_cutB (fun (s:ShS)=>s.σ) (fun _=>[(0,.a (.v (.pointer (some ⟨gs,0,none⟩)))),(6,.a (.v (.int .i64 L.length)))])
    (fun _=>[]) (fun s=>shA gs s.ao s.cap s.now gap (L++x1::P0++s.P)) 0
    (fun s=>σ1.le s.σ/\s.P=(shredM gap g.vs g.ks (x.lv+1) nw0).1/\s.now=(shredM gap g.vs g.ks (x.lv+1) nw0).2/\(L++x1::P0++s.P).length<=s.cap) ?_ (fun s ⟨hs,hsP,hsn,hscap⟩=>?_)
  · refine cj_loop (fun (s:ShS)=>s.σ) (fun s=>[(0,.a (.v (.pointer (some ⟨gs,0,none⟩)))),(4,.a (.p 0 0)),(5,.a (.p 1 0)),(6,.a (.v (.int .i64 L.length))),(57,.a (.v (.slice ma g.ks.length mc))),(58,.a (.v (.int .i64 g.ks.length))),(59,.a (.v (.int .i64 s.k)))])
      (fun _=>[(0,.loc 28,vCells g la lc ma mc),(1,.loc 130,recCells x1)]) (fun s=>shA gs s.ao s.cap s.now gap (L++x1::P0++s.P)) 2
      (fun s=>s.k<=g.ks.length/\σ1.le s.σ/\s.P++(shredM gap (g.vs.drop s.k) (g.ks.drop s.k) (x.lv+1) s.now).1=(shredM gap g.vs g.ks (x.lv+1) nw0).1/\(shredM gap (g.vs.drop s.k) (g.ks.drop s.k) (x.lv+1) s.now).2=(shredM gap g.vs g.ks (x.lv+1) nw0).2 /\
        0<=s.now/\s.now+2000*GVal.weights (g.vs.drop s.k)<=nw0+2000*GVal.weights g.vs/\s.P.length+GVal.weights (g.vs.drop s.k)<=GVal.weights g.vs/\(L++x1::P0++s.P).length<=s.cap)
      (fun s=>g.ks.length - s.k) ⟨s,0,ao,cap,nw0,[]⟩ ⟨Nat.zero_le _,hs,rfl,rfl,by dsimp only;omega,by dsimp only;rw [List.drop_zero];omega,by dsimp only;rw [List.drop_zero];simp,by dsimp only;rw [List.append_nil];exact hscap⟩
      rfl (by (repeat first | exact trivial | refine ⟨rfl,?_⟩)) (by (repeat first | exact trivial | refine ⟨rfl,?_⟩)) (by rw [List.append_nil]) (by (repeat' (first | exact trivial | exact Nat.le_of_ble_eq_true rfl | constructor))) (by (repeat' (first | exact trivial | exact Nat.le_of_ble_eq_true rfl | exact vCells_lt _ _ _ _ _ _ | refine AllLt.of ?_ | constructor))) fun ⟨s,k,ao,cap,nw,P⟩ ⟨hk,hs,hP1,hP2,hnw1,hnw2,hPw,hcp⟩=>?_
    dsimp only at hk hs hP1 hP2 hnw1 hnw2 hPw hcp ⊢
    (repeat (first | refine cj_seq ?_ | refine cjr TT rfl ?_ | refine oj_then ?_))
    refine cj_if rfl (fun h=>?_) (fun h=>?_)
    · have hkl:k<g.ks.length:=by simpa using h
      have hkv':k<g.vs.length:=by omega
      obtain ⟨rr,hr1,hr2⟩:=(V.v.mono (Snap.le_trans hle1 hs)).get (List.getElem?_eq_getElem hkv')
      have hrow:=keyRows_get (List.getElem?_eq_getElem hkl) hr1
      obtain ⟨la',lc',lrows',ma',mc',vrows',rfl,V'⟩:=hr2.open
      have hwx:=weight_v (List.getElem_mem hkv')
      have hwd:=weights_drop (List.getElem?_eq_getElem hkv')
      rw [List.drop_eq_getElem_cons hkv',List.drop_eq_getElem_cons hkl,shredM] at hP1 hP2
      have hnx:=shredV_now (gap:=gap) g.vs[k] (x.lv+1) true g.ks[k] nw hg1 hg2
      have hlx:=(shredV_len gap g.vs[k] (x.lv+1) true g.ks[k] nw).1
      have hlen:(L++x1::P0++P).length=L.length+1+P0.length+P.length:=by simp;omega
      (repeat (first | refine cj_seq ?_ | refine cjr TT rfl ?_ | refine cj_skip ?_ | refine cj_block ?_ | refine nj_then ?_))
      refine oj_idx TT rfl rfl rfl rfl rfl rfl rfl rfl rfl ((V.M.mono hle1).mono hs) (by omega) hrow (oj_run TT rfl ?_)
      (repeat (first | refine cjr TT rfl ?_ | refine oj_then ?_))
      refine oj_add rfl rfl rfl rfl rfl rfl (by show -9223372036854775808<=x.lv+1/\x.lv+1<=9223372036854775807;omega) (oj_run TT rfl ?_)
      refine oj_set 71 (.agg (recCells (rec0 (x.lv+1) true g.ks[k]))) rfl (recCells_lt _ _) (fun _=>rfl) ?_
      refine oj_callF [0,1] (A0:=shA gs ao cap nw gap (L++x1::P0++P)) (Ar:=[]) rfl rfl rfl rfl rfl rfl rfl Tryz.call104 (by (repeat' (first | exact trivial | exact vCells_lt _ _ _ _ _ _ | refine AllLt.of ?_ | constructor))) (ih _ hwx s _ (rec0 (x.lv+1) true g.ks[k]) gs ao cap nw gap (L++x1::P0++P) V'.rep hnw1 (by omega) hg1 hg2 (by omega) (by show 0<=x.lv+1;omega) (by show x.lv+1+_<=_;omega) hcp) fun v σ2 A2 hle2 ⟨hv,ao',cap',hcp',hA⟩=>⟨.tup [],(by (repeat' (first | exact trivial | refine SV.lt_tup ?_))),hv.symm,?_⟩
      subst hA
      refine oj_run TT rfl ?_
      (repeat (first | refine cjr TT rfl ?_ | refine oj_nil ?_ | refine nj_then ?_ | refine nj_block ?_ | (refine oj_add rfl rfl rfl rfl rfl rfl (by omega) ?_;refine oj_run TT rfl ?_)))
      refine nj_again ⟨σ2,k+1,ao',cap',(shredV gap g.vs[k] (x.lv+1) true g.ks[k] nw).2,P++(shredV gap g.vs[k] (x.lv+1) true g.ks[k] nw).1⟩
        ⟨hkl,Snap.le_trans hs hle2,by rw [List.append_assoc];exact hP1,hP2,by dsimp only;omega,by dsimp only;omega,by dsimp only;rw [List.length_append];omega,?_⟩ (by dsimp only;omega) rfl (by (repeat first | exact trivial | refine ⟨rfl,?_⟩)) (by (repeat first | exact trivial | refine ⟨rfl,?_⟩)) ?_ (by (repeat' (first | exact trivial | exact Nat.le_of_ble_eq_true rfl | constructor))) (by (repeat' (first | exact trivial | exact Nat.le_of_ble_eq_true rfl | exact vCells_lt _ _ _ _ _ _ | refine AllLt.of ?_ | constructor)))
      · dsimp only
        rw [<-List.append_assoc];exact hcp'
      · dsimp only
        rw [<-List.append_assoc,List.append_nil]
        rfl
    · have hk0:k=g.ks.length:=by simp at h;omega
      subst hk0
      rw [List.drop_length,List.drop_of_length_le (by omega),shredM] at hP1 hP2
      rw [List.append_nil] at hP1
      (repeat (first | refine cj_exit ?_ | refine nj_then_exit ?_ | refine nj_block_out ?_))
      refine nj_again ⟨s,g.ks.length,ao,cap,nw,P⟩ ⟨hs,hP1,hP2,hcp⟩ Nat.zero_lt_one rfl (by (repeat first | exact trivial | refine ⟨rfl,?_⟩)) (by (repeat first | exact trivial | refine ⟨rfl,?_⟩)) rfl (by (repeat' (first | exact trivial | constructor))) (by (repeat' exact trivial))
  obtain ⟨s,k0,ao,cap,nw1,P1⟩:=s
  dsimp only at hs hsP hsn hscap ⊢
  have hn1':nw1<=nw0+2000*GVal.weights g.vs:=by rw [hsn];exact hsm.2
  have hn1'':nw0<=nw1:=by rw [hsn];exact hsm.1
  rw [<-hsn,<-hsP]
  clear hsn hsP
  have hM:(L++x1::P0++P1)[L.length]?=some x1:=by simp
  have hMl:L.length<(L++x1::P0++P1).length:=(List.getElem?_eq_some_iff.1 hM).1
  have hMs:(L++x1::P0++P1).set L.length ⟨now+gap,nw1+gap,x.lv,g.kind,x.nm,x.name,g.b,g.n,g.s⟩=L++⟨now+gap,nw1+gap,x.lv,g.kind,x.nm,x.name,g.b,g.n,g.s⟩::(P0++P1):=by simp
  have hMn:(L++⟨now+gap,nw1+gap,x.lv,g.kind,x.nm,x.name,g.b,g.n,g.s⟩::(P0++P1)).length=(L++x1::P0++P1).length:=by simp
  generalize hMM:L++x1::P0++P1=M at *
  refine cj_arrAt 1 (E:=rE ao M.length cap M) rfl (by show 0<M.length;omega) fun g1 hg1'=>?_
  have hg1':ao=some ⟨g1,0,none⟩:=hg1'
  subst hg1'
  refine cj_drawW ord71_15 (fun β w=>w.cell? ⟨gs,0,none⟩=some (.slice (some ⟨g1,0,none⟩) M.length cap)) (fun β w h=>(h.arr 0 (sE gs (some ⟨g1,0,none⟩) M.length cap nw1 gap) rfl).cell rfl rfl) mixed (by kernel_rfl) ?_
  refine ow_pure TT rfl rfl rfl rfl rfl rfl ?_
  refine ow_pure TT rfl rfl rfl rfl rfl rfl ?_
  refine ow_pure TT rfl rfl rfl rfl rfl rfl ?_
  refine ow_ld1 TT (.v (.slice (some ⟨g1,0,none⟩) M.length cap)) rfl rfl rfl rfl rfl rfl rfl rfl (fun _ _ h=>h) trivial ?_
  refine ow_pure TT rfl rfl rfl rfl rfl rfl ?_
  refine ow_pure TT rfl rfl rfl rfl rfl rfl ?_
  refine ow_call [0,1] (A0:=[sE gs (some ⟨g1,0,none⟩) M.length cap nw1 gap]) (Ar:=[rE (some ⟨g1,0,none⟩) M.length cap M]) rfl rfl rfl rfl rfl rfl rfl Tryz.call169 (by (repeat' (first | exact trivial | constructor))) (number_c s gs (some ⟨g1,0,none⟩) M.length cap nw1 gap (by omega) (by omega) hg1 hg2) fun v σ2 A2 hle2 ⟨hv,hA⟩=>?_
  subst hA
  refine ⟨fun β w h=>(h.arr 0 (sE gs (some ⟨g1,0,none⟩) M.length cap (nw1+gap) gap) rfl).cell rfl rfl,.a (.v (.int .i64 (nw1+gap))),trivial,hv.symm,?_⟩
  refine ow_end rfl (fun β w h=>(h.arr 0 (sE gs (some ⟨g1,0,none⟩) M.length cap (nw1+gap) gap) rfl).cell rfl rfl) (oj_run TT rfl ?_)
  refine oj_indexAddr TT rfl rfl rfl rfl rfl rfl rfl rfl rfl ⟨by omega,by omega⟩ (oj_run TT rfl ?_)
  have hoff:L.length*11+1<M.length*11:=by omega
  refine oj_stA 1 (A':=shA gs (some ⟨g1,0,none⟩) cap (nw1+gap) gap (L++⟨now+gap,nw1+gap,x.lv,g.kind,x.nm,x.name,g.b,g.n,g.s⟩::(P0++P1))) (off:=L.length*11+1) TT rfl rfl rfl rfl ?_ rfl rfl rfl rfl rfl hoff trivial rfl ?_ (oj_run TT rfl ?_)
  · show some (SV.a (AT.v (.pointer (some (Addr.add (Addr.add ⟨g1,0,none⟩ ((L.length:Int).toNat*11)) 1)))))=_
    rw [add0,Addr.add_lit]
    rfl
  · unfold shA
    rw [hMn]
    show [_,_]=[_,_]
    congr 1
    congr 1
    unfold rE
    congr 1
    show (recXs M).set (L.length*11+1) (AT.v (.int .i64 (nw1+gap))).val=_
    rw [recXs_set (r':=⟨now+gap,nw1+gap,x.lv,g.kind,x.nm,x.name,g.b,g.n,g.s⟩) _ hM (by omega) rfl,hMs]
  (repeat refine oj_nil ?_)
  refine nj_fend TT rfl fun β w' _ _=>?_
  refine ⟨rfl,_,cap,?_,rfl⟩
  rw [hMn];exact hscap
end Go.Sy
namespace Go.Sy
open Go.Proofs
theorem FnS.seal1 {P:Program} {f:FuncId} {svs:List SV} {σ:Snap} {Φ:Value->Snap->AE->Prop} {Ψ:Value->Snap->Prop} (h:FnS P f svs σ [] (fun v σ' A'=>∃ E,A'=[E]/\Φ v σ' E))
    (hi:∀ v σ' σ'' E,Φ v σ' E->σ'.le σ''->ArrSealed σ'' E->Ψ v σ''):PureS P f svs σ Ψ:=by
  intro w hs
  have:=h w (StW.start hs β0)
  rw [blks_nil] at this
  refine Calls.mono this fun _ _ ⟨v,σ',h1,h2,h3,h4,A',⟨E,hE,h5⟩,h6⟩=>?_
  subst hE
  obtain ⟨σ'',h7,h8,h9⟩:=h6.sealArr (i:=0) rfl
  rw [blks_nil] at h9
  exact ⟨v,σ'',h1,h2,SGrow.of h9,h9.sealed,hi v σ' σ'' E h5 h7 h8⟩
theorem rE_sealed {σ:Snap} {ao:Option Addr} {cap:Nat} {l:List GRec} (h:ArrSealed σ (rE ao l.length cap l)) (hc:l.length<=cap):SlAt σ ao l.length cap 11 (recRows l) :=
  h.sl (E:=rE ao l.length cap l) rfl (fun r hr=>⟨(recRows_all l r hr).1,(recRows_all l r hr).2.1⟩) (recRows_len l) rfl hc
def shredG (g:GVal) (gap:Int):List GRec×Int :=
  if gap<1\/1000<gap then ([],1)
  else if sane g≠0 then ([],sane g)
  else ((shredV gap g 0 false emptyS 0).1,0)
set_option maxRecDepth 100000 in
set_option maxHeartbeats 1000000 in
theorem Shred_f (σ:Snap) (g:GVal) (r:List AT) (gap:Int) (hr:RepV σ g r) (hw:g.weight<=100000) :
    FnS Tryz.prog 39 [.agg r,.a (.v (.int .i64 gap))] σ [] (fun v _ A'=>∃ E,A'=[E]/\∃ ao cap,(shredG g gap).1.length<=cap/\E=rE ao (shredG g gap).1.length cap (shredG g gap).1/\v=.tuple #[.slice ao (shredG g gap).1.length cap,.int .i64 (shredG g gap).2]):=by
  obtain ⟨la,lc,lrows,ma,mc,vrows,rfl,V⟩:=hr.open
  refine enter_f Tryz.func39 rfl rfl (by (repeat' (first | exact trivial | exact vCells_lt _ _ _ _ _ _ | constructor))) fun w=>?_
  have bad:(gap<1\/1000<gap)->shredG g gap=([],1):=fun h=>by unfold shredG;rw [if_pos h]
  (repeat (first | refine cj_seq ?_ | refine cjr TT rfl ?_ | refine oj_then ?_))
  refine oj_split 10 rfl (fun h=>?_) (fun h=>?_)
  · have h1:gap<1:=of_decide_eq_true h
    rw [bad (.inl h1)]
    refine oj_run TT rfl ?_
    (repeat (first | refine cj_seq ?_ | refine cjr TT rfl ?_ | refine oj_then ?_ | refine cj_if_t rfl ?_ | refine cj_ret ?_ | refine nj_then_ret ?_))
    refine nj_nilarr 130 11 ?_
    refine nj_fret TT rfl fun β w' _ _=>?_
    exact ⟨_,rfl,none,0,Nat.le_refl _,rfl,rfl⟩
  have h1:¬ gap<1:=of_decide_eq_false h
  refine oj_run TT rfl ?_
  (repeat refine oj_then ?_)
  refine cj_if rfl (fun h=>?_) (fun h=>?_)
  · have h2:1000<gap:=of_decide_eq_true h
    rw [bad (.inr h2)]
    (repeat (first | refine cj_seq ?_ | refine cjr TT rfl ?_ | refine oj_then ?_ | refine cj_ret ?_ | refine nj_then_ret ?_))
    refine nj_nilarr 130 11 ?_
    refine nj_fret TT rfl fun β w' _ _=>?_
    exact ⟨_,rfl,none,0,Nat.le_refl _,rfl,rfl⟩
  have h2:¬ 1000<gap:=of_decide_eq_false h
  have e1:shredG g gap=if sane g≠0 then ([],sane g) else ((shredV gap g 0 false emptyS 0).1,0):=by unfold shredG;rw [if_neg (by omega)]
  rw [e1]
  (repeat (first | refine cj_seq ?_ | refine cjr TT rfl ?_ | refine cj_skip ?_ | refine nj_then ?_))
  refine oj_callP rfl rfl rfl rfl rfl Tryz.call60 (by (repeat' (first | exact trivial | exact vCells_lt _ _ _ _ _ _ | constructor))) (Sane_c σ g _ hr (by omega)) fun v hv=>⟨.a (.v (.int .i64 (sane g))),trivial,hv.symm,?_⟩
  refine oj_run TT rfl ?_
  (repeat (first | refine cj_seq ?_ | refine cjr TT rfl ?_ | refine oj_then ?_))
  refine cj_if rfl (fun h=>?_) (fun h=>?_)
  · have h3:sane g≠0:=by simpa using h
    rw [if_pos h3]
    (repeat (first | refine cj_seq ?_ | refine cjr TT rfl ?_ | refine oj_then ?_ | refine cj_ret ?_ | refine nj_then_ret ?_))
    refine nj_nilarr 130 11 ?_
    refine nj_fret TT rfl fun β w' _ _=>?_
    exact ⟨_,rfl,none,0,Nat.le_refl _,rfl,rfl⟩
  have h3:sane g=0:=by simpa using h
  rw [if_neg (by simp [h3])]
  (repeat (first | refine cj_seq ?_ | refine cjr TT rfl ?_ | refine oj_then ?_ | refine cj_skip ?_ | refine nj_then ?_))
  refine oj_own 1 1 3 rfl (by (repeat' (first | exact trivial | refine AllLt.of ?_ | constructor))) rfl (by decide) fun gs=>?_
  refine oj_nilarr 130 11 ?_
  refine oj_set 24 (.agg (recCells (rec0 0 false emptyS))) rfl (recCells_lt _ _) (fun _=>rfl) ?_
  refine oj_callF [0,1] (A0:=shA gs none 0 0 gap []) (Ar:=[]) rfl rfl rfl rfl rfl rfl rfl Tryz.call104 (by (repeat' (first | exact trivial | exact vCells_lt _ _ _ _ _ _ | refine AllLt.of ?_ | constructor))) (shredder_c g σ _ (rec0 0 false emptyS) gs none 0 0 gap [] V.rep (by omega) (by omega) (by omega) (by omega) (by simp;omega) (Int.le_refl _) (by show (0:Int)+_<=_;omega) (Nat.le_refl _)) fun v σ2 A2 hle2 ⟨hv,ao',cap',hcp',hA⟩=>⟨.tup [],(by (repeat' (first | exact trivial | refine SV.lt_tup ?_))),hv.symm,?_⟩
  subst hA
  rw [List.nil_append] at hcp' ⊢
  refine oj_run TT rfl ?_
  (repeat (first | refine cj_seq ?_ | refine cjr TT rfl ?_ | refine oj_then ?_))
  refine oj_ldA 0 (c:=.v (.slice ao' (shredV gap g 0 false emptyS 0).1.length cap')) TT rfl rfl rfl rfl rfl rfl rfl rfl rfl rfl rfl trivial (oj_run TT rfl ?_)
  (repeat (first | refine oj_then ?_ | refine cj_ret ?_))
  refine nj_re [1] rfl rfl ?_
  refine nj_fret TT rfl fun β w' _ _=>?_
  exact ⟨_,rfl,ao',cap',hcp',rfl,rfl⟩
theorem Shred_s (σ:Snap) (g:GVal) (r:List AT) (gap:Int) (hr:RepV σ g r) (hw:g.weight<=100000) :
    PureS Tryz.prog 39 [.agg r,.a (.v (.int .i64 gap))] σ (fun v σ'=>∃ ao cap,v=.tuple #[.slice ao (shredG g gap).1.length cap,.int .i64 (shredG g gap).2]/\SlAt σ' ao (shredG g gap).1.length cap 11 (recRows (shredG g gap).1)) :=
  (Shred_f σ g r gap hr hw).seal1 fun v _ _ E ⟨ao,cap,hc,hE,hv⟩ _ hS=>⟨ao,cap,hv,rE_sealed (by rw [<-hE];exact hS) hc⟩
end Go.Sy
/- What the program computes of records: nested, named, build. No program in sight. -/
namespace Go.Sy
def closeTo (lv:Int):List GRec->Int->Option (List GRec×Int)
  | [],last=>some ([],last)
  | t::ro,last=>if lv<(ro.length:Int)+1 then (if t.en<=last then none else closeTo lv ro t.en) else some (t::ro,last)
def closeAll:List GRec->Int->Bool
  | [],_=>true
  | t::ro,last=>if t.en<=last then false else closeAll ro t.en
def nestFrom:Nat->List GRec->Int->List GRec->Bool
  | _,ro,last,[]=>closeAll ro last
  | k,ro,last,r::l =>
    if r.lv<0\/(ro.length:Int)<r.lv\/(decide (r.lv=0) != decide ((k:Int)=0))=true then false
    else match closeTo r.lv ro last with
      | none=>false
      | some p=>if r.st<=p.2 then false else nestFrom (k+1) (r::p.1) r.st l
def nestedG (l:List GRec):Bool:=nestFrom 0 [] (-1) l&&decide (0<(l.length:Int))
def namedFrom:List Int->List GRec->Bool
  | _,[]=>true
  | op,r::l =>
    let o:=op.take r.lv.toNat
    if (r.nm != (o.getLast? == some 5))||(!r.nm&&!decide (r.name=⟨#[]⟩)) then false else namedFrom (o++[r.kd]) l
def namedG (l:List GRec):Bool:=namedFrom [] l
def levelsOk:Nat->List GRec->Prop
  | _,[]=>True
  | m,r::l=>0<=r.lv/\r.lv<=m/\levelsOk (r.lv.toNat+1) l
theorem closeTo_len:∀ (lv:Int) (ro:List GRec) (last:Int) (p:List GRec×Int),closeTo lv ro last=some p->0<=lv->lv<=ro.length->(p.1.length:Int)=lv
  | lv,[],last,p,h,h0,h1=>by
    simp only [closeTo,Option.some.injEq] at h
    subst h
    simp at h1 ⊢
    omega
  | lv,t::ro,last,p,h,h0,h1=>by
    simp only [closeTo] at h
    simp only [List.length_cons] at h1
    split at h
    · split at h
      · cases h
      · exact closeTo_len lv ro t.en p h h0 (by omega)
    · simp only [Option.some.injEq] at h
      subst h
      simp only [List.length_cons]
      omega
theorem nest_levels:∀ (l:List GRec) (k:Nat) (ro:List GRec) (last:Int),nestFrom k ro last l=true->levelsOk ro.length l
  | [],_,_,_,_=>trivial
  | r::l,k,ro,last,h=>by
    simp only [nestFrom] at h
    split at h
    · cases h
    · rename_i hc
      have h1:0<=r.lv/\r.lv<=ro.length:=by
        refine ⟨?_,?_⟩
        · exact Int.not_lt.1 fun hc'=>hc (.inl hc')
        · exact Int.not_lt.1 fun hc'=>hc (.inr (.inl hc'))
      split at h
      · cases h
      · rename_i p hp
        split at h
        · cases h
        · have:=nest_levels l _ _ _ h
          have hlen:=closeTo_len _ _ _ _ hp h1.1 h1.2
          refine ⟨h1.1,h1.2,?_⟩
          rw [show r.lv.toNat+1=(r::p.1).length by simp only [List.length_cons];omega]
          exact this
structure Kids where
  ls:List GVal
  ks:List ByteArray
  vs:List GVal
  rest:List GRec
def gval0:GVal:=.mk 0 false ⟨false,⟨#[]⟩,0⟩ ⟨#[]⟩ [] [] []
mutual
def buildN:Nat->List GRec->GVal×List GRec
  | 0,l=>(gval0,l)
  | _+1,[]=>(gval0,[])
  | n+1,r::l=>(.mk r.kd r.b r.n r.s (kidsN n r.lv l).ls (kidsN n r.lv l).ks (kidsN n r.lv l).vs,(kidsN n r.lv l).rest)
def kidsN:Nat->Int->List GRec->Kids
  | 0,_,l=>⟨[],[],[],l⟩
  | _+1,_,[]=>⟨[],[],[],[]⟩
  | n+1,lv,k::l =>
    if lv<k.lv then
      if k.nm then ⟨(kidsN n lv (buildN n (k::l)).2).ls,k.name::(kidsN n lv (buildN n (k::l)).2).ks,(buildN n (k::l)).1::(kidsN n lv (buildN n (k::l)).2).vs,(kidsN n lv (buildN n (k::l)).2).rest⟩
      else ⟨(buildN n (k::l)).1::(kidsN n lv (buildN n (k::l)).2).ls,(kidsN n lv (buildN n (k::l)).2).ks,(kidsN n lv (buildN n (k::l)).2).vs,(kidsN n lv (buildN n (k::l)).2).rest⟩
    else ⟨[],[],[],k::l⟩
end
def enough (l:List GRec):Nat:=2*l.length+2
def buildG (l:List GRec):GVal×List GRec:=buildN (enough l) l
mutual
theorem buildN_rest:∀ (n:Nat) (l:List GRec),2*l.length<=n->0<l.length->(buildN n l).2.length<l.length
  | 0,l,h,h0=>by omega
  | n+1,[],h,h0=>by simp at h0
  | n+1,r::l,h,h0=>by
    simp only [buildN,List.length_cons] at *
    have:=kidsN_rest n r.lv l (by omega)
    omega
theorem kidsN_rest:∀ (n:Nat) (lv:Int) (l:List GRec),2*l.length+1<=n+0->(kidsN n lv l).rest.length<=l.length
  | 0,_,l,h=>by simp [kidsN]
  | n+1,_,[],h=>by simp [kidsN]
  | n+1,lv,k::l,h=>by
    have h1:=buildN_rest n (k::l) (by simp only [List.length_cons] at *;omega) (by simp)
    have h2:=kidsN_rest n lv (buildN n (k::l)).2 (by simp only [List.length_cons] at *;omega)
    simp only [kidsN]
    split
    · split
      · simp only [];omega
      · simp only [];omega
    · simp
end
end Go.Sy
namespace Go.Sy
open Go.Proofs
def bE (gb:Nat) (ao:Option Addr) (n cap:Nat) (k:Int):AE:=⟨some ⟨gb,0,none⟩,1,1,255,2,[.slice ao n cap,.int .i64 k]⟩
def RecsFit (L:List GRec):Prop:=∀ r∈L,r.n.dg.size<=mostLen/\r.s.size<=mostLen/\r.name.size<=mostLen
structure BuS where
  σ:Snap
  m:Nat
  k:Nat
  ls:List GVal
  lr:List (List AT)
  la:Option Addr
  lc:Nat
  ks:List ByteArray
  vs:List GVal
  vr:List (List AT)
  ma:Option Addr
  mc:Nat
def buCells (r:GRec) (s:BuS):List AT:=[.v (.int .i64 r.kd),.b r.b,.b r.n.neg,.v (.string r.n.dg),.v (.int .i64 r.n.ex),.v (.string r.s),.v (.slice s.la s.ls.length s.lc),.v (.slice s.ma s.ks.length s.mc)]
def buA (gb:Nat) (ao:Option Addr) (n cap:Nat) (s:BuS):List AE:=[bE gb ao n cap s.k,⟨s.la,s.ls.length,s.lc,28,8,s.lr.flatten.map AT.val⟩,⟨s.ma,s.ks.length,s.mc,184,9,(keyRows s.ks s.vr).flatten.map AT.val⟩]
theorem keyRows_snoc:∀ (ks:List ByteArray) (rs:List (List AT)) (k:ByteArray) (r:List AT),ks.length=rs.length->keyRows (ks++[k]) (rs++[r])=keyRows ks rs++[keyRow k r]
  | [],[],_,_,_=>rfl
  | [],_::_,_,_,h=>by simp at h
  | _::_,[],_,_,h=>by simp at h
  | x::ks,y::rs,k,r,h=>by
    simp only [List.cons_append,keyRows,keyRows_snoc ks rs k r (by simpa using h)]
def zeroV:List AT:=[.v (.int .i64 0),.ff,.ff,.v (.string ⟨#[]⟩),.v (.int .i64 0),.v (.string ⟨#[]⟩),.v (.slice none 0 0),.v (.slice none 0 0)]
set_option maxRecDepth 100000 in
set_option maxHeartbeats 4000000 in
theorem builder_c (L:List GRec) (hF:RecsFit L) (hL:L.length<=100000) (ao:Option Addr) (cap:Nat):∀ (n:Nat) (σ:Snap) (k:Nat) (gb:Nat),SlAt σ ao L.length cap 11 (recRows L)->k<L.length->2*(L.drop k).length<=n ->
    FnS Tryz.prog 153 [.a (.v (.pointer (some ⟨gb,0,none⟩)))] σ [bE gb ao L.length cap k] (fun v σ' A'=>∃ r k',v=(SV.agg r).den β0/\RepV σ' (buildN n (L.drop k)).1 r/\L.drop k'=(buildN n (L.drop k)).2/\k<k'/\k'<=L.length/\A'=[bE gb ao L.length cap k']):=by
  intro n
  induction n using Nat.strongRecOn with | _ n ih=>?_
  intro σ k gb H hk hn
  have hdl:(L.drop k).length=L.length - k:=List.length_drop
  obtain ⟨n,rfl⟩:∃ m,n=m+1:=⟨n - 1,by omega⟩
  have hdc:L.drop k=L[k]::L.drop (k+1):=List.drop_eq_getElem_cons hk
  have hrow:(recRows L)[k]?=some (recCells L[k]):=recRows_get (List.getElem?_eq_getElem hk)
  have hfit:=hF _ (List.getElem_mem hk)
  have hcap:=H.ncap
  rw [hdc,buildN]
  generalize hx:L[k]=x at *
  dsimp only
  refine enter_f Tryz.func153 rfl rfl (by (repeat' (first | exact trivial | constructor))) fun w=>?_
  (repeat (first | refine cj_seq ?_ | refine cjr TT rfl ?_ | refine oj_then ?_))
  refine cj_draw [(0,.pure),(1,.pure),(2,.pure),(3,.quiet),(4,.pure),(5,.pure),(6,.pure),(7,.quiet),(8,.pure),(9,.quiet),(10,.keep),(11,.sink)] mixed (by kernel_rfl) (oj_run TT rfl ?_)
  refine oj_ldA 0 (c:=.v (.slice ao L.length cap)) TT rfl rfl rfl rfl rfl rfl rfl rfl rfl rfl rfl trivial (oj_run TT rfl ?_)
  refine oj_ldA 0 (c:=.v (.int .i64 k)) TT rfl rfl rfl rfl rfl rfl rfl rfl rfl rfl rfl trivial (oj_run TT rfl ?_)
  refine oj_idx TT rfl rfl rfl rfl rfl rfl rfl rfl rfl H (by omega) hrow (oj_run TT rfl ?_)
  (repeat (first | refine cj_seq ?_ | refine cjr TT rfl ?_ | refine oj_then ?_))
  refine oj_ldA 0 (c:=.v (.int .i64 k)) TT rfl rfl rfl rfl rfl rfl rfl rfl rfl rfl rfl trivial (oj_run TT rfl ?_)
  refine oj_add rfl rfl rfl rfl rfl rfl (by omega) (oj_run TT rfl ?_)
  refine oj_stA 0 (A':=[bE gb ao L.length cap ((k+1:Nat):Int)]) TT rfl rfl rfl rfl rfl rfl rfl rfl rfl rfl (by show 1<1*2;omega) trivial rfl rfl (oj_run TT rfl ?_)
  refine oj_nilarr 28 8 (oj_nilarr 184 9 ?_)
  (repeat (first | refine cj_seq ?_ | refine oj_then ?_ | refine cj_block ?_))
  refine cj_cutB (fun (s:BuS)=>s.σ) (fun _=>[(0,.a (.v (.pointer (some ⟨gb,0,none⟩)))),(2,.a (.p 0 0)),(4,.a (.p 3 0))])
    (fun s=>[(0,.loc 28,zeroV),(3,.loc 28,buCells x s)]) (buA gb ao L.length cap) 4
    (fun s=>σ.le s.σ/\s.ls=(kidsN n x.lv (L.drop (k+1))).ls/\s.ks=(kidsN n x.lv (L.drop (k+1))).ks/\s.vs=(kidsN n x.lv (L.drop (k+1))).vs/\L.drop s.k=(kidsN n x.lv (L.drop (k+1))).rest /\
      RepL s.σ s.ls s.lr/\RepL s.σ s.vs s.vr/\s.ks.length=s.vs.length/\k<s.k/\s.k<=L.length/\s.ls.length+s.ks.length<=L.length/\(∀ y∈s.ks,y.size<=mostLen)/\s.ls.length<=s.lc/\s.ks.length<=s.mc) ?_
    (fun s ⟨hs,e1,e2,e3,e4,hR1,hR2,hkv,hk1,hk2,hlen,hky,hc1,hc2⟩=>?_)
  · refine cj_loop (fun (s:BuS)=>s.σ) (fun _=>[(0,.a (.v (.pointer (some ⟨gb,0,none⟩)))),(2,.a (.p 0 0)),(3,.a (.p 2 0)),(4,.a (.p 3 0))])
      (fun s=>[(0,.loc 28,zeroV),(2,.loc 130,recCells x),(3,.loc 28,buCells x s)]) (buA gb ao L.length cap) 4
      (fun s=>σ.le s.σ/\s.ls++(kidsN s.m x.lv (L.drop s.k)).ls=(kidsN n x.lv (L.drop (k+1))).ls/\s.ks++(kidsN s.m x.lv (L.drop s.k)).ks=(kidsN n x.lv (L.drop (k+1))).ks/\s.vs++(kidsN s.m x.lv (L.drop s.k)).vs=(kidsN n x.lv (L.drop (k+1))).vs /\
        (kidsN s.m x.lv (L.drop s.k)).rest=(kidsN n x.lv (L.drop (k+1))).rest/\s.m<=n/\2*(L.drop s.k).length+1<=s.m /\
        RepL s.σ s.ls s.lr/\RepL s.σ s.vs s.vr/\s.ks.length=s.vs.length/\k<s.k/\s.k<=L.length/\s.ls.length+s.ks.length+(L.length - s.k)<=L.length/\(∀ y∈s.ks,y.size<=mostLen)/\s.ls.length<=s.lc/\s.ks.length<=s.mc)
      (fun s=>L.length - s.k) ⟨σ,n,k+1,[],[],none,0,[],[],[],none,0⟩ ⟨Snap.le_refl _,rfl,rfl,rfl,rfl,Nat.le_refl _,by dsimp only;rw [List.length_drop];omega,rfl,rfl,rfl,by dsimp only;omega,by dsimp only;omega,by dsimp only [List.length_nil];omega,fun y h=>(by cases h),Nat.le_refl _,Nat.le_refl _⟩
      rfl (by (repeat first | exact trivial | refine ⟨rfl,?_⟩)) (by (repeat first | exact trivial | refine ⟨rfl,?_⟩)) rfl (by (repeat' (first | exact trivial | exact Nat.le_of_ble_eq_true rfl | constructor))) (by (repeat' (first | exact trivial | exact Nat.le_of_ble_eq_true rfl | refine AllLt.of ?_ | constructor))) fun ⟨s,m,k1,ls,lr,la,lc,ks,vs,vr,ma,mc⟩ ⟨hs,e1,e2,e3,e4,hm,hm2,hR1,hR2,hkv,hk1,hk2,hlen,hky,hc1,hc2⟩=>?_
    dsimp only at hs e1 e2 e3 e4 hm hm2 hR1 hR2 hkv hk1 hk2 hlen hky hc1 hc2 ⊢
    obtain ⟨m,rfl⟩:∃ m',m=m'+1:=⟨m - 1,by omega⟩
    (repeat refine cj_seq ?_)
    refine cj_draw [(0,.pure),(1,.pure),(2,.pure),(3,.quiet),(4,.pure),(5,.pure),(6,.pure),(7,.quiet),(8,.pure),(9,.pure),(10,.pure),(11,.pure),(12,.pure),(13,.pure),(14,.quiet),(15,.pure),(16,.pure),(17,.pure),(18,.quiet),(19,.pure),(20,.pure),(21,.quiet),(22,.pure),(23,.quiet),(24,.pure),(25,.pure)] mixed (by kernel_rfl) (oj_run TT rfl ?_)
    refine oj_ldA 0 (c:=.v (.int .i64 k1)) TT rfl rfl rfl rfl rfl rfl rfl rfl rfl rfl rfl trivial (oj_run TT rfl ?_)
    refine oj_ldA 0 (c:=.v (.slice ao L.length cap)) TT rfl rfl rfl rfl rfl rfl rfl rfl rfl rfl rfl trivial (oj_run TT rfl ?_)
    refine oj_split 43 rfl (fun h=>?_) (fun h=>?_)
    rotate_left
    · have hk0:k1=L.length:=by have:=of_decide_eq_false h;omega
      subst hk0
      rw [List.drop_length,kidsN] at e1 e2 e3 e4
      simp only [List.append_nil] at e1 e2 e3
      refine oj_run TT rfl ?_
      (repeat (first | refine oj_then ?_ | refine cj_if_f rfl ?_ | refine cj_exit ?_ | refine nj_then_exit ?_ | refine nj_block_out ?_))
      refine nj_again ⟨s,m,L.length,ls,lr,la,lc,ks,vs,vr,ma,mc⟩ ⟨hs,e1,e2,e3,by dsimp only;rw [List.drop_length];exact e4,hR1,hR2,hkv,hk1,hk2,by dsimp only;omega,hky,hc1,hc2⟩ Nat.zero_lt_one rfl (by (repeat first | exact trivial | refine ⟨rfl,?_⟩)) (by (repeat first | exact trivial | refine ⟨rfl,?_⟩)) rfl (by (repeat' (first | exact trivial | exact Nat.le_of_ble_eq_true rfl | constructor))) (by (repeat' (first | exact trivial | exact Nat.le_of_ble_eq_true rfl | refine AllLt.of ?_ | constructor)))
    have hkl:k1<L.length:=by have:=of_decide_eq_true h;omega
    have hd1:L.drop k1=L[k1]::L.drop (k1+1):=List.drop_eq_getElem_cons hkl
    have hrow1:(recRows L)[k1]?=some (recCells L[k1]):=recRows_get (List.getElem?_eq_getElem hkl)
    have hfit1:=hF _ (List.getElem_mem hkl)
    generalize hy:L[k1]=y at *
    rw [hd1,kidsN] at e1 e2 e3 e4
    refine oj_run TT rfl ?_
    refine oj_ldA 0 (c:=.v (.slice ao L.length cap)) TT rfl rfl rfl rfl rfl rfl rfl rfl rfl rfl rfl trivial (oj_run TT rfl ?_)
    refine oj_ldA 0 (c:=.v (.int .i64 k1)) TT rfl rfl rfl rfl rfl rfl rfl rfl rfl rfl rfl trivial (oj_run TT rfl ?_)
    refine oj_idx TT rfl rfl rfl rfl rfl rfl rfl rfl rfl (H.mono hs) (by omega) hrow1 (oj_run TT rfl ?_)
    (repeat refine oj_then ?_)
    refine cj_if rfl (fun h=>?_) (fun h=>?_)
    rotate_left
    · have hlv:¬ x.lv<y.lv:=of_decide_eq_false h
      simp only [if_neg hlv,List.append_nil] at e1 e2 e3 e4
      (repeat (first | refine cj_exit ?_ | refine nj_then_exit ?_ | refine nj_block_out ?_))
      refine nj_again ⟨s,m,k1,ls,lr,la,lc,ks,vs,vr,ma,mc⟩ ⟨hs,e1,e2,e3,by dsimp only;rw [hd1];exact e4,hR1,hR2,hkv,hk1,hk2,by dsimp only;omega,hky,hc1,hc2⟩ Nat.zero_lt_one rfl (by (repeat first | exact trivial | refine ⟨rfl,?_⟩)) (by (repeat first | exact trivial | refine ⟨rfl,?_⟩)) rfl (by (repeat' (first | exact trivial | exact Nat.le_of_ble_eq_true rfl | constructor))) (by (repeat' (first | exact trivial | exact Nat.le_of_ble_eq_true rfl | refine AllLt.of ?_ | constructor)))
    have hlv:x.lv<y.lv:=of_decide_eq_true h
    rw [if_pos hlv] at e1 e2 e3 e4
    (repeat (first | refine cj_seq ?_ | refine cj_skip ?_ | refine cj_block ?_ | refine nj_then ?_))
    refine cj_draw [(0,.pure),(1,.pure),(2,.pure),(3,.quiet),(4,.pure),(5,.pure),(6,.pure),(7,.quiet),(8,.pure),(9,.quiet),(10,.keep),(11,.sink)] mixed (by kernel_rfl) (oj_run TT rfl ?_)
    refine oj_ldA 0 (c:=.v (.slice ao L.length cap)) TT rfl rfl rfl rfl rfl rfl rfl rfl rfl rfl rfl trivial (oj_run TT rfl ?_)
    refine oj_ldA 0 (c:=.v (.int .i64 k1)) TT rfl rfl rfl rfl rfl rfl rfl rfl rfl rfl rfl trivial (oj_run TT rfl ?_)
    refine oj_idx TT rfl rfl rfl rfl rfl rfl rfl rfl rfl (H.mono hs) (by omega) hrow1 (oj_run TT rfl ?_)
    (repeat (first | refine cj_seq ?_ | refine cjr TT rfl ?_ | refine oj_then ?_))
    have hdl1:(L.drop k1).length=L.length - k1:=List.length_drop
    refine oj_callF [0,1,2] (A0:=[bE gb ao L.length cap k1]) (Ar:=[⟨la,ls.length,lc,28,8,lr.flatten.map AT.val⟩,⟨ma,ks.length,mc,184,9,(keyRows ks vr).flatten.map AT.val⟩]) rfl rfl rfl rfl rfl rfl rfl Tryz.call153 (by (repeat' (first | exact trivial | constructor))) (ih m (by omega) s k1 gb (H.mono hs) hkl (by omega)) fun v σ2 A2 hle2 ⟨rr,k2,hv,hrep,hrest,hk12,hk2L,hA⟩=>⟨.agg rr,hrep.clo,hv.symm,?_⟩
    subst hA
    rw [hd1] at hrep hrest
    rw [<-hrest] at e1 e2 e3 e4
    generalize (buildN m (y::L.drop (k1+1))).1=gx at *
    obtain ⟨xla,xlc,xlrows,xma,xmc,xvrows,rfl,XV⟩:=hrep.open
    have hdl2:(L.drop k2).length=L.length - k2:=List.length_drop
    have hbr:=kidsN_rest
    have hs2:=Snap.le_trans hs hle2
    have hR1':=hR1.mono hle2
    have hR2':=hR2.mono hle2
    have hlr:=hR1.len
    have hvr:=hR2.len
    refine oj_run TT rfl ?_
    (repeat (first | refine cj_seq ?_ | refine cjr TT rfl ?_ | refine oj_then ?_))
    refine cj_if rfl (fun h=>?_) (fun h=>?_)
    · simp only [if_pos (show y.nm=true from h)] at e1 e2 e3 e4
      (repeat refine cjr TT rfl ?_)
      refine oj_append_lit TT 2 rfl rfl rfl rfl rfl rfl rfl rfl rfl rfl rfl rfl rfl rfl rfl rfl rfl rfl (by (repeat' (first | exact trivial | refine AllLt.of ?_ | constructor))) rfl (by omega) (by show (ks.length+1)*128<=_;omega) fun ao' cap' hcap'=>oj_run TT rfl ?_
      (repeat (first | refine oj_nil ?_ | refine nj_block ?_))
      refine nj_again ⟨σ2,m,k2,ls,lr,la,lc,ks++[y.name],vs++[gx],vr++[vCells gx xla xlc xma xmc],ao',cap'⟩
        ⟨hs2,e1,by rw [List.append_assoc];exact e2,by rw [List.append_assoc];exact e3,e4,by dsimp only;omega,by dsimp only;omega,hR1',RepL.append hR2' ⟨_,_,rfl,hrep,rfl⟩,by simp [hkv],by dsimp only;omega,hk2L,by dsimp only;rw [List.length_append,List.length_singleton];omega,
          fun z hz=>by
            rcases List.mem_append.1 hz with hz | hz
            · exact hky z hz
            · rw [List.mem_singleton.1 hz];exact hfit1.2.2,hc1,by dsimp only;rw [List.length_append];exact hcap'⟩ (by dsimp only;omega) rfl (by (repeat first | exact trivial | refine ⟨rfl,?_⟩)) ?_ ?_ (by (repeat' (first | exact trivial | exact Nat.le_of_ble_eq_true rfl | constructor))) (by (repeat' (first | exact trivial | exact Nat.le_of_ble_eq_true rfl | refine AllLt.of ?_ | constructor)))
      · refine ⟨rfl,rfl,?_,trivial⟩
        show some _=some _
        unfold buCells
        rw [List.length_append]
        rfl
      · unfold buA
        dsimp only
        rw [keyRows_snoc _ _ _ _ (by omega),List.length_append]
        simp only [List.flatten_append,List.map_append,List.flatten_cons,List.flatten_nil,List.append_nil]
        rfl
    · simp only [if_neg (show ¬ y.nm=true by simp [show y.nm=false from h])] at e1 e2 e3 e4
      (repeat refine cjr TT rfl ?_)
      refine oj_append_lit TT 1 rfl rfl rfl rfl rfl rfl rfl rfl rfl rfl rfl rfl rfl rfl rfl rfl rfl rfl (by (repeat' exact vCells_lt _ _ _ _ _ _)) rfl (by omega) (by show (ls.length+1)*112<=_;omega) fun ao' cap' hcap'=>oj_run TT rfl ?_
      (repeat (first | refine oj_nil ?_ | refine nj_block ?_))
      refine nj_again ⟨σ2,m,k2,ls++[gx],lr++[vCells gx xla xlc xma xmc],ao',cap',ks,vs,vr,ma,mc⟩
        ⟨hs2,by rw [List.append_assoc];exact e1,e2,e3,e4,by dsimp only;omega,by dsimp only;omega,RepL.append hR1' ⟨_,_,rfl,hrep,rfl⟩,hR2',hkv,by dsimp only;omega,hk2L,by dsimp only;rw [List.length_append,List.length_singleton];omega,
          hky,by dsimp only;rw [List.length_append];exact hcap',hc2⟩ (by dsimp only;omega) rfl (by (repeat first | exact trivial | refine ⟨rfl,?_⟩)) ?_ ?_ (by (repeat' (first | exact trivial | exact Nat.le_of_ble_eq_true rfl | constructor))) (by (repeat' (first | exact trivial | exact Nat.le_of_ble_eq_true rfl | refine AllLt.of ?_ | constructor)))
      · refine ⟨rfl,rfl,?_,trivial⟩
        show some _=some _
        unfold buCells
        rw [List.length_append]
        rfl
      · unfold buA
        dsimp only
        rw [List.length_append]
        simp only [List.flatten_append,List.map_append,List.flatten_cons,List.flatten_nil,List.append_nil]
        rfl
  obtain ⟨s,m,k1,ls,lr,la,lc,ks,vs,vr,ma,mc⟩:=s
  dsimp only at hs e1 e2 e3 e4 hR1 hR2 hkv hk1 hk2 hlen hky hc1 hc2 ⊢
  rw [<-e1,<-e2,<-e3,<-e4]
  clear e1 e2 e3 e4
  have hlr:=hR1.len
  have hvr:=hR2.len
  (repeat (first | refine cj_seq ?_ | refine cjr TT rfl ?_ | refine oj_then ?_ | refine cj_ret ?_))
  refine nj_seal 1 rfl rfl fun σ1 hle1 hS1=>?_
  refine nj_seal 1 rfl rfl fun σ2 hle2 hS2=>?_
  refine nj_fret TT rfl fun β w' _ _=>?_
  have S1:=(hS1.sl (rows:=lr) (sz:=8) rfl (fun r hr=>⟨(hR1.rows r hr).1,(hR1.rows r hr).2.1⟩) hlr rfl hc1).mono hle2
  have S2:=hS2.sl (rows:=keyRows ks vr) (sz:=9) (n:=ks.length) rfl (fun r hr=>?_) (keyRows_len (by omega)) rfl hc2
  · refine ⟨buCells x ⟨s,m,k1,ls,lr,la,lc,ks,vs,vr,ma,mc⟩,k1,rfl,?_,rfl,hk1,hk2,rfl⟩
    simp only [RepV]
    exact ⟨la,lc,lr,ma,mc,vr,rfl,S1,(hR1.mono hle1).mono hle2,hkv,S2,(hR2.mono hle1).mono hle2,hfit.1,hfit.2.1,by simp only [mostLen];omega,by simp only [mostLen];omega,hky⟩
  · obtain ⟨j,hj⟩:=List.getElem?_of_mem hr
    have hjl:=(List.getElem?_eq_some_iff.1 hj).1
    rw [keyRows_len (by omega)] at hjl
    have hg:=keyRows_get (List.getElem?_eq_getElem hjl) (List.getElem?_eq_getElem (l:=vr) (i:=j) (by omega))
    rw [hg] at hj
    injection hj with hj
    subst hj
    have:=hR2.rows _ (List.getElem_mem (l:=vr) (n:=j) (by omega))
    exact ⟨by simp [keyRow,this.1],keyRow_lt this.2.1⟩
end Go.Sy
namespace Go.Sy
open Go.Proofs
def intVs (l:List Int):List Value:=l.map fun x=>Value.int .i64 x
structure NmS where
  k:Nat
  op:List Int
  oo:Option Addr
  oc:Nat
def nmA (oo:Option Addr) (oc:Nat) (op:List Int):List AE:=[⟨oo,op.length,oc,3,1,intVs op⟩]
set_option maxRecDepth 100000 in
set_option maxHeartbeats 2000000 in
theorem named_c (σ:Snap) (L:List GRec) (hL:L.length<=100000) (ao:Option Addr) (cap:Nat) (H:SlAt σ ao L.length cap 11 (recRows L)) (hlv:levelsOk 0 L) :
    PlainS Tryz.prog 152 [.a (.v (.slice ao L.length cap))] σ (fun v=>v=.bool (namedG L)):=by
  refine enter_p Tryz.func152 rfl rfl (by (repeat' (first | exact trivial | constructor))) fun w=>?_
  refine cj_nilarr 3 1 ?_
  (repeat (first | refine cj_seq ?_ | refine cjr TT rfl ?_ | refine oj_then ?_ | refine cj_block ?_))
  refine cj_loop (fun _=>σ) (fun (s:NmS)=>[(3,.a (.v (.slice s.oo s.op.length s.oc))),(7,.a (.v (.slice ao L.length cap))),(8,.a (.v (.int .i64 L.length))),(9,.a (.v (.int .i64 s.k)))]) (fun _=>[]) (fun s=>nmA s.oo s.oc s.op) 0
    (fun s=>s.k<=L.length/\namedFrom s.op (L.drop s.k)=namedG L/\levelsOk s.op.length (L.drop s.k)/\s.op.length<=s.oc/\s.op.length<=s.k) (fun s=>L.length - s.k) ⟨0,[],none,0⟩ ⟨Nat.zero_le _,rfl,hlv,Nat.le_refl _,Nat.le_refl _⟩ rfl (by (repeat first | exact trivial | refine ⟨rfl,?_⟩)) (by (repeat first | exact trivial | refine ⟨rfl,?_⟩)) rfl (by (repeat' (first | exact trivial | constructor))) (by (repeat' exact trivial)) fun ⟨k,op,oo,oc⟩ ⟨hk,hnm,hlv,hc,hok⟩=>?_
  dsimp only at hk hnm hlv hc hok ⊢
  (repeat (first | refine cj_seq ?_ | refine cjr TT rfl ?_ | refine oj_then ?_))
  refine cj_if rfl (fun h=>?_) (fun h=>?_)
  rotate_left
  · have hk0:k=L.length:=by have:=of_decide_eq_false h;omega
    subst hk0
    rw [List.drop_length] at hnm
    (repeat (first | refine cj_seq ?_ | refine cjr TT rfl ?_ | refine oj_then ?_ | refine cj_exit ?_ | refine cj_ret ?_ | refine nj_then ?_ | refine nj_then_exit ?_ | refine nj_block_out ?_))
    refine nj_ret TT rfl fun β w' _ _=>?_
    rw [<-hnm]
    rfl
  have hkl:k<L.length:=by have:=of_decide_eq_true h;omega
  have hrow:(recRows L)[k]?=some (recCells L[k]):=recRows_get (List.getElem?_eq_getElem hkl)
  rw [List.drop_eq_getElem_cons hkl] at hnm hlv
  generalize L[k]=x at *
  obtain ⟨hlv1,hlv2,hlv3⟩:=hlv
  rw [namedFrom] at hnm
  obtain ⟨j,hj⟩:∃ j:Nat,x.lv=j:=⟨x.lv.toNat,by omega⟩
  rw [show x.lv.toNat=j by omega] at hnm hlv3
  have hjl:j<=op.length:=by omega
  (repeat (first | refine cj_seq ?_ | refine cjr TT rfl ?_ | refine cj_skip ?_ | refine cj_block ?_ | refine nj_then ?_))
  refine oj_idx TT rfl rfl rfl rfl rfl rfl rfl rfl rfl H (by omega) hrow (oj_run TT rfl ?_)
  (repeat (first | refine cj_seq ?_ | refine cjr TT rfl ?_ | refine oj_then ?_))
  refine oj_slice_to TT j rfl rfl rfl rfl rfl rfl rfl rfl rfl hj (by omega) hc (oj_run TT rfl ?_)
  have hl1:(op.take j).length=j:=by rw [List.length_take];omega
  have hcut:[(⟨oo,op.length,oc,3,1,intVs op⟩:AE)].set 0 (AE.cut ⟨oo,op.length,oc,3,1,intVs op⟩ j)=nmA oo oc (op.take j):=by
    show [_]=[_]
    rw [hl1]
    simp [AE.cut,intVs,List.map_take]
  refine oj_cutArr 0 j rfl rfl hjl hcut ?_
  generalize op.take j=o at *
  subst hl1
  refine oj_then ?_
  refine cj_cut (α:=Unit) (fun _=>σ) (fun _=>[(3,.a (.v (.slice oo o.length oc))),(5,.a (.p 1 0)),(6,.a (.b (o.getLast? == some 5))),(7,.a (.v (.slice ao L.length cap))),(8,.a (.v (.int .i64 L.length))),(9,.a (.v (.int .i64 k)))])
    (fun _=>[(1,.loc 130,recCells x)]) (fun _=>nmA oo oc o) 2 (fun _=>True) ?_ (fun _ _=>?_)
  · (repeat refine cjr TT rfl ?_)
    refine oj_split 20 rfl (fun h=>?_) (fun h=>?_)
    · have hpos:0<o.length:=by have:=of_decide_eq_true h;omega
      have hlast:o.getLast?=some o[o.length - 1]:=by rw [List.getLast?_eq_getElem?,List.getElem?_eq_getElem]
      refine oj_arrAt 0 (E:=⟨oo,o.length,oc,3,1,intVs o⟩) rfl hpos fun g1 hg1=>?_
      have hg1:oo=some ⟨g1,0,none⟩:=hg1
      subst hg1
      refine oj_run TT rfl ?_
      refine oj_minus rfl rfl rfl rfl rfl rfl (by omega) (oj_run TT rfl ?_)
      refine oj_indexAddr TT rfl rfl rfl rfl rfl rfl rfl rfl rfl ⟨by omega,by omega⟩ (oj_run TT rfl ?_)
      refine oj_ldA 0 (off:=o.length - 1) (c:=.v (.int .i64 o[o.length - 1])) TT rfl rfl rfl rfl rfl ?_ rfl rfl rfl rfl ?_ trivial (oj_run TT rfl ?_)
      · show some (SV.a (AT.v (.pointer (some (Addr.add ⟨g1,0,none⟩ (((o.length:Int) - 1).toNat*1))))))=_
        rw [add0,show ((o.length:Int) - 1).toNat*1=o.length - 1 by omega]
      · show (intVs o)[o.length - 1]?=_
        unfold intVs
        rw [List.getElem?_map,List.getElem?_eq_getElem (by omega)]
        rfl
      (repeat refine oj_nil ?_)
      refine nj_set 6 (.a (.b (o.getLast? == some 5))) rfl trivial (fun β=>?_) ?_
      · show Value.bool _=Value.bool _
        congr 1
        rw [hlast,Bool.eq_iff_iff]
        simp
      refine nj_again () trivial Nat.zero_lt_one rfl (by (repeat first | exact trivial | refine ⟨rfl,?_⟩)) (by (repeat first | exact trivial | refine ⟨rfl,?_⟩)) rfl (by (repeat' (first | exact trivial | exact Nat.le_of_ble_eq_true rfl | constructor))) (by (repeat' (first | exact trivial | exact Nat.le_of_ble_eq_true rfl | refine AllLt.of ?_ | constructor)))
    · have h0:o=[]:=by
        have:=of_decide_eq_false h
        exact List.eq_nil_of_length_eq_zero (by omega)
      subst h0
      refine oj_run TT rfl ?_
      (repeat refine oj_nil ?_)
      refine nj_set 6 (.a (.b (([]:List Int).getLast? == some 5))) rfl trivial (fun β=>rfl) ?_
      refine nj_again () trivial Nat.zero_lt_one rfl (by (repeat first | exact trivial | refine ⟨rfl,?_⟩)) (by (repeat first | exact trivial | refine ⟨rfl,?_⟩)) rfl (by (repeat' (first | exact trivial | exact Nat.le_of_ble_eq_true rfl | constructor))) (by (repeat' (first | exact trivial | exact Nat.le_of_ble_eq_true rfl | refine AllLt.of ?_ | constructor)))
  have go:∀ (e:(x.nm != (o.getLast? == some 5))=false) (e2:(!x.nm&&!decide (x.name=⟨#[]⟩))=false),namedFrom (o++[x.kd]) (L.drop (k+1))=namedG L:=fun e e2=>by
    rw [e,e2] at hnm
    exact hnm
  (repeat (first | refine cj_seq ?_ | refine cjr TT rfl ?_))
  refine oj_split 33 rfl (fun h=>?_) (fun h=>?_)
  · refine oj_run TT rfl ?_
    (repeat (first | refine cj_seq ?_ | refine cjr TT rfl ?_ | refine oj_then ?_ | refine cj_if_t rfl ?_ | refine cj_ret ?_ | refine nj_then_ret ?_ | refine nj_block_ret ?_))
    refine nj_ret TT rfl fun β w' _ _=>?_
    have h:(x.nm != (o.getLast? == some 5))=true:=h
    rw [h,Bool.true_or,if_pos rfl] at hnm
    rw [<-hnm]
    rfl
  have h1:(x.nm != (o.getLast? == some 5))=false:=h
  refine oj_run TT rfl ?_
  refine oj_split 37 rfl (fun h=>?_) (fun h=>?_)
  · have h2:(!x.nm)=true:=h
    refine oj_run TT rfl ?_
    (repeat refine oj_then ?_)
    refine cj_if rfl (fun h=>?_) (fun h=>?_)
    · have h3:(!decide (x.name=⟨#[]⟩))=true:=h
      (repeat (first | refine cj_seq ?_ | refine cjr TT rfl ?_ | refine oj_then ?_ | refine cj_ret ?_ | refine nj_then_ret ?_ | refine nj_block_ret ?_))
      refine nj_ret TT rfl fun β w' _ _=>?_
      rw [h1,h2,h3,Bool.true_and,Bool.or_true,if_pos rfl] at hnm
      rw [<-hnm]
      rfl
    · have h3:(!decide (x.name=⟨#[]⟩))=false:=h
      have hnx:=go h1 (by rw [h3,Bool.and_false])
      (repeat (first | refine cjr TT rfl ?_ | refine cj_skip ?_ | refine nj_then ?_))
      refine oj_append_lit TT 0 rfl rfl rfl rfl rfl rfl rfl rfl rfl rfl rfl rfl rfl rfl rfl rfl rfl rfl (by (repeat' (first | exact trivial | refine AllLt.of ?_ | constructor))) rfl (by omega) (by show (o.length+1)*8<=_;omega) fun ao' cap' hcap'=>oj_run TT rfl ?_
      (repeat (first | refine cjr TT rfl ?_ | refine oj_nil ?_ | refine nj_then ?_ | refine nj_block ?_ | (refine oj_add rfl rfl rfl rfl rfl rfl (by omega) ?_;refine oj_run TT rfl ?_)))
      refine nj_again ⟨k+1,o++[x.kd],ao',cap'⟩ ⟨hkl,hnx,by dsimp only;rw [List.length_append];exact hlv3,by dsimp only;rw [List.length_append];exact hcap',by dsimp only;rw [List.length_append,List.length_singleton];omega⟩ (by dsimp only;omega) rfl ?_ (by (repeat first | exact trivial | refine ⟨rfl,?_⟩)) ?_ (by (repeat' (first | exact trivial | constructor))) (by (repeat' exact trivial))
      · refine ⟨?_,rfl,rfl,rfl,trivial⟩
        dsimp only
        rw [List.length_append]
        rfl
      · unfold nmA
        dsimp only
        rw [List.length_append]
        simp only [intVs,List.map_append]
        rfl
  · have h2:(!x.nm)=false:=h
    have hnx:=go h1 (by rw [h2,Bool.false_and])
    refine oj_run TT rfl ?_
    (repeat (first | refine cjr TT rfl ?_ | refine oj_then ?_ | refine cj_if_f rfl ?_ | refine cj_skip ?_ | refine nj_then ?_))
    refine oj_append_lit TT 0 rfl rfl rfl rfl rfl rfl rfl rfl rfl rfl rfl rfl rfl rfl rfl rfl rfl rfl (by (repeat' (first | exact trivial | refine AllLt.of ?_ | constructor))) rfl (by omega) (by show (o.length+1)*8<=_;omega) fun ao' cap' hcap'=>oj_run TT rfl ?_
    (repeat (first | refine cjr TT rfl ?_ | refine oj_nil ?_ | refine nj_then ?_ | refine nj_block ?_ | (refine oj_add rfl rfl rfl rfl rfl rfl (by omega) ?_;refine oj_run TT rfl ?_)))
    refine nj_again ⟨k+1,o++[x.kd],ao',cap'⟩ ⟨hkl,hnx,by dsimp only;rw [List.length_append];exact hlv3,by dsimp only;rw [List.length_append];exact hcap',by dsimp only;rw [List.length_append,List.length_singleton];omega⟩ (by dsimp only;omega) rfl ?_ (by (repeat first | exact trivial | refine ⟨rfl,?_⟩)) ?_ (by (repeat' (first | exact trivial | constructor))) (by (repeat' exact trivial))
    · refine ⟨?_,rfl,rfl,rfl,trivial⟩
      dsimp only
      rw [List.length_append]
      rfl
    · unfold nmA
      dsimp only
      rw [List.length_append]
      simp only [intVs,List.map_append]
      rfl
end Go.Sy
namespace Go.Sy
open Go.Proofs
set_option maxRecDepth 100000 in
set_option maxHeartbeats 1000000 in
theorem backward_c (σ:Snap) (ao:Option Addr) (n cap:Nat) :
    PureS Tryz.prog 209 [.a (.v (.slice ao n cap))] σ (fun v σ'=>∃ g,v=.func (.func 233) #[] #[.pointer (some ⟨g,0,none⟩)]/\σ'.cell ⟨g,0,none⟩=some (.slice ao n cap)):=by
  refine enter_s Tryz.func209 rfl rfl (by (repeat' (first | exact trivial | constructor))) fun w=>?_
  (repeat (first | refine cj_seq ?_ | refine cjr TT rfl ?_ | refine oj_then ?_ | refine cj_ret ?_))
  refine nj_own 0 1 1 rfl (by (repeat' (first | exact trivial | refine AllLt.of ?_ | constructor))) rfl (by decide) fun g=>?_
  refine nj_seal 0 rfl rfl fun σ' hle hS=>?_
  refine nj_ret TT rfl fun β w' _ _=>?_
  refine ⟨g,rfl,?_⟩
  rcases hS with ⟨h1,_⟩ | ⟨g',h1,h2⟩
  · cases h1
  · injection h1 with h1
    simp only [Addr.mk.injEq,and_true] at h1
    subst h1
    exact h2 0 _ rfl
set_option maxRecDepth 100000 in
set_option maxHeartbeats 1000000 in
theorem backwardIt_c (σ:Snap) (l:Nat) (r:Loop) (g:Nat) (ao:Option Addr) (cap:Nat) (L:List GRec) (hL:L.length<=100000) (E1 E2:AE) (Inv:Nat->AE->AE->Prop) (Stop:Snap->AE->AE->Prop)
    (hl:σ l=some (.loop r)) (hp:Nat.beq 2 r.params.size=true) (hg:σ.cell ⟨g,0,none⟩=some (.slice ao L.length cap)) (H:SlAt σ ao L.length cap 11 (recRows L)) (h0:Inv L.length E1 E2)
    (hround:∀ (k:Nat) (hk:k<L.length) (s:Snap) (F1 F2:AE),s l=some (.loop r)->σ.leB l s->Inv (k+1) F1 F2->RoundC Tryz.prog l r (([.a (.v (.int .i64 k)),.agg (recCells L[k])]:List SV).map (SV.den β0)).toArray s [F1,F2] (fun v s' A'=>∃ G1 G2,A'=[G1,G2] /\
      ((v=.bool true/\s' l=some (.loop r)/\Inv k G1 G2)\/(v=.bool false/\Stop s' G1 G2)))) :
    IterC Tryz.prog 233 (([.a (.fn (.yield l) []),.a (.v (.pointer (some ⟨g,0,none⟩)))]:List SV).map (SV.den β0)).toArray l σ [E1,E2] (fun _ s' A'=>∃ G1 G2,A'=[G1,G2]/\((s' l=some (.loop r)/\Inv 0 G1 G2)\/Stop s' G1 G2)):=by
  refine enter_it Tryz.func233 rfl rfl ⟨SV.lt_fn0,trivial,trivial⟩ fun w=>?_
  (repeat (first | refine cj_seq ?_ | refine cjr TT rfl ?_))
  refine oj_ldS (c:=.v (.slice ao L.length cap)) TT rfl rfl rfl rfl rfl rfl rfl rfl hg trivial (oj_run TT rfl ?_)
  (repeat (first | refine oj_then ?_ | refine cj_block ?_ | (refine oj_minus rfl rfl rfl rfl rfl rfl (by omega) ?_;refine oj_run TT rfl ?_)))
  refine cj_loop (fun (p:Snap×Nat×AE×AE)=>p.1) (fun p=>[(0,.a (.fn (.yield l) [])),(1,.a (.v (.pointer (some ⟨g,0,none⟩)))),(3,.a (.v (.int .i64 (p.2.1 - 1))))]) (fun _=>[]) (fun p=>[p.2.2.1,p.2.2.2]) 0
    (fun p=>p.2.1<=L.length/\p.1 l=some (.loop r)/\σ.leB l p.1/\Inv p.2.1 p.2.2.1 p.2.2.2) (fun p=>p.2.1) (σ,L.length,E1,E2) ⟨Nat.le_refl _,hl,fun b o h=>?_,h0⟩ rfl (by (repeat first | exact trivial | refine ⟨rfl,?_⟩)) (by (repeat first | exact trivial | refine ⟨rfl,?_⟩)) rfl ⟨SV.lt_fn0,trivial,trivial,trivial⟩ (by (repeat' exact trivial)) fun ⟨s,m,F1,F2⟩ ⟨hm,hsl,hs,hI⟩=>?_
  · by_cases hb:b=l
    · subst hb;rw [Snap.set_self] at h;cases h
    · rw [Snap.set_ne hb] at h;exact h
  dsimp only at hm hsl hs hI ⊢
  (repeat (first | refine cj_seq ?_ | refine cjr TT rfl ?_ | refine oj_then ?_))
  refine cj_if rfl (fun h=>?_) (fun h=>?_)
  rotate_left
  · have hm0:m=0:=by have:=of_decide_eq_false h;omega
    subst hm0
    (repeat (first | refine cj_exit ?_ | refine nj_then_exit ?_ | refine nj_block_out ?_))
    refine nj_iend TT rfl fun β=>?_
    exact ⟨F1,F2,rfl,.inl ⟨hsl,hI⟩⟩
  obtain ⟨k,rfl⟩:∃ k,m=k+1:=⟨m - 1,by have:=of_decide_eq_true h;omega⟩
  have hrow:(recRows L)[k]?=some (recCells L[k]):=recRows_get (List.getElem?_eq_getElem hm)
  refine cj_set 3 (.a (.v (.int .i64 k))) rfl trivial (fun β=>?_) ?_
  · show Value.int .i64 (((k+1:Nat):Int) - 1)=_
    congr 1
    omega
  (repeat (first | refine cj_seq ?_ | refine cjr TT rfl ?_ | refine cj_skip ?_ | refine cj_block ?_ | refine nj_then ?_))
  refine oj_ldS (c:=.v (.slice ao L.length cap)) TT rfl rfl rfl rfl rfl rfl rfl rfl (hs.cle hl _ _ hg) trivial (oj_run TT rfl ?_)
  refine oj_idx TT rfl rfl rfl rfl rfl rfl rfl rfl rfl (H.monoC (hs.cle hl)) (by omega) hrow (oj_run TT rfl ?_)
  refine oj_yield [0,1] (A0:=[F1,F2]) (Ar:=[]) hsl (Snap.set_self ..) rfl rfl rfl hp rfl rfl rfl rfl ⟨trivial,recCells_lt _ _,trivial⟩ (hround k hm s F1 F2 hsl hs hI) fun v s' A' hle ⟨G1,G2,hA,hv⟩=>?_
  subst hA
  have hs':σ.leB l s':=fun b o h=>by
    have hb:b≠l:=fun e=>by subst e;rw [Snap.set_self] at h;cases h
    rw [Snap.set_ne hb] at h
    exact hle.at_ hb (hs.at_ hb h)
  rcases hv with ⟨hv,hsl',hI'⟩ | ⟨hv,hst⟩
  · refine ⟨.a .tt,trivial,hv.symm,oj_run TT rfl ?_⟩
    (repeat (first | refine cjr TT rfl ?_ | refine oj_then ?_ | refine oj_nil ?_ | refine cj_if_f rfl ?_ | refine cj_skip ?_ | refine nj_then ?_ | refine nj_block ?_ | (refine oj_minus rfl rfl rfl rfl rfl rfl (by omega) ?_;refine oj_run TT rfl ?_)))
    refine nj_again (s',k,G1,G2) ⟨by dsimp only;omega,hsl',hs',hI'⟩ (Nat.lt_succ_self k) rfl (by (repeat first | exact trivial | refine ⟨rfl,?_⟩)) (by (repeat first | exact trivial | refine ⟨rfl,?_⟩)) rfl ⟨SV.lt_fn0,trivial,trivial,trivial⟩ (by (repeat' exact trivial))
  · refine ⟨.a .ff,trivial,hv.symm,oj_run TT rfl ?_⟩
    (repeat (first | refine oj_then ?_ | refine cj_if_t rfl ?_ | refine cj_ret ?_ | refine nj_then_ret ?_ | refine nj_block_ret ?_))
    refine nj_iret TT rfl fun β=>?_
    exact ⟨G1,G2,rfl,.inr hst⟩
end Go.Sy
namespace Go.Sy
open Go.Proofs
theorem results_cellA {cf:Cf} {σ:Snap} {env:Env} {hp:HP} {A:List AE} {β:Nat->Addr} {a:Act} {w:World} {T:List (Nat×TI)} (hT:TTok cf.P T) (ha:StA cf env β a) (hw:StW cf σ hp A β w) {fn:Func} {p t:Nat} {ti:TI} {g off i:Nat} {E:AE} {v:Value}
    (hr:fn.results=#[.cell p t]) (hp':env.get p=some (.a (.v (.pointer (some ⟨g,off,none⟩))))) (ht:tget T t=some ti) (hag:ti.agg=false) (hi:A[i]?=some E) (hE:E.ao=some ⟨g,0,none⟩) (hv:E.xs[off]?=some v) :
    (results fn a.tmps).run cf.P w=.ok v w:=by
  obtain ⟨inf,d',z,hs⟩:=tiOf_spec (hT _ _ ht)
  have hcell:=(hw.arr i E hi).cell hE hv
  have hx:a.tmps.getD p undef=.pointer (some ⟨g,off,none⟩):=evalO_eval (x:=.tmp p) ha hp'
  have hload:(load ⟨g,off,none⟩).run cf.P w=.ok v w:=by rw [run_load,hcell]
  rw [results_eq,hr,Array.mapM_eq_mapM_toList,Sem.run_bind,Sem.run_map]
  simp only [List.mapM_cons,List.mapM_nil,Sem.run_bind,Sem.run_pure,resOne,hx,asAddr,loadVar,Result.andThen_ok,run_isAgg hs.und,hs.agg,hag,Bool.false_eq_true,if_false,hload]
  rfl
theorem nj_mretA {P:Program} {w0:World} {σ0:Snap} {M:Nat->Prop} {N:Nat} {T:List (Nat×TI)} {fn:Func} {Post:Value->World->Snap->Prop} {σ:Snap} {env:Env} {hp:HP} {A:List AE} {nh:Nat} {D:Nat} (hD:σ D=some (.deferred (some []))) (h0:σ0 D=none) (hT:TTok P T)
    {p t:Nat} {ti:TI} {g off:Nat} (i:Nat) {E:AE} (v:Value) (hr:fn.results=#[.cell p t]) (hp':env.get p=some (.a (.v (.pointer (some ⟨g,off,none⟩))))) (ht:tget T t=some ti) (hag:ti.agg=false) (hi:A[i]?=some E) (hE:E.ao=some ⟨g,0,none⟩) (hv:E.xs[off]?=some v)
    (h:∀ w,Post v w (σ.set D none)) :
    NJ ⟨P,w0,σ0,M,N,[markD D],none⟩ .ret (bodyPostM (FR none) 0 P fn (postR w0 M σ0 Post)) σ env hp A nh:=⟨fun hb a β w ha hw=>by
  show LeavesInM (FR none) 0 P fn a.tmps _ a.defers .returning w
  rw [ha.defers]
  have hfin:StW ⟨P,w0,σ0,M,N,[],none⟩ (σ.set D none) hp A β (w.putObj D (.deferred none)):=(hw.swap (w':=w.putObj D (.deferred none)) none (hw.sealed _ _ hD) rfl h0 (hw.own_of hD h0) rfl rfl rfl (by simp) (fun c hc=>World.putObj_heap_other hc) fun _ e=>(by cases e)).re _ _ _
  have ha':StA ⟨P,w0,σ0,M,N,[],none⟩ env β ⟨a.tmps,[]⟩:=⟨ha.size,rfl,ha.env⟩
  refine ⟨by simp,.inl ⟨D,_,rfl,run_takeDeferred (hw.sealed _ _ hD),_,results_cellA (cf:=⟨P,w0,σ0,M,N,[],none⟩) hT ha' hfin hr hp' ht hag hi hE hv,_,σ.set D none,rfl,Fr.of hfin,SGrow.of hfin,hfin.sealed,h _⟩⟩⟩
theorem cell_DL {σ:Snap} {D l:Nat} {r:Loop} (hDl:D≠l) (hD:σ D=none) (hl:σ l=none) (a:Addr):((σ.set D (some (.deferred (some [])))).set l (some (.loop r))).cell a=σ.cell a:=by
  rw [Snap.cell_set (fun o e=>by rw [Snap.set_ne (Ne.symm hDl),hl] at e;cases e) (fun o e=>by injection e with e;subst e;rfl),Snap.cell_set (fun o e=>by rw [hD] at e;cases e) (fun o e=>by injection e with e;subst e;rfl)]
theorem okRd_of {rd:Option Nat} {ops:Array Oper} (h:ops.toList.all noDefer=true):okRd rd ops=true:=by
  cases rd with
  | none=>rfl
  | some l=>simp only [okRd];rw [<-Array.all_toList];exact h
theorem IterC.mono {P:Program} {f:FuncId} {args:Array Value} {l:Nat} {σ:Snap} {A:List AE} {Φ Ψ:Value->Snap->List AE->Prop} (h:IterC P f args l σ A Φ) (hi:∀ v s A',Φ v s A'->Ψ v s A'):IterC P f args l σ A Ψ :=
  fun w hw=>Calls.mono (h w hw) fun _ _ ⟨v,σ',A',h1,h2,h3⟩=>⟨v,σ',A',h1,h2,hi _ _ _ h3⟩
structure NeS where
  k:Nat
  ro:List GRec
  last:Int
  oo:Option Addr
  oc:Nat
def neA (oo:Option Addr) (oc:Nat) (ro:List GRec):List AE:=[⟨oo,ro.length,oc,130,11,recXs ro.reverse⟩]
def boxE (g e:Nat) (v:Value):AE:=⟨some ⟨g,0,none⟩,1,1,e,1,[v]⟩
set_option maxRecDepth 100000 in
set_option maxHeartbeats 4000000 in
theorem nested_c (σ:Snap) (L:List GRec) (hL:L.length<=100000) (ao:Option Addr) (cap:Nat) (H:SlAt σ ao L.length cap 11 (recRows L)) :
    PlainS Tryz.prog 151 [.a (.v (.slice ao L.length cap))] σ (fun v=>v=.bool (nestedG L)):=by
  refine enter_mp Tryz.func151 rfl rfl (by (repeat' (first | exact trivial | constructor))) fun w=>?_
  refine cj_nilarr 130 11 ?_
  (repeat (first | refine cj_seq ?_ | refine cjr TT rfl ?_ | refine oj_then ?_ | refine cj_block ?_))
  refine cj_cutB (fun (_:NeS)=>σ) (fun s=>[(0,.a (.v (.slice ao L.length cap))),(2,.a (.p 0 0)),(3,.a (.v (.slice s.oo s.ro.length s.oc))),(4,.a (.p 1 0))]) (fun s=>[(0,.loc 4,[.ff]),(1,.loc 3,[.v (.int .i64 s.last)])]) (fun s=>neA s.oo s.oc s.ro) 2
    (fun s=>(closeAll s.ro s.last&&decide (0<(L.length:Int)))=nestedG L/\s.ro.length<=s.oc/\s.ro.length<=L.length) ?_ (fun ⟨_,ro,last,oo,oc⟩ ⟨hne,hc,hrl⟩=>?_)
  · refine cj_loop (fun (_:NeS)=>σ) (fun s=>[(0,.a (.v (.slice ao L.length cap))),(2,.a (.p 0 0)),(3,.a (.v (.slice s.oo s.ro.length s.oc))),(4,.a (.p 1 0)),(10,.a (.v (.slice ao L.length cap))),(11,.a (.v (.int .i64 L.length))),(12,.a (.v (.int .i64 s.k)))])
      (fun s=>[(0,.loc 4,[.ff]),(1,.loc 3,[.v (.int .i64 s.last)])]) (fun s=>neA s.oo s.oc s.ro) 2
      (fun s=>s.k<=L.length/\(nestFrom s.k s.ro s.last (L.drop s.k)&&decide (0<(L.length:Int)))=nestedG L/\s.ro.length<=s.oc/\s.ro.length<=s.k) (fun s=>L.length - s.k) ⟨0,[],-1,none,0⟩ ⟨Nat.zero_le _,rfl,Nat.le_refl _,Nat.le_refl _⟩ rfl (by (repeat first | exact trivial | refine ⟨rfl,?_⟩)) (by (repeat first | exact trivial | refine ⟨rfl,?_⟩)) rfl (by (repeat' (first | exact trivial | exact Nat.le_of_ble_eq_true rfl | constructor))) (by (repeat' (first | exact trivial | exact Nat.le_of_ble_eq_true rfl | refine AllLt.of ?_ | constructor))) fun ⟨k,ro,last,oo,oc⟩ ⟨hk,hne,hc,hrk⟩=>?_
    dsimp only at hk hne hc hrk ⊢
    (repeat (first | refine cj_seq ?_ | refine cjr TT rfl ?_ | refine oj_then ?_))
    refine cj_if rfl (fun h=>?_) (fun h=>?_)
    rotate_left
    · have hk0:k=L.length:=by have:=of_decide_eq_false h;omega
      subst hk0
      rw [List.drop_length,nestFrom] at hne
      (repeat (first | refine cj_exit ?_ | refine nj_then_exit ?_ | refine nj_block_out ?_))
      refine nj_again ⟨L.length,ro,last,oo,oc⟩ ⟨hne,hc,hrk⟩ Nat.zero_lt_one rfl (by (repeat first | exact trivial | refine ⟨rfl,?_⟩)) (by (repeat first | exact trivial | refine ⟨rfl,?_⟩)) rfl (by (repeat' (first | exact trivial | exact Nat.le_of_ble_eq_true rfl | constructor))) (by (repeat' (first | exact trivial | exact Nat.le_of_ble_eq_true rfl | refine AllLt.of ?_ | constructor)))
    have hkl:k<L.length:=by have:=of_decide_eq_true h;omega
    have hrow:(recRows L)[k]?=some (recCells L[k]):=recRows_get (List.getElem?_eq_getElem hkl)
    rw [List.drop_eq_getElem_cons hkl] at hne
    generalize L[k]=x at *
    rw [nestFrom] at hne
    have bad:(x.lv<0\/(ro.length:Int)<x.lv\/(decide (x.lv=0) != decide ((k:Int)=0))=true)->nestedG L=false:=fun h=>by rw [if_pos h] at hne;exact hne.symm
    (repeat (first | refine cj_seq ?_ | refine cjr TT rfl ?_ | refine cj_skip ?_ | refine cj_block ?_ | refine nj_then ?_))
    refine oj_idx TT rfl rfl rfl rfl rfl rfl rfl rfl rfl H (by omega) hrow (oj_run TT rfl ?_)
    (repeat (first | refine cj_seq ?_ | refine cjr TT rfl ?_ | refine oj_then ?_))
    refine oj_split 20 rfl (fun h=>?_) (fun h=>?_)
    · refine oj_run TT rfl ?_
      (repeat (first | refine cj_seq ?_ | refine cjr TT rfl ?_ | refine oj_then ?_ | refine cj_if_t rfl ?_ | refine cj_ret ?_ | refine nj_then_ret ?_ | refine nj_block_ret ?_))
      refine nj_mret0 TT rfl fun β w' _ _=>?_
      rw [bad (.inl (of_decide_eq_true h))]
      rfl
    have hlv0:0<=x.lv:=by have:=of_decide_eq_false h;omega
    refine oj_run TT rfl ?_
    refine oj_split 27 rfl (fun h=>?_) (fun h=>?_)
    · refine oj_run TT rfl ?_
      (repeat (first | refine cj_seq ?_ | refine cjr TT rfl ?_ | refine oj_then ?_ | refine cj_if_t rfl ?_ | refine cj_ret ?_ | refine nj_then_ret ?_ | refine nj_block_ret ?_))
      refine nj_mret0 TT rfl fun β w' _ _=>?_
      rw [bad (.inr (.inl (of_decide_eq_true h)))]
      rfl
    have hlv1:x.lv<=ro.length:=by have:=of_decide_eq_false h;omega
    refine oj_run TT rfl ?_
    (repeat refine oj_then ?_)
    refine cj_if rfl (fun h=>?_) (fun h=>?_)
    · (repeat (first | refine cj_seq ?_ | refine cjr TT rfl ?_ | refine oj_then ?_ | refine cj_ret ?_ | refine nj_then_ret ?_ | refine nj_block_ret ?_))
      refine nj_mret0 TT rfl fun β w' _ _=>?_
      rw [bad (.inr (.inr h))]
      rfl
    have hlv2:(decide (x.lv=0) != decide ((k:Int)=0))=false:=h
    rw [if_neg (by rw [hlv2];intro hh;rcases hh with hh | hh | hh<;>first | omega | cases hh)] at hne
    clear bad
    refine cj_skip (nj_then (cj_seq (cj_block ?_)))
    refine cj_cutB (fun (_:NeS)=>σ) (fun s=>[(0,.a (.v (.slice ao L.length cap))),(2,.a (.p 0 0)),(3,.a (.v (.slice oo s.ro.length oc))),(4,.a (.p 1 0)),(6,.a (.p 3 0)),(10,.a (.v (.slice ao L.length cap))),(11,.a (.v (.int .i64 L.length))),(12,.a (.v (.int .i64 k)))])
      (fun s=>[(0,.loc 4,[.ff]),(1,.loc 3,[.v (.int .i64 s.last)]),(3,.loc 130,recCells x)]) (fun s=>neA oo oc s.ro) 4
      (fun s=>closeTo x.lv ro last=some (s.ro,s.last)/\s.ro.length<=ro.length) ?_ (fun ⟨_,ro1,last1,_,_⟩ ⟨hcl,hr1⟩=>?_)
    · refine cj_loop (fun (_:NeS)=>σ) (fun s=>[(0,.a (.v (.slice ao L.length cap))),(2,.a (.p 0 0)),(3,.a (.v (.slice oo s.ro.length oc))),(4,.a (.p 1 0)),(6,.a (.p 3 0)),(10,.a (.v (.slice ao L.length cap))),(11,.a (.v (.int .i64 L.length))),(12,.a (.v (.int .i64 k)))])
        (fun s=>[(0,.loc 4,[.ff]),(1,.loc 3,[.v (.int .i64 s.last)]),(3,.loc 130,recCells x)]) (fun s=>neA oo oc s.ro) 4
        (fun s=>closeTo x.lv s.ro s.last=closeTo x.lv ro last/\s.ro.length<=ro.length) (fun s=>s.ro.length) ⟨k,ro,last,oo,oc⟩ ⟨rfl,Nat.le_refl _⟩ rfl (by (repeat first | exact trivial | refine ⟨rfl,?_⟩)) (by (repeat first | exact trivial | refine ⟨rfl,?_⟩)) rfl (by (repeat' (first | exact trivial | exact Nat.le_of_ble_eq_true rfl | constructor))) (by (repeat' (first | exact trivial | exact Nat.le_of_ble_eq_true rfl | refine AllLt.of ?_ | constructor))) fun ⟨_,ro1,last1,_,_⟩ ⟨hcl,hr1⟩=>?_
      dsimp only at hcl hr1 ⊢
      (repeat (first | refine cj_seq ?_ | refine cjr TT rfl ?_ | refine oj_then ?_))
      refine cj_if rfl (fun h=>?_) (fun h=>?_)
      rotate_left
      · have hlt:¬ x.lv<ro1.length:=of_decide_eq_false h
        have hsome:closeTo x.lv ro last=some (ro1,last1):=by
          rw [<-hcl]
          cases ro1 with
          | nil=>rfl
          | cons t ro2 =>
            simp only [List.length_cons] at hlt
            rw [closeTo,if_neg (by omega)]
        (repeat (first | refine cj_exit ?_ | refine nj_then_exit ?_ | refine nj_block_out ?_))
        refine nj_again ⟨k,ro1,last1,oo,oc⟩ ⟨hsome,hr1⟩ Nat.zero_lt_one rfl (by (repeat first | exact trivial | refine ⟨rfl,?_⟩)) (by (repeat first | exact trivial | refine ⟨rfl,?_⟩)) rfl (by (repeat' (first | exact trivial | exact Nat.le_of_ble_eq_true rfl | constructor))) (by (repeat' (first | exact trivial | exact Nat.le_of_ble_eq_true rfl | refine AllLt.of ?_ | constructor)))
      have hlt:x.lv<ro1.length:=of_decide_eq_true h
      cases ro1 with
      | nil=>simp only [List.length_nil] at hlt;omega
      | cons t ro2 =>
      simp only [List.length_cons] at hlt hr1
      rw [closeTo,if_pos (by omega)] at hcl
      have hlen:(t::ro2).length=ro2.length+1:=rfl
      have htop:(t::ro2).reverse[ro2.length]?=some t:=by rw [List.reverse_cons,List.getElem?_append_right (by simp)];simp
      (repeat (first | refine cj_seq ?_ | refine cjr TT rfl ?_ | refine cj_skip ?_ | refine cj_block ?_ | refine nj_then ?_ | (refine oj_minus rfl rfl rfl rfl rfl rfl (by omega) ?_;refine oj_run TT rfl ?_)))
      refine oj_arrAt 0 (E:=⟨oo,(t::ro2).length,oc,130,11,recXs (t::ro2).reverse⟩) rfl (Nat.succ_pos _) fun g1 hg1=>?_
      have hg1:oo=some ⟨g1,0,none⟩:=hg1
      subst hg1
      refine oj_indexAddr TT rfl rfl rfl rfl rfl rfl rfl rfl rfl ⟨by rw [hlen];omega,by omega⟩ (oj_run TT rfl ?_)
      refine oj_ldAs 0 (off:=ro2.length*11) TT (recCells t) rfl rfl rfl rfl rfl ?_ rfl rfl rfl rfl rfl ?_ (recCells_lt _ _) (oj_run TT rfl ?_)
      · show some (SV.a (AT.v (.pointer (some (Addr.add ⟨g1,0,none⟩ ((((t::ro2).length:Int) - 1).toNat*11))))))=_
        rw [add0,show (((t::ro2).length:Int) - 1).toNat=ro2.length by rw [hlen];omega]
      · intro j c hj
        exact recXs_get htop hj
      (repeat (first | refine cj_seq ?_ | refine cjr TT rfl ?_ | refine oj_then ?_))
      refine cj_if rfl (fun h=>?_) (fun h=>?_)
      · rw [if_pos (of_decide_eq_true h)] at hcl
        rw [<-hcl] at hne
        (repeat (first | refine cj_seq ?_ | refine cjr TT rfl ?_ | refine oj_then ?_ | refine cj_ret ?_ | refine nj_then_ret ?_ | refine nj_block_ret ?_))
        refine nj_mret0 TT rfl fun β w' _ _=>?_
        rw [<-hne]
        rfl
      rw [if_neg (of_decide_eq_false h)] at hcl
      (repeat (first | refine cj_seq ?_ | refine cjr TT rfl ?_ | refine oj_then ?_ | refine cj_skip ?_ | refine nj_then ?_ | (refine oj_minus rfl rfl rfl rfl rfl rfl (by omega) ?_;refine oj_run TT rfl ?_)))
      refine oj_slice_to TT ro2.length rfl rfl rfl rfl rfl rfl rfl rfl rfl (by rw [hlen];omega) (by omega) (by rw [hlen];omega) (oj_run TT rfl ?_)
      have hcut:[(⟨some ⟨g1,0,none⟩,(t::ro2).length,oc,130,11,recXs (t::ro2).reverse⟩:AE)].set 0 (AE.cut ⟨some ⟨g1,0,none⟩,(t::ro2).length,oc,130,11,recXs (t::ro2).reverse⟩ ro2.length)=neA (some ⟨g1,0,none⟩) oc ro2:=by
        show [_]=[_]
        unfold AE.cut
        congr 2
        rw [List.reverse_cons,recXs_append,List.take_append_of_le_length (by rw [recXs_len,List.length_reverse];exact Nat.le_refl _),List.take_of_length_le (by rw [recXs_len,List.length_reverse];exact Nat.le_refl _)]
      refine oj_cutArr 0 ro2.length rfl rfl (Nat.le_succ _) hcut ?_
      (repeat (first | refine oj_nil ?_ | refine nj_block ?_))
      refine nj_again ⟨k,ro2,t.en,some ⟨g1,0,none⟩,oc⟩ ⟨hcl,by dsimp only;omega⟩ (Nat.lt_succ_self _) rfl (by (repeat first | exact trivial | refine ⟨rfl,?_⟩)) (by (repeat first | exact trivial | refine ⟨rfl,?_⟩)) rfl (by (repeat' (first | exact trivial | exact Nat.le_of_ble_eq_true rfl | constructor))) (by (repeat' (first | exact trivial | exact Nat.le_of_ble_eq_true rfl | refine AllLt.of ?_ | constructor)))
    dsimp only at hcl hr1 ⊢
    rw [hcl] at hne
    dsimp only at hne
    (repeat (first | refine cj_seq ?_ | refine cjr TT rfl ?_ | refine oj_then ?_))
    refine cj_if rfl (fun h=>?_) (fun h=>?_)
    · rw [if_pos (of_decide_eq_true h),Bool.false_and] at hne
      (repeat (first | refine cj_seq ?_ | refine cjr TT rfl ?_ | refine oj_then ?_ | refine cj_ret ?_ | refine nj_then_ret ?_ | refine nj_block_ret ?_))
      refine nj_mret0 TT rfl fun β w' _ _=>?_
      rw [<-hne]
      rfl
    rw [if_neg (of_decide_eq_false h)] at hne
    (repeat (first | refine cj_seq ?_ | refine cjr TT rfl ?_ | refine oj_then ?_ | refine cj_skip ?_ | refine nj_then ?_))
    refine oj_append_lit TT 0 rfl rfl rfl rfl rfl rfl rfl rfl rfl rfl rfl rfl rfl rfl rfl rfl rfl rfl (by (repeat' (first | exact trivial | refine AllLt.of ?_ | constructor))) rfl (by omega) (by show (ro1.length+1)*112<=_;omega) fun ao' cap' hcap'=>oj_run TT rfl ?_
    (repeat (first | refine cjr TT rfl ?_ | refine oj_nil ?_ | refine nj_then ?_ | refine nj_block ?_ | (refine oj_add rfl rfl rfl rfl rfl rfl (by omega) ?_;refine oj_run TT rfl ?_)))
    refine nj_again ⟨k+1,x::ro1,x.st,ao',cap'⟩ ⟨hkl,hne,hcap',by dsimp only [List.length_cons];omega⟩ (by dsimp only;omega) rfl (by (repeat first | exact trivial | refine ⟨rfl,?_⟩)) (by (repeat first | exact trivial | refine ⟨rfl,?_⟩)) ?_ (by (repeat' (first | exact trivial | exact Nat.le_of_ble_eq_true rfl | constructor))) (by (repeat' (first | exact trivial | exact Nat.le_of_ble_eq_true rfl | refine AllLt.of ?_ | constructor)))
    unfold neA
    dsimp only
    rw [List.reverse_cons,recXs_append]
    rfl
  dsimp only at hne hc hrl ⊢
  refine cj_seal 0 rfl rfl fun σ1 hle1 hS=>?_
  have HS:SlAt σ1 oo ro.length oc 11 (recRows ro.reverse):=hS.sl (rows:=recRows ro.reverse) rfl (fun r hr=>⟨(recRows_all _ r hr).1,(recRows_all _ r hr).2.1⟩) (by rw [recRows_len,List.length_reverse]) rfl hc
  (repeat (first | refine cj_seq ?_ | refine cjr TT rfl ?_))
  refine oj_callS rfl rfl rfl rfl rfl Tryz.call209 (by (repeat' (first | exact trivial | constructor))) (backward_c σ1 oo ro.length oc) fun v σ2 hle2 ⟨g,hv,hg⟩=>⟨.a (.fn (.func 233) [.val (.pointer (some ⟨g,0,none⟩))]),(fun x hx=>by simp at hx;subst hx;trivial),hv.symm,oj_run TT rfl ?_⟩
  refine oj_nil (nj_then (cj_block ?_))
  refine cj_own 0 1 1 rfl (by (repeat' (first | exact trivial | refine AllLt.of ?_ | constructor))) rfl (by decide) fun gr=>?_
  refine cj_own 1 1 1 rfl (by (repeat' (first | exact trivial | refine AllLt.of ?_ | constructor))) rfl (by decide) fun gl=>?_
  refine cj_sub (env':=[(0,.a (.v (.slice ao L.length cap))),(2,.a (.v (.pointer (some ⟨gr,0,none⟩)))),(4,.a (.v (.pointer (some ⟨gl,0,none⟩)))),(69,.a (.fn (.func 233) [.val (.pointer (some ⟨g,0,none⟩))]))]) (hp':=[]) (subE_of (by (repeat first | exact trivial | refine ⟨rfl,?_⟩))) (subH_of trivial) ?_
  have hlr:ro.length=ro.reverse.length:=(List.length_reverse).symm
  let Inv:Nat->AE->AE->Prop:=fun m G1 G2=>G1=boxE gr 4 (.bool false)/\∃ la:Int,G2=boxE gl 3 (.int .i64 la)/\closeAll (ro.reverse.take m).reverse la=closeAll ro last
  let Stop:Nat->Snap->AE->AE->Prop:=fun l s G1 _=>G1=boxE gr 4 (.bool false)/\closeAll ro last=false/\∃ r',s l=some (.loop r')/\r'.state=.done/\r'.pending=some .ret
  refine cj_rangeFunc [0,1] (A0:=[boxE gr 4 (.bool false),boxE gl 3 (.int .i64 last)]) (Ar:=[]) rfl rfl rfl ⟨trivial,trivial⟩ ⟨trivial,trivial,trivial,(fun x hx=>by simp at hx;subst hx;trivial),trivial⟩ Tryz.call233
    (fun D l r v s A=>(r.state=.ready/\r.pending=none)/\∃ G1 G2,A=[G1,G2]/\((s l=some (.loop r)/\Inv 0 G1 G2)\/Stop l s G1 G2)) (fun fid D l tmps hts hte hDl hD hl hl0=>?_) (fun D l r v s A ⟨⟨hst,hpe⟩,G1,G2,hA,hh⟩ hD0 hl0 hsD hcle hle=>?_)
  · have hcell:=fun r=>cell_DL (r:=r) hDl hD hl
    refine IterC.mono (Φ:=fun _ s A=>∃ G1 G2,A=[G1,G2]/\((s l=some (.loop _)/\Inv 0 G1 G2)\/Stop l s G1 G2)) ?_ fun v s A h=>⟨⟨rfl,rfl⟩,h⟩
    refine backwardIt_c _ l _ g oo oc ro.reverse (by omega) _ _ Inv (Stop l) (Snap.set_self ..) rfl (by rw [hcell,<-hlr];exact hg) ((by rw [<-hlr];exact HS:SlAt σ1 oo ro.reverse.length oc 11 (recRows ro.reverse)).monoC fun a v hv=>by rw [hcell];exact hle2.cell hv) ⟨rfl,last,rfl,by rw [List.take_length,List.reverse_reverse]⟩
      fun k hk s F1 F2 hsl hsb ⟨h1,la,h2,hcl⟩=>?_
    subst h1;subst h2
    rw [List.take_succ_eq_append_getElem hk,List.reverse_append,List.reverse_singleton,List.singleton_append,closeAll] at hcl
    generalize ro.reverse[k]=y at *
    refine roundC_of (N:=Tryz.f151.ntmps) (env:=[(0,.a (.v (.slice ao L.length cap))),(2,.a (.v (.pointer (some ⟨gr,0,none⟩)))),(4,.a (.v (.pointer (some ⟨gl,0,none⟩)))),(69,.a (.fn (.func 233) [.val (.pointer (some ⟨g,0,none⟩))]))]) hts hte [70,71] rfl rfl rfl ⟨trivial,recCells_lt _ _,trivial⟩
      ⟨trivial,trivial,trivial,(fun x hx=>by simp at hx;subst hx;trivial),trivial⟩ fun w'=>?_
    dsimp only
    (repeat (first | (refine cj_region ?_ (okRd_of rfl);refine oj_run TT rfl ?_) | refine oj_nil ?_))
    refine nj_begin hsl rfl (Snap.set_self ..) ?_
    (repeat (first | refine cj_seq ?_ | (refine cj_region ?_ (okRd_of rfl);refine oj_run TT rfl ?_) | refine cj_block ?_))
    refine oj_ldA 1 (c:=.v (.int .i64 la)) TT rfl rfl rfl rfl rfl rfl rfl rfl rfl rfl rfl trivial (oj_run TT rfl ?_)
    (repeat refine oj_then ?_)
    refine cj_if rfl (fun h=>?_) (fun h=>?_)
    · rw [if_pos (of_decide_eq_true h)] at hcl
      (repeat (first | refine cj_seq ?_ | (refine cj_region ?_ (okRd_of rfl);refine oj_run TT rfl ?_)))
      refine oj_stA 0 (A':=[boxE gr 4 (.bool false),boxE gl 3 (.int .i64 la)]) (c:=.ff) TT rfl rfl rfl rfl rfl rfl rfl rfl rfl rfl Nat.zero_lt_one trivial rfl rfl (oj_run TT rfl ?_)
      (repeat (first | refine oj_then ?_ | refine cj_ret ?_ | refine nj_then_ret ?_ | refine nj_block_ret ?_))
      refine nj_rndR (Snap.set_self ..) ?_
      exact ⟨_,_,rfl,.inr ⟨rfl,rfl,hcl.symm,_,Snap.set_self ..,rfl,rfl⟩⟩
    · rw [if_neg (of_decide_eq_false h)] at hcl
      (repeat (first | (refine cj_region ?_ (okRd_of rfl);refine oj_run TT rfl ?_) | refine cj_skip ?_ | refine nj_then ?_))
      refine oj_stA 1 (A':=[boxE gr 4 (.bool false),boxE gl 3 (.int .i64 y.en)]) (c:=.v (.int .i64 y.en)) TT rfl rfl rfl rfl rfl rfl rfl rfl rfl rfl Nat.zero_lt_one trivial rfl rfl (oj_run TT rfl ?_)
      (repeat (first | refine oj_nil ?_ | refine nj_block ?_))
      refine nj_rndN (Snap.set_self ..) ?_
      exact ⟨_,_,rfl,.inl ⟨rfl,Snap.set_self ..,rfl,_,rfl,hcl⟩⟩
  · subst hA
    rcases hh with ⟨hsl,h1,la,h2,hcl⟩ | ⟨h1,hcl,r',hsl,hst',hpe'⟩
    · have hDl:D≠l:=fun e=>by subst e;rw [hsD] at hsl;cases hsl
      subst h1;subst h2
      refine ⟨r,hsl,by rw [hst];exact fun h=>(by cases h),?_⟩
      rw [hpe]
      dsimp only
      have hcl:closeAll ro last=true:=hcl.symm
      rw [hcl,Bool.true_and] at hne
      (repeat (first | refine cj_seq ?_ | refine cjr TT rfl ?_ | refine nj_then ?_ | refine nj_block ?_))
      refine oj_stA 0 (A':=[boxE gr 4 (.bool (decide (0<(L.length:Int)))),boxE gl 3 (.int .i64 la)]) (c:=.b (decide (0<(L.length:Int)))) TT rfl rfl rfl rfl rfl rfl rfl rfl rfl rfl Nat.zero_lt_one trivial rfl rfl (oj_run TT rfl ?_)
      (repeat (first | refine oj_then ?_ | refine cj_ret ?_))
      refine nj_mretA (by rw [Snap.set_ne hDl];exact hsD) hD0 TT 0 (.bool (decide (0<(L.length:Int)))) rfl rfl rfl rfl rfl rfl rfl fun w=>?_
      rw [hne]
    · have hDl:D≠l:=fun e=>by subst e;rw [hsD] at hsl;cases hsl
      subst h1
      refine ⟨r',hsl,by rw [hst'];exact fun h=>(by cases h),?_⟩
      rw [hpe']
      dsimp only
      rw [hcl,Bool.false_and] at hne
      (repeat (first | refine cj_ret ?_ | refine nj_then_ret ?_ | refine nj_block_ret ?_))
      refine nj_mretA (by rw [Snap.set_ne hDl];exact hsD) hD0 TT 0 (.bool false) rfl rfl rfl rfl rfl rfl rfl fun w=>?_
      rw [<-hne]
end Go.Sy
namespace Go.Sy
open Go.Proofs
def buildR (L:List GRec):GVal×Int :=
  if 4096<L.length\/nestedG L=false\/namedG L=false\/1099511627776<(L.head?.map GRec.en).getD 0 then (gval0,2)
  else if sane (buildG L).1≠0 then (gval0,2)
  else ((buildG L).1,0)
def soundG (L:List GRec):Bool:=decide ((buildR L).2=0)
theorem rep0 (σ:Snap):RepV σ gval0 (vCells gval0 none 0 none 0):=by
  simp only [RepV,gval0]
  exact ⟨none,0,[],none,0,[],rfl,SlAt.nil _ _ _ _,rfl,rfl,SlAt.nil _ _ _ _,rfl,by decide,by decide,by decide,by decide,fun k h=>(by cases h)⟩
set_option maxRecDepth 100000 in
set_option maxHeartbeats 2000000 in
theorem Build_c (σ:Snap) (L:List GRec) (hL:L.length<=mostLen) (hF:RecsFit L) (hbw:nestedG L=true->(buildG L).1.weight<=1000000) (ao:Option Addr) (cap:Nat) (H:SlAt σ ao L.length cap 11 (recRows L)) :
    PureS Tryz.prog 79 [.a (.v (.slice ao L.length cap))] σ (fun v σ'=>∃ r,v=(SV.tup [.agg r,.a (.v (.int .i64 (buildR L).2))]).den β0/\RepV σ' (buildR L).1 r):=by
  simp only [mostLen] at hL
  have bad:(4096<L.length\/nestedG L=false\/namedG L=false\/1099511627776<(L.head?.map GRec.en).getD 0)->buildR L=(gval0,2):=fun h=>by unfold buildR;rw [if_pos h]
  refine enter_s Tryz.func79 rfl rfl (by (repeat' (first | exact trivial | constructor))) fun w=>?_
  (repeat (first | refine cj_seq ?_ | refine cjr TT rfl ?_ | refine oj_then ?_))
  refine oj_split 9 rfl (fun h=>?_) (fun h=>?_)
  · rw [bad (.inl (by have:=of_decide_eq_true h;omega))]
    refine oj_run TT rfl ?_
    (repeat (first | refine cj_seq ?_ | refine cjr TT rfl ?_ | refine oj_then ?_ | refine cj_if_t rfl ?_ | refine cj_ret ?_ | refine nj_then_ret ?_))
    refine nj_ret TT rfl fun β w' _ _=>?_
    exact ⟨vCells gval0 none 0 none 0,rfl,rep0 σ⟩
  have h1:¬ 4096<L.length:=by have:=of_decide_eq_false h;omega
  refine oj_run TT rfl ?_
  refine oj_callP rfl rfl rfl rfl rfl Tryz.call151 (by (repeat' (first | exact trivial | constructor))) (nested_c σ L (by omega) ao cap H) fun v hv=>⟨.a (.b (nestedG L)),trivial,hv.symm,?_⟩
  refine oj_run TT rfl ?_
  refine oj_split 14 rfl (fun h=>?_) (fun h=>?_)
  · rw [bad (.inr (.inl (by simpa using h)))]
    refine oj_run TT rfl ?_
    (repeat (first | refine cj_seq ?_ | refine cjr TT rfl ?_ | refine oj_then ?_ | refine cj_if_t rfl ?_ | refine cj_ret ?_ | refine nj_then_ret ?_))
    refine nj_ret TT rfl fun β w' _ _=>?_
    exact ⟨vCells gval0 none 0 none 0,rfl,rep0 σ⟩
  have h2:nestedG L=true:=by simpa using h
  have hpos:0<L.length:=by
    unfold nestedG at h2
    simp only [Bool.and_eq_true,decide_eq_true_eq] at h2
    omega
  have hlev:levelsOk 0 L:=by
    unfold nestedG at h2
    simp only [Bool.and_eq_true] at h2
    exact nest_levels L 0 [] (-1) h2.1
  refine oj_run TT rfl ?_
  refine oj_callP rfl rfl rfl rfl rfl Tryz.call152 (by (repeat' (first | exact trivial | constructor))) (named_c σ L (by omega) ao cap H hlev) fun v hv=>⟨.a (.b (namedG L)),trivial,hv.symm,?_⟩
  refine oj_run TT rfl ?_
  refine oj_split 19 rfl (fun h=>?_) (fun h=>?_)
  · rw [bad (.inr (.inr (.inl (by simpa using h))))]
    refine oj_run TT rfl ?_
    (repeat (first | refine cj_seq ?_ | refine cjr TT rfl ?_ | refine oj_then ?_ | refine cj_if_t rfl ?_ | refine cj_ret ?_ | refine nj_then_ret ?_))
    refine nj_ret TT rfl fun β w' _ _=>?_
    exact ⟨vCells gval0 none 0 none 0,rfl,rep0 σ⟩
  have h3:namedG L=true:=by simpa using h
  have hrow:(recRows L)[0]?=some (recCells L[0]):=recRows_get (List.getElem?_eq_getElem hpos)
  have hhead:(L.head?.map GRec.en).getD 0=L[0].en:=by rw [List.head?_eq_getElem?,List.getElem?_eq_getElem hpos];rfl
  refine oj_run TT rfl ?_
  refine oj_idx TT rfl rfl rfl rfl rfl rfl rfl rfl rfl H (by omega) hrow (oj_run TT rfl ?_)
  (repeat refine oj_then ?_)
  refine cj_if rfl (fun h=>?_) (fun h=>?_)
  · rw [bad (.inr (.inr (.inr (by rw [hhead];exact of_decide_eq_true h))))]
    (repeat (first | refine cj_seq ?_ | refine cjr TT rfl ?_ | refine oj_then ?_ | refine cj_ret ?_ | refine nj_then_ret ?_))
    refine nj_ret TT rfl fun β w' _ _=>?_
    exact ⟨vCells gval0 none 0 none 0,rfl,rep0 σ⟩
  have h4:¬ 1099511627776<L[0].en:=of_decide_eq_false h
  have hB:buildR L=if sane (buildG L).1≠0 then (gval0,2) else ((buildG L).1,0):=by
    unfold buildR
    rw [if_neg]
    rintro (hh | hh | hh | hh)
    · exact h1 hh
    · rw [h2] at hh;cases hh
    · rw [h3] at hh;cases hh
    · rw [hhead] at hh;exact h4 hh
  rw [hB]
  (repeat (first | refine cj_seq ?_ | refine cjr TT rfl ?_ | refine oj_then ?_ | refine cj_skip ?_ | refine nj_then ?_))
  refine oj_own 2 1 2 rfl (by (repeat' (first | exact trivial | refine AllLt.of ?_ | constructor))) rfl (by decide) fun gb=>?_
  refine oj_callF [0] (A0:=[bE gb ao L.length cap (0:Nat)]) (Ar:=[]) rfl rfl rfl rfl rfl rfl rfl Tryz.call153 (by (repeat' (first | exact trivial | constructor))) (builder_c L hF (by omega) ao cap (enough L) σ 0 gb H hpos (by unfold enough;rw [List.drop_zero];omega)) fun v σ1 A1 hle1 ⟨r,k',hv,hrep,_,_,_,hA⟩=>⟨.agg r,hrep.clo,hv.symm,?_⟩
  subst hA
  rw [List.drop_zero] at hrep
  have hrep:RepV σ1 (buildG L).1 r:=hrep
  have hbw:=hbw h2
  generalize (buildG L).1=gx at *
  obtain ⟨xla,xlc,xlrows,xma,xmc,xvrows,rfl,XV⟩:=hrep.open
  refine oj_run TT rfl ?_
  (repeat (first | refine cj_seq ?_ | refine cjr TT rfl ?_ | refine oj_then ?_))
  refine oj_callP rfl rfl rfl rfl rfl Tryz.call60 (by (repeat' (first | exact trivial | exact vCells_lt _ _ _ _ _ _ | constructor))) (Sane_c σ1 gx _ XV.rep hbw) fun v hv=>⟨.a (.v (.int .i64 (sane gx))),trivial,hv.symm,?_⟩
  refine oj_run TT rfl ?_
  (repeat refine oj_then ?_)
  refine cj_if rfl (fun h=>?_) (fun h=>?_)
  · have h5:sane gx≠0:=by simpa using h
    rw [if_pos h5]
    (repeat (first | refine cj_seq ?_ | refine cjr TT rfl ?_ | refine oj_then ?_ | refine cj_ret ?_ | refine nj_then_ret ?_))
    refine nj_ret TT rfl fun β w' _ _=>?_
    exact ⟨vCells gval0 none 0 none 0,rfl,rep0 σ1⟩
  · have h5:sane gx=0:=by simpa using h
    rw [if_neg (by simp [h5])]
    (repeat (first | refine cj_seq ?_ | refine cjr TT rfl ?_ | refine oj_then ?_ | refine cj_skip ?_ | refine cj_ret ?_ | refine nj_then ?_))
    refine nj_ret TT rfl fun β w' _ _=>?_
    exact ⟨vCells gx xla xlc xma xmc,rfl,hrep⟩
set_option maxRecDepth 100000 in
set_option maxHeartbeats 1000000 in
theorem Sound_c (σ:Snap) (L:List GRec) (hL:L.length<=mostLen) (hF:RecsFit L) (hbw:nestedG L=true->(buildG L).1.weight<=1000000) (ao:Option Addr) (cap:Nat) (H:SlAt σ ao L.length cap 11 (recRows L)) :
    PlainS Tryz.prog 105 [.a (.v (.slice ao L.length cap))] σ (fun v=>v=.bool (soundG L)):=by
  refine enter_p Tryz.func105 rfl rfl (by (repeat' (first | exact trivial | constructor))) fun w=>?_
  (repeat (first | refine cj_seq ?_ | refine cjr TT rfl ?_ | refine oj_then ?_))
  refine oj_callS rfl rfl rfl rfl rfl Tryz.call79 ⟨trivial,trivial⟩ (Build_c σ L hL hF hbw ao cap H) fun v σ1 hle ⟨r,hv,hrep⟩=>⟨.tup [.agg r,.a (.v (.int .i64 (buildR L).2))],SV.lt_tup ⟨hrep.clo,trivial,trivial⟩,hv.symm,?_⟩
  obtain ⟨xla,xlc,xlrows,xma,xmc,xvrows,rfl,XV⟩:=hrep.open
  refine oj_run TT rfl ?_
  (repeat (first | refine cj_seq ?_ | refine cjr TT rfl ?_ | refine oj_then ?_ | refine cj_ret ?_))
  refine nj_ret TT rfl fun β w' _ _=>?_
  rfl
end Go.Sy
namespace Go.Sy
open Go.Proofs
structure RecsOk (L:List GRec):Prop where
  len:L.length<=mostLen
  fit:RecsFit L
  bw:nestedG L=true->(buildG L).1.weight<=1000000
end Go.Sy
