/- Parts of the proof of CJoinsPairs: H3, H4, H7, F34, F49, Jf, H8, H9, XCl, XRow. No conditions. -/
import Derived.Test.YtadnijcgohflhaaGreatDoorM9
import Derived.Carry
import Derived.RowKit
import Derived.ChangeStays
import Derived.ChangeSame
import Derived.ReadAgain
import Derived.SizedLaws
import Derived.Deep.DeepHandedRow
import Derived.ProofKit
import Derived.OpenShut
import Derived.Lay
import Derived.SevenTiedAt
import Derived.Stop.Joined
namespace Go.Sy
open Go.Proofs
set_option maxRecDepth 100000 in
set_option maxHeartbeats 1000000 in
theorem Sweep1_c (σ:Snap) (g:Nat) (x:GItem) (z:OI) (h:ItAt σ g x):PlainS Tryz.prog 160 [.agg (opCells z),.a (.v (.pointer (some ⟨g,0,none⟩)))] σ (fun v=>v=.bool (overI z.1 x)):=by
  refine enter_p Tryz.func160 rfl rfl ⟨opCells_lt 0 z,trivial,trivial⟩ fun w=>?_
  (repeat (first | refine cj_seq ?_ | refine cjr TT rfl ?_ | refine oj_then ?_))
  refine oj_row 1 (itCells x) rfl (itCells_lt 0 x) h.row (oj_run TT rfl ?_)
  refine oj_callP rfl rfl rfl rfl rfl Tryz.call97 (by (repeat' (first | exact trivial | refine AllLt.of ?_ | constructor))) (over_c σ z.1 x) fun v hv=>⟨.a (.b (overI z.1 x)),trivial,hv.symm,?_⟩
  refine oj_run TT rfl ?_
  (repeat (first | refine oj_then ?_ | refine cj_ret ?_))
  refine nj_ret TT rfl fun β w' _ _=>?_
  rfl
set_option maxRecDepth 100000 in
set_option maxHeartbeats 1000000 in
theorem Sweep2_c (σ:Snap) (g:Nat) (x:GItem) (z:OI) (h:ItAt σ g x):PlainS Tryz.prog 162 [.agg (opCells z),.a (.v (.pointer (some ⟨g,0,none⟩)))] σ (fun v=>v=.bool (overI z.1 x)):=by
  refine enter_p Tryz.func162 rfl rfl ⟨opCells_lt 0 z,trivial,trivial⟩ fun w=>?_
  (repeat (first | refine cj_seq ?_ | refine cjr TT rfl ?_ | refine oj_then ?_))
  refine oj_row 1 (itCells x) rfl (itCells_lt 0 x) h.row (oj_run TT rfl ?_)
  refine oj_callP rfl rfl rfl rfl rfl Tryz.call97 (by (repeat' (first | exact trivial | refine AllLt.of ?_ | constructor))) (over_c σ z.1 x) fun v hv=>⟨.a (.b (overI z.1 x)),trivial,hv.symm,?_⟩
  refine oj_run TT rfl ?_
  (repeat (first | refine oj_then ?_ | refine cj_ret ?_))
  refine nj_ret TT rfl fun β w' _ _=>?_
  rfl
structure SwS (α:Type) where
  k:Nat
  i:Nat
  S:List OI
  oo:Option Addr
  oc:Nat
  st:α
theorem swept_le {a:List GItem} {i:Nat} {y:Option GItem} {S:List OI} (h:Swept a i y S):S.length<=i:=by
  cases y with
  | none =>
    obtain ⟨rfl,rfl⟩:=h.none_ rfl
    exact Nat.le_refl _
  | some y =>
    obtain ⟨rfl,-⟩:=h.some_ y rfl
    refine Nat.le_trans (List.length_filter_le _ _) ?_
    rw [List.length_take]
    omega
theorem fnLt1 (f:FuncId) (g:Nat):(SV.a (.fn (.func f) [.val (.pointer (some ⟨g,0,none⟩))])).lt 0:=by
  intro p hp
  rw [List.mem_singleton] at hp
  subst hp
  trivial
theorem conc_caps {f:FuncId} {caps:List PT} (hlt:(SV.a (.fn (.func f) caps)).lt 0) (h g:Nat):caps.map (concP h g)=caps:=by
  conv=>rhs;rw [<-List.map_id caps]
  refine List.map_congr_left fun p hp=>?_
  cases p with
  | val x=>rfl
  | loc i o=>exact absurd (hlt _ hp) (Nat.not_lt_zero _)
set_option maxRecDepth 100000 in
set_option maxHeartbeats 4000000 in
theorem sweep_c {α:Type} (σ:Snap) (a d:List GItem) (ha:a.length<=100000) (hd:d.length<=100000) (ao:Option Addr) (ac:Nat) (HA:SlAt σ ao a.length ac 5 (itRows a)) (bo:Option Addr) (bc:Nat) (HD:SlAt σ bo d.length bc 5 (itRows d))
    (hLa:Lam a) (hLd:Lam d) (f:FuncId) (caps:List PT) (hcap:LtAll (caps.map ptSV)) (hcall:∀ args w,(callFunc f args).run Tryz.prog w=.ok (.enter f args) w) (hlt:(SV.a (.fn (.func f) caps)).lt 0)
    (X Y:α->AE) (R:Nat->α->Prop) (st0:α) (h0:R 0 st0)
    (hf:∀ (σ':Snap) (k i:Nat) (x:GItem) (st:α) (so:Option Addr) (sc:Nat),σ.le σ'->d[k]?=some x->R k st->(∀ z,a[i]?=some z->aheadI z x=false)->(openAt a i x).length<=a.length->(openAt a i x).length<=sc ->
      FnS Tryz.prog f (.a (.v (.int .i64 k))::.a (.v (.slice so (openAt a i x).length sc))::caps.map ptSV) σ' [opE so sc (openAt a i x),X st,Y st] (fun v _ A'=>v=.tuple #[]/\∃ st',R (k+1) st'/\A'=[opE so sc (openAt a i x),X st',Y st'])) :
    FnS Tryz.prog 85 [.a (.v (.slice ao a.length ac)),.a (.v (.slice bo d.length bc)),.a (.fn (.func f) caps)] σ [X st0,Y st0] (fun v _ A'=>∃ n:Nat,v=.int .i64 n/\n<=a.length/\∃ st',R d.length st'/\A'=[X st',Y st']):=by
  refine enter_f Tryz.func85 rfl rfl ⟨trivial,trivial,hlt,trivial⟩ fun w=>?_
  (repeat (first | refine cj_seq ?_ | refine cjr TT rfl ?_ | refine oj_then ?_ | refine cj_block ?_))
  have hlt2:=SV.lt_mono (Nat.zero_le 2) hlt
  have h12:1<2:=by decide
  refine cj_own 0 1 2 rfl (by (repeat' (first | exact trivial | refine AllLt.of ?_ | constructor))) rfl (by decide) fun gs=>?_
  refine cj_set 2 (.a (.fn (.func f) caps)) rfl (SV.lt_mono (Nat.zero_le _) hlt) (fun β=>by show SV.den β (.a (.fn (.func f) (caps.map (concP 0 gs))))=_;rw [conc_caps hlt]) ?_
  refine cj_nilarr 169 6 ?_
  refine cj_re [2,3,0,1] (A':=[opK gs none 0 0 0,opE none 0 [],X st0,Y st0]) rfl rfl ?_
  skip
  refine cj_loop2 (fun (s:Snap) (_:SwS α)=>s) (fun _ t=>[(0,.a (.v (.slice ao a.length ac))),(1,.a (.v (.slice bo d.length bc))),(2,.a (.fn (.func f) caps)),(7,.a (.v (.pointer (some ⟨gs,0,none⟩)))),(8,.a (.v (.int .i64 (t.i:Nat)))),(14,.a (.v (.slice bo d.length bc))),(15,.a (.v (.int .i64 d.length))),(16,.a (.v (.int .i64 (t.k:Nat))))])
    (fun _ _=>[]) (fun _ t=>[opK gs t.oo t.S.length t.oc t.i,opE t.oo t.oc t.S,X t.st,Y t.st]) 0
    (fun s t=>σ.le s/\t.k<=d.length/\t.i<=a.length/\Swept a t.i (prevI d t.k) t.S/\(∀ y z,prevI d t.k=some y->a[t.i]?=some z->aheadI z y=false)/\t.S.length<=t.oc/\R t.k t.st) (fun _ t=>d.length - t.k) σ ⟨0,0,[],none,0,st0⟩
    ⟨Snap.le_refl _,Nat.zero_le _,Nat.zero_le _,Swept.start a,fun y z h=>(by cases h),Nat.le_refl _,h0⟩ rfl (by (repeat first | exact trivial | refine ⟨rfl,?_⟩)) (by (repeat first | exact trivial | refine ⟨rfl,?_⟩)) rfl ⟨trivial,trivial,hlt,trivial,trivial,trivial,trivial,trivial,trivial⟩ trivial fun s ⟨k,i,S,oo,oc,st⟩ ⟨hle,hk,hi,hsw,hai,hSc,hR⟩=>?_
  dsimp only at hk hi hsw hai hSc hR ⊢
  have HA:=HA.mono hle
  have HD:=HD.mono hle
  have hSi:=swept_le hsw
  (repeat (first | refine cj_seq ?_ | refine cjr TT rfl ?_ | refine oj_then ?_))
  refine cj_if rfl (fun h=>?_) (fun h=>?_)
  rotate_left
  · have hk0:k=d.length:=by have:=of_decide_eq_false h;omega
    subst hk0
    (repeat (first | refine cj_seq ?_ | refine cjr TT rfl ?_ | refine cj_exit ?_ | refine nj_then ?_ | refine nj_then_exit ?_ | refine nj_block_out ?_))
    refine oj_ldA 0 (c:=.v (.int .i64 i)) TT rfl rfl rfl rfl rfl rfl rfl rfl rfl rfl rfl trivial (oj_run TT rfl ?_)
    (repeat (first | refine oj_then ?_ | refine cj_ret ?_))
    refine nj_re [2,3] (A':=[X st,Y st]) rfl rfl ?_
    refine nj_fret TT rfl fun β w' _ _=>?_
    exact ⟨i,rfl,hi,st,hR,rfl⟩
  have hkl:k<d.length:=by have:=of_decide_eq_true h;omega
  have hxk:d[k]?=some d[k]:=List.getElem?_eq_getElem hkl
  have hrow:=itRows_get hxk
  have hnext:=prevI_succ hxk
  have hyx:∀ y,prevI d k=some y->aheadI y d[k]=true:=by
    intro y hy
    by_cases hk0:k=0
    · rw [hk0] at hy;cases hy
    · rw [prevI_pos hkl (by omega)] at hy
      exact (hLd.get (by omega) hy hxk).1
  have hxse:=hLd.se d[k] (List.getElem_mem hkl)
  generalize d[k]=x at *
  (repeat (first | refine cj_seq ?_ | refine cjr TT rfl ?_ | refine cj_skip ?_ | refine cj_block ?_ | refine nj_then ?_))
  refine oj_idx TT rfl rfl rfl rfl rfl rfl rfl rfl rfl HD (by omega) hrow (oj_run TT rfl ?_)
  (repeat (first | refine cj_seq ?_ | refine oj_then ?_ | refine cj_block ?_))
  refine cj_cutB (fun (t:Snap×SwS α)=>t.1) (fun t=>[(0,.a (.v (.slice ao a.length ac))),(1,.a (.v (.slice bo d.length bc))),(2,.a (.fn (.func f) caps)),(7,.a (.v (.pointer (some ⟨gs,0,none⟩)))),(8,.a (.v (.int .i64 (t.2.i:Nat)))),(9,.a (.v (.int .i64 k))),(10,.a (.p 1 0)),(14,.a (.v (.slice bo d.length bc))),(15,.a (.v (.int .i64 d.length))),(16,.a (.v (.int .i64 k)))])
    (fun _=>[(1,.loc 71,itCells x)]) (fun t=>[opK gs t.2.oo t.2.S.length t.2.oc t.2.i,opE t.2.oo t.2.oc t.2.S,X st,Y st]) 2
    (fun t=>s.le t.1/\t.2.i<=a.length/\(∃ y,Swept a t.2.i y t.2.S/\∀ y',y=some y'->aheadI y' x=true)/\(∀ z,a[t.2.i]?=some z->aheadI z x=false)/\t.2.S.length<=t.2.oc) ?_ (fun t ht=>?_)
  · refine cj_loop2 (fun (s':Snap) (_:SwS α)=>s') (fun _ t=>[(0,.a (.v (.slice ao a.length ac))),(1,.a (.v (.slice bo d.length bc))),(2,.a (.fn (.func f) caps)),(7,.a (.v (.pointer (some ⟨gs,0,none⟩)))),(8,.a (.v (.int .i64 (t.i:Nat)))),(9,.a (.v (.int .i64 k))),(10,.a (.p 1 0)),(14,.a (.v (.slice bo d.length bc))),(15,.a (.v (.int .i64 d.length))),(16,.a (.v (.int .i64 k)))])
      (fun _ _=>[(1,.loc 71,itCells x)]) (fun _ t=>[opK gs t.oo t.S.length t.oc t.i,opE t.oo t.oc t.S,X st,Y st]) 2
      (fun s' t=>s.le s'/\t.i<=a.length/\(∃ y,Swept a t.i y t.S/\(∀ y',y=some y'->aheadI y' x=true)/\∀ y' z,y=some y'->a[t.i]?=some z->aheadI z y'=false)/\t.S.length<=t.oc) (fun _ t=>a.length - t.i) s ⟨k,i,S,oo,oc,st⟩
      ⟨Snap.le_refl _,hi,⟨_,hsw,hyx,hai⟩,hSc⟩ rfl (by (repeat first | exact trivial | refine ⟨rfl,?_⟩)) (by (repeat first | exact trivial | refine ⟨rfl,?_⟩)) rfl ⟨trivial,trivial,hlt2,trivial,trivial,trivial,h12,trivial,trivial,trivial,trivial⟩ (by (repeat' (first | exact trivial | exact Nat.le_of_ble_eq_true rfl | refine AllLt.of ?_ | constructor))) fun s' ⟨_,i,S,oo,oc,_⟩ ⟨hle',hi,⟨y,hsw,hyx,hyz⟩,hSc⟩=>?_
    dsimp only at hi hsw hyz hSc ⊢
    have HA:=HA.mono hle'
    have hSi:=swept_le hsw
    (repeat refine cj_seq ?_)
    refine cj_cutN (fun (_:Unit)=>s') (fun _=>[(0,.a (.v (.slice ao a.length ac))),(1,.a (.v (.slice bo d.length bc))),(2,.a (.fn (.func f) caps)),(7,.a (.v (.pointer (some ⟨gs,0,none⟩)))),(8,.a (.v (.int .i64 (i:Nat)))),(9,.a (.v (.int .i64 k))),(10,.a (.p 1 0)),(14,.a (.v (.slice bo d.length bc))),(15,.a (.v (.int .i64 d.length))),(16,.a (.v (.int .i64 k))),(32,.a (.b (match a[i]? with | some z=>aheadI z x | none=>false)))])
      (fun _=>[(1,.loc 71,itCells x)]) (fun _=>[opK gs oo S.length oc i,opE oo oc S,X st,Y st]) 2 (fun _=>True) ?_ (fun _ _=>?_)
    · refine cj_draw [(0,.pure),(1,.pure),(2,.pure),(3,.pure),(4,.pure),(5,.pure),(6,.pure),(7,.pure),(8,.quiet),(9,.quiet),(10,.keep),(11,.pure)] mixed (by kernel_rfl) (oj_run TT rfl ?_)
      refine oj_split 25 rfl (fun h=>?_) (fun h=>?_)
      · have h:decide ((i:Int)<a.length)=true:=h
        have hil:i<a.length:=by have:=of_decide_eq_true h;omega
        have hrow:=itRows_get (List.getElem?_eq_getElem hil)
        rw [List.getElem?_eq_getElem hil]
        generalize a[i]=z at *
        refine oj_run TT rfl ?_
        refine oj_idx TT rfl rfl rfl rfl rfl rfl rfl rfl rfl HA (by omega) hrow (oj_run TT rfl ?_)
        refine oj_callP rfl rfl rfl rfl rfl Tryz.call94 (by (repeat' (first | exact trivial | refine AllLt.of ?_ | constructor))) (ahead_c s' z x) fun v hv=>⟨.a (.b (aheadI z x)),trivial,hv.symm,?_⟩
        refine oj_run TT rfl ?_
        (repeat refine oj_nil ?_)
        refine nj_again () trivial Nat.zero_lt_one rfl (by (repeat first | exact trivial | refine ⟨rfl,?_⟩)) (by (repeat first | exact trivial | refine ⟨rfl,?_⟩)) rfl ⟨trivial,trivial,hlt2,trivial,trivial,trivial,h12,trivial,trivial,trivial,trivial,trivial⟩ (by (repeat' (first | exact trivial | exact Nat.le_of_ble_eq_true rfl | refine AllLt.of ?_ | constructor)))
      · have h:decide ((i:Int)<a.length)=false:=h
        have hil:a.length<=i:=by have:=of_decide_eq_false h;omega
        rw [List.getElem?_eq_none hil]
        refine oj_run TT rfl ?_
        (repeat refine oj_nil ?_)
        refine nj_set 32 (.a (.b false)) rfl trivial (fun β=>rfl) ?_
        refine nj_again () trivial Nat.zero_lt_one rfl (by (repeat first | exact trivial | refine ⟨rfl,?_⟩)) (by (repeat first | exact trivial | refine ⟨rfl,?_⟩)) rfl ⟨trivial,trivial,hlt2,trivial,trivial,trivial,h12,trivial,trivial,trivial,trivial,trivial⟩ (by (repeat' (first | exact trivial | exact Nat.le_of_ble_eq_true rfl | refine AllLt.of ?_ | constructor)))
    skip
    refine cj_if rfl (fun h=>?_) (fun h=>?_)
    rotate_left
    · have h:(match a[i]? with | some z=>aheadI z x | none=>false)=false:=h
      (repeat (first | refine cj_exit ?_ | refine nj_then_exit ?_ | refine nj_block_out ?_))
      refine nj_again (s',(⟨k,i,S,oo,oc,st⟩:SwS α)) ⟨hle',hi,⟨y,hsw,hyx⟩,fun z hz=>by rw [hz] at h;exact h,hSc⟩ Nat.zero_lt_one rfl (by (repeat first | exact trivial | refine ⟨rfl,?_⟩)) (by (repeat first | exact trivial | refine ⟨rfl,?_⟩)) rfl ⟨trivial,trivial,hlt2,trivial,trivial,trivial,h12,trivial,trivial,trivial,trivial⟩ (by (repeat' (first | exact trivial | exact Nat.le_of_ble_eq_true rfl | refine AllLt.of ?_ | constructor)))
    have h:(match a[i]? with | some z=>aheadI z x | none=>false)=true:=h
    have hil:i<a.length:=by
      rcases Nat.lt_or_ge i a.length with h1 | h1
      · exact h1
      · rw [List.getElem?_eq_none h1] at h;cases h
    have hzi:a[i]?=some a[i]:=List.getElem?_eq_getElem hil
    have hrow:=itRows_get hzi
    have hlast:∀ z',a[i+1]?=some z'->aheadI z' a[i]=false:=by
      intro z' hz'
      have:=(hLa.get (Nat.lt_succ_self i) hzi hz').1
      rw [aheadI_iff] at this
      rw [aheadI_not]
      omega
    rw [hzi] at h
    generalize a[i]=z at *
    have h:aheadI z x=true:=h
    have hpop:=hsw.pop hLa z (fun y' hy'=>hyz y' z hy' hzi)
    have hpush:=hpop.push hLa hzi
    (repeat (first | refine cj_seq ?_ | refine cjr TT rfl ?_ | refine cj_skip ?_ | refine cj_block ?_ | refine nj_then ?_))
    refine oj_idx TT rfl rfl rfl rfl rfl rfl rfl rfl rfl HA (by omega) hrow (oj_run TT rfl ?_)
    refine oj_then ?_
    refine cj_own 3 1 5 rfl (itCells_lt 0 z) rfl (by decide) fun g=>?_
    refine cj_set 2 (.a (.fn (.func f) caps)) rfl (SV.lt_mono (Nat.zero_le _) hlt) (fun β=>by show SV.den β (.a (.fn (.func f) (caps.map (concP 3 g))))=_;rw [conc_caps hlt]) ?_
    refine cj_seal 4 rfl rfl fun s1 hle1 hS1=>?_
    have hz:=itAt_of hS1
    (repeat (first | refine cj_seq ?_ | refine cjr TT rfl ?_))
    refine oj_callF [0,1,2,3] (A0:=[opK gs oo S.length oc i,opE oo oc S]) (Ar:=[X st,Y st]) rfl rfl rfl rfl rfl rfl rfl Tryz.call159 ⟨trivial,fnLt1 160 g,trivial⟩ (opPop_c s1 gs oo oc i S (by omega) hSc 160 [.val (.pointer (some ⟨g,0,none⟩))] ⟨trivial,trivial⟩ Tryz.call160 (fun y=>overI y.1 z) (fun y _=>Sweep1_c s1 g z y hz) (fnLt1 160 g)) fun v s2 A2 hle2 ⟨hv,hA⟩=>⟨.tup [],(by (repeat' (first | exact trivial | refine SV.lt_tup ?_))),hv.symm,?_⟩
    subst hA
    have hz:=hz.mono hle2
    have hP:=(popI_sub (fun y:OI=>overI y.1 z) S).length_le
    generalize popI (fun y:OI=>overI y.1 z) S=P at *
    refine oj_run TT rfl ?_
    (repeat (first | refine cjr TT rfl ?_ | refine oj_then ?_))
    refine oj_ldSs TT (itCells z) rfl rfl rfl rfl rfl rfl rfl rfl rfl hz.ld (itCells_lt 0 z) (oj_run TT rfl ?_)
    refine oj_set 45 (.agg (opCells (z,i))) rfl (opCells_lt _ _) (fun _=>rfl) ?_
    refine oj_callF [0,1,2,3] (A0:=[opK gs oo P.length oc i,opE oo oc P]) (Ar:=[X st,Y st]) rfl rfl rfl rfl rfl rfl rfl Tryz.call161 ⟨trivial,opCells_lt 0 (z,i),trivial⟩ (opPush_c s2 gs oo oc i P (z,i) (by omega) (by omega) (by omega)) fun v s3 A3 hle3 ⟨hv,oo',oc',hoc',hA⟩=>⟨.tup [],(by (repeat' (first | exact trivial | refine SV.lt_tup ?_))),hv.symm,?_⟩
    subst hA
    refine oj_run TT rfl ?_
    (repeat (first | refine cjr TT rfl ?_ | refine oj_nil ?_ | refine nj_then ?_ | refine nj_block ?_ | (refine oj_add rfl rfl rfl rfl rfl rfl (by omega) ?_;refine oj_run TT rfl ?_)))
    have hlen:(P++[(z,i)]).length=P.length+1:=by simp
    refine nj_again (s3,(⟨k,i+1,P++[(z,i)],oo',oc',st⟩:SwS α)) ⟨Snap.le_trans hle' (Snap.le_trans hle1 (Snap.le_trans hle2 hle3)),by dsimp only;omega,⟨_,hpush,fun y' hy'=>by injection hy' with hy';subst hy';exact h,fun y' z' hy' hz'=>by injection hy' with hy';subst hy';exact hlast z' hz'⟩,by dsimp only;omega⟩ (by dsimp only;omega) rfl (by (repeat first | exact trivial | refine ⟨rfl,?_⟩)) (by (repeat first | exact trivial | refine ⟨rfl,?_⟩)) ?_ ⟨trivial,trivial,hlt2,trivial,trivial,trivial,h12,trivial,trivial,trivial,trivial⟩ (by (repeat' (first | exact trivial | exact Nat.le_of_ble_eq_true rfl | refine AllLt.of ?_ | constructor)))
    show [_,_,_,_]=[_,_,_,_]
    dsimp only
    rw [hlen]
    rfl
  obtain ⟨s',⟨_,i,S,oo,oc,_⟩⟩:=t
  obtain ⟨hle',hi,⟨y,hsw,hyx⟩,haz,hSc⟩:=ht
  dsimp only at hle' hi hsw haz hSc ⊢
  have hSi:=swept_le hsw
  have hpop:=hsw.pop hLa x (fun y' hy'=>leI.of (hyx y' hy'))
  refine cj_own 1 1 5 rfl (itCells_lt 0 x) rfl (by decide) fun g=>?_
  refine cj_set 2 (.a (.fn (.func f) caps)) rfl (SV.lt_mono (Nat.zero_le _) hlt) (fun β=>by show SV.den β (.a (.fn (.func f) (caps.map (concP 1 g))))=_;rw [conc_caps hlt]) ?_
  refine cj_seal 4 rfl rfl fun s1 hle1 hS1=>?_
  have hx:=itAt_of hS1
  (repeat (first | refine cj_seq ?_ | refine cjr TT rfl ?_))
  refine oj_callF [0,1,2,3] (A0:=[opK gs oo S.length oc i,opE oo oc S]) (Ar:=[X st,Y st]) rfl rfl rfl rfl rfl rfl rfl Tryz.call159 ⟨trivial,fnLt1 162 g,trivial⟩ (opPop_c s1 gs oo oc i S (by omega) hSc 162 [.val (.pointer (some ⟨g,0,none⟩))] ⟨trivial,trivial⟩ Tryz.call162 (fun y=>overI y.1 x) (fun y _=>Sweep2_c s1 g x y hx) (fnLt1 162 g)) fun v s2 A2 hle2 ⟨hv,hA⟩=>⟨.tup [],(by (repeat' (first | exact trivial | refine SV.lt_tup ?_))),hv.symm,?_⟩
  subst hA
  have hP:=(popI_sub (fun y:OI=>overI y.1 x) S).length_le
  have hPe:=(hpop.some_ x rfl).1
  have hsw2:=hpop
  rw [hPe] at hP hsw2 ⊢
  refine oj_run TT rfl ?_
  (repeat (first | refine cjr TT rfl ?_ | refine oj_then ?_))
  refine oj_ldA 0 (c:=.v (.slice oo (openAt a i x).length oc)) TT rfl rfl rfl rfl rfl rfl rfl rfl rfl rfl rfl trivial (oj_run TT rfl ?_)
  refine oj_callF [1,2,3,0] (A0:=[opE oo oc (openAt a i x),X st,Y st]) (Ar:=[opK gs oo (openAt a i x).length oc i]) (ys:=.a (.v (.int .i64 k))::.a (.v (.slice oo (openAt a i x).length oc))::caps.map ptSV) rfl rfl rfl rfl rfl rfl rfl hcall ⟨trivial,trivial,hcap⟩
    (hf s2 k i x st oo oc (Snap.le_trans hle (Snap.le_trans hle' (Snap.le_trans hle1 hle2))) hxk hR haz (by omega) (by omega)) fun v s3 A3 hle3 ⟨hv,st',hR',hA⟩=>⟨.tup [],(by (repeat' (first | exact trivial | refine SV.lt_tup ?_))),hv.symm,?_⟩
  subst hA
  refine oj_run TT rfl ?_
  (repeat (first | refine cjr TT rfl ?_ | refine oj_nil ?_ | refine nj_then ?_ | refine nj_block ?_ | (refine oj_add rfl rfl rfl rfl rfl rfl (by omega) ?_;refine oj_run TT rfl ?_)))
  refine nj_re [3,0,1,2] (A':=[opK gs oo (openAt a i x).length oc i,opE oo oc (openAt a i x),X st',Y st']) rfl rfl ?_
  refine nj_again (s3,(⟨k+1,i,openAt a i x,oo,oc,st'⟩:SwS α)) ⟨Snap.le_trans hle (Snap.le_trans hle' (Snap.le_trans hle1 (Snap.le_trans hle2 hle3))),by dsimp only;omega,hi,by dsimp only;rw [hnext];exact hsw2,fun y' z hy' hz=>by dsimp only at hy' hz;rw [hnext] at hy';injection hy' with hy';subst hy';exact haz z hz,by dsimp only;omega,hR'⟩ (by dsimp only;omega) rfl (by (repeat first | exact trivial | refine ⟨rfl,?_⟩)) (by (repeat first | exact trivial | refine ⟨rfl,?_⟩)) rfl ⟨trivial,trivial,hlt,trivial,trivial,trivial,trivial,trivial,trivial⟩ trivial
end Go.Sy
namespace Go.Sy
open Go.Proofs
abbrev Pr:=Nat×Nat
def prCells (p:Pr):List AT:=[.v (.int .i64 p.1),.v (.int .i64 p.2)]
theorem prCells_lt (n:Nat) (p:Pr):∀ c∈prCells p,c.lt n:=by simp [prCells,AT.lt]
def prRows (l:List Pr):List (List AT):=l.map prCells
theorem prRows_get {l:List Pr} {i:Nat} {x:Pr} (h:l[i]?=some x):(prRows l)[i]?=some (prCells x):=by unfold prRows;rw [List.getElem?_map,h];rfl
theorem prRows_all (a:List Pr):∀ r∈prRows a,r.length=2/\(∀ c∈r,c.lt 0)/\r.all AT.one=true:=by
  intro r hr
  obtain ⟨x,_,rfl⟩:=List.mem_map.1 hr
  exact ⟨rfl,prCells_lt 0 x,rfl⟩
def prXs (l:List Pr):List Value:=(prRows l).flatten.map AT.val
theorem prXs_push (L:List Pr) (x:Pr):prXs L++(prCells x).map AT.val=prXs (L++[x]):=by
  simp [prXs,prRows]
def prE (ao:Option Addr) (cap:Nat) (l:List Pr):AE:=⟨ao,l.length,cap,73,2,prXs l⟩
theorem pr_sealed {σ:Snap} {ao:Option Addr} {cap:Nat} {l:List Pr} (hS:ArrSealed σ (prE ao cap l)) (hc:l.length<=cap):SlAt σ ao l.length cap 2 (prRows l) :=
  hS.sl rfl (fun r hr=>⟨(prRows_all l r hr).1,(prRows_all l r hr).2.1⟩) (by simp [prRows]) rfl hc
def outE (go e:Nat) (ao:Option Addr) (n cap:Nat):AE:=⟨some ⟨go,0,none⟩,1,1,e,1,[.slice ao n cap]⟩
theorem cell1_of {σ:Snap} {g cap e:Nat} {v:Value} (hS:ArrSealed σ ⟨some ⟨g,0,none⟩,1,cap,e,1,[v]⟩):σ.cell ⟨g,0,none⟩=some v:=by
  rcases hS with ⟨h,_⟩ | ⟨g',h1,h2⟩
  · cases h
  · have h1:some (⟨g,0,none⟩:Addr)=some ⟨g',0,none⟩:=h1
    injection h1 with h1
    injection h1 with h1
    subst h1
    exact h2 0 v rfl
structure PrS where
  j:Nat
  o:List Pr
  po:Option Addr
  pc:Nat
def fitL (S:List OI) (x:GItem) (kid:Bool) (k:Nat):List Pr:=(S.filter fun z=>fitsI z.1 x kid).map fun z=>(z.2,k)
theorem fitL_cons (z:OI) (S:List OI) (x:GItem) (kid:Bool) (k:Nat):fitL (z::S) x kid k=if fitsI z.1 x kid then (z.2,k)::fitL S x kid k else fitL S x kid k:=by
  unfold fitL
  rw [List.filter_cons]
  split<;>rfl
theorem fitL_len (S:List OI) (x:GItem) (kid:Bool) (k:Nat):(fitL S x kid k).length<=S.length:=by
  unfold fitL
  rw [List.length_map]
  exact List.length_filter_le _ _
set_option maxRecDepth 100000 in
set_option maxHeartbeats 4000000 in
theorem Pairs1_c (σ:Snap) (gd gp go:Nat) (d:List GItem) (bo:Option Addr) (bc:Nat) (HD:SlAt σ bo d.length bc 5 (itRows d)) (kid:Bool) (hgd:σ.cell ⟨gd,0,none⟩=some (.slice bo d.length bc)) (hgp:σ.cell ⟨gp,0,none⟩=some (.bool kid))
    (k:Nat) (x:GItem) (hx:d[k]?=some x) (S:List OI) (hS:S.length<=100000) (hb:∀ z∈S,-1000000000000<=z.1.lv/\z.1.lv<=1000000000000) (so:Option Addr) (sc:Nat) (o:List Pr) (ho:o.length<=1000000000000) (po:Option Addr) (pc:Nat) (hpc:o.length<=pc) :
    FnS Tryz.prog 86 [.a (.v (.int .i64 k)),.a (.v (.slice so S.length sc)),.a (.v (.pointer (some ⟨gd,0,none⟩))),.a (.v (.pointer (some ⟨gp,0,none⟩))),.a (.v (.pointer (some ⟨go,0,none⟩)))] σ [opE so sc S,outE go 67 po o.length pc,prE po pc o]
      (fun v _ A'=>v=.tuple #[]/\∃ po' pc',(o++fitL S x kid k).length<=pc'/\A'=[opE so sc S,outE go 67 po' (o++fitL S x kid k).length pc',prE po' pc' (o++fitL S x kid k)]):=by
  refine enter_f Tryz.func86 rfl rfl (by (repeat' (first | exact trivial | constructor))) fun w=>?_
  (repeat (first | refine cj_seq ?_ | refine cjr TT rfl ?_ | refine oj_then ?_ | refine cj_block ?_))
  refine cj_loop (fun (_:PrS)=>σ) (fun t=>[(0,.a (.v (.int .i64 k))),(2,.a (.v (.pointer (some ⟨gd,0,none⟩)))),(3,.a (.v (.pointer (some ⟨gp,0,none⟩)))),(4,.a (.v (.pointer (some ⟨go,0,none⟩)))),(9,.a (.v (.slice so S.length sc))),(10,.a (.v (.int .i64 S.length))),(11,.a (.v (.int .i64 (t.j:Nat))))])
    (fun _=>[]) (fun t=>[opE so sc S,outE go 67 t.po t.o.length t.pc,prE t.po t.pc t.o]) 0
    (fun t=>t.j<=S.length/\t.o++fitL (S.drop t.j) x kid k=o++fitL S x kid k/\t.o.length<=t.pc/\t.o.length<=o.length+t.j) (fun t=>S.length - t.j) ⟨0,o,po,pc⟩ ⟨Nat.zero_le _,rfl,hpc,Nat.le_refl _⟩ rfl (by (repeat first | exact trivial | refine ⟨rfl,?_⟩)) (by (repeat first | exact trivial | refine ⟨rfl,?_⟩)) rfl (by (repeat' (first | exact trivial | constructor))) (by (repeat' exact trivial)) fun ⟨j,o1,po,pc⟩ ⟨hj,hp,hpc,hlen⟩=>?_
  dsimp only at hj hp hpc hlen ⊢
  (repeat (first | refine cj_seq ?_ | refine cjr TT rfl ?_ | refine oj_then ?_))
  refine cj_if rfl (fun h=>?_) (fun h=>?_)
  rotate_left
  · have hj0:j=S.length:=by have:=of_decide_eq_false h;omega
    rw [hj0,List.drop_length] at hp
    have hp:o1=o++fitL S x kid k:=by rw [<-hp];exact (List.append_nil _).symm
    (repeat (first | refine cj_exit ?_ | refine nj_then_exit ?_ | refine nj_block_out ?_))
    refine nj_fend TT rfl fun β w' _ _=>?_
    rw [<-hp]
    exact ⟨rfl,po,pc,hpc,rfl⟩
  have hjl:j<S.length:=by have:=of_decide_eq_true h;omega
  have hzj:S[j]?=some S[j]:=List.getElem?_eq_getElem hjl
  have hzb:=hb S[j] (List.getElem_mem hjl)
  have hrow:=itRows_get hx
  rw [List.drop_eq_getElem_cons hjl,fitL_cons] at hp
  generalize S[j]=z at *
  (repeat (first | refine cj_seq ?_ | refine cjr TT rfl ?_ | refine cj_skip ?_ | refine cj_block ?_ | refine nj_then ?_))
  refine oj_arrAt 0 (E:=opE so sc S) rfl (by show 0<S.length;omega) fun g1 hg1=>?_
  have hg1:so=some ⟨g1,0,none⟩:=hg1
  subst hg1
  refine oj_indexAddr TT rfl rfl rfl rfl rfl rfl rfl rfl rfl ⟨by omega,by omega⟩ (oj_run TT rfl ?_)
  refine oj_ldAs 0 (off:=j*6) TT (opCells z) rfl rfl rfl rfl rfl ?_ rfl rfl rfl rfl rfl ?_ (opCells_lt _ _) (oj_run TT rfl ?_)
  · show some (SV.a (AT.v (.pointer (some (Addr.add ⟨g1,0,none⟩ (((j:Nat):Int).toNat*6))))))=_
    rw [add0,Int.toNat_natCast]
  · intro i c hi
    exact opXs_get hzj hi
  (repeat (first | refine cj_seq ?_ | refine oj_then ?_))
  refine cj_draw [(0,.pure),(1,.quiet),(2,.quiet),(3,.pure),(4,.pure),(5,.quiet),(6,.quiet),(7,.keep)] mixed (by kernel_rfl) (oj_run TT rfl ?_)
  refine oj_ldS (c:=.v (.slice bo d.length bc)) TT rfl rfl rfl rfl rfl rfl rfl rfl hgd trivial (oj_run TT rfl ?_)
  refine oj_idx TT rfl rfl rfl rfl rfl rfl rfl rfl rfl HD (by omega) hrow (oj_run TT rfl ?_)
  refine oj_ldS (c:=.b kid) TT rfl rfl rfl rfl rfl rfl rfl rfl hgp trivial (oj_run TT rfl ?_)
  refine oj_callP (ys:=[.agg (itCells z.1),.agg (itCells x),.a (.b kid)]) rfl rfl rfl rfl rfl Tryz.call87 ⟨itCells_lt 0 _,itCells_lt 0 _,trivial,trivial⟩ (fits_c σ z.1 x kid hzb) fun v hv=>⟨.a (.b (fitsI z.1 x kid)),trivial,hv.symm,?_⟩
  refine oj_run TT rfl ?_
  (repeat refine oj_then ?_)
  refine cj_if rfl (fun h=>?_) (fun h=>?_)
  · have h:fitsI z.1 x kid=true:=h
    rw [h,if_pos rfl] at hp
    (repeat refine cjr TT rfl ?_)
    refine oj_ldA 1 (c:=.v (.slice po o1.length pc)) TT rfl rfl rfl rfl rfl rfl rfl rfl rfl rfl rfl trivial (oj_run TT rfl ?_)
    refine oj_append_lit TT 2 rfl rfl rfl rfl rfl rfl rfl rfl rfl rfl rfl rfl rfl rfl rfl rfl rfl rfl (prCells_lt 0 (z.2,k)) rfl (by omega) (by show (o1.length+1)*16<=_;omega) fun po1 pc1 hpc1=>oj_run TT rfl ?_
    refine oj_stA 1 (A':=[opE (some ⟨g1,0,none⟩) sc S,outE go 67 po1 (o1.length+1) pc1,⟨po1,o1.length+1,pc1,73,2,prXs o1++(prCells (z.2,k)).map AT.val⟩]) TT rfl rfl rfl rfl rfl rfl rfl rfl rfl rfl (by show 0<1*1;omega) trivial rfl rfl (oj_run TT rfl ?_)
    rw [prXs_push]
    (repeat (first | refine cjr TT rfl ?_ | refine oj_nil ?_ | refine nj_then ?_ | refine nj_block ?_ | (refine oj_add rfl rfl rfl rfl rfl rfl (by omega) ?_;refine oj_run TT rfl ?_)))
    have hl1:(o1++[(z.2,k)]).length=o1.length+1:=by simp
    refine nj_again (⟨j+1,o1++[(z.2,k)],po1,pc1⟩:PrS) ⟨hjl,by dsimp only;rw [List.append_assoc];exact hp,by dsimp only;omega,by dsimp only;omega⟩ (by dsimp only;omega) rfl (by (repeat first | exact trivial | refine ⟨rfl,?_⟩)) (by (repeat first | exact trivial | refine ⟨rfl,?_⟩)) ?_ (by (repeat' (first | exact trivial | constructor))) (by (repeat' exact trivial))
    show [_,_,_]=[_,_,_]
    dsimp only
    unfold prE
    rw [hl1]
  · have h:fitsI z.1 x kid=false:=h
    rw [h,if_neg (by decide)] at hp
    (repeat (first | refine cjr TT rfl ?_ | refine oj_nil ?_ | refine cj_skip ?_ | refine nj_then ?_ | refine nj_block ?_ | (refine oj_add rfl rfl rfl rfl rfl rfl (by omega) ?_;refine oj_run TT rfl ?_)))
    refine nj_again (⟨j+1,o1,po,pc⟩:PrS) ⟨hjl,hp,hpc,by dsimp only;omega⟩ (by dsimp only;omega) rfl (by (repeat first | exact trivial | refine ⟨rfl,?_⟩)) (by (repeat first | exact trivial | refine ⟨rfl,?_⟩)) rfl (by (repeat' (first | exact trivial | constructor))) (by (repeat' exact trivial))
def pairsK (a d:List GItem) (kid:Bool) (k:Nat):List Pr:=(d.zipIdx.take k).flatMap fun x=>(a.zipIdx.filter fun z=>fitsI z.1 x.1 kid).map fun z=>(z.2,x.2)
theorem pairsK_all (a d:List GItem) (kid:Bool):pairsK a d kid d.length=pairsG a d kid:=by
  unfold pairsK pairsG
  rw [List.take_of_length_le (by rw [List.length_zipIdx];exact Nat.le_refl _)]
theorem pairsK_succ {a d:List GItem} {kid:Bool} {k:Nat} {x:GItem} (h:d[k]?=some x):pairsK a d kid (k+1)=pairsK a d kid k++fitL a.zipIdx x kid k:=by
  have hk:=(List.getElem?_eq_some_iff.1 h).1
  unfold pairsK
  rw [List.take_succ_eq_append_getElem (by rw [List.length_zipIdx];exact hk),List.flatMap_append]
  have h2:=zip_get h
  rw [List.getElem?_eq_getElem (by rw [List.length_zipIdx];exact hk)] at h2
  rw [Option.some.inj h2]
  simp [fitL]
theorem pairsK_len (a d:List GItem) (kid:Bool):∀ k:Nat,k<=d.length->(pairsK a d kid k).length<=k*a.length
  | 0,_=>by simp [pairsK]
  | k+1,h=>by
    have ih:=pairsK_len a d kid k (by omega)
    rw [pairsK_succ (List.getElem?_eq_getElem (show k<d.length by omega)),List.length_append]
    have:=fitL_len a.zipIdx (d[k]'(by omega)) kid k
    rw [List.length_zipIdx] at this
    rw [Nat.succ_mul]
    omega
structure PoS where
  o:List Pr
  po:Option Addr
  pc:Nat
set_option maxRecDepth 100000 in
set_option maxHeartbeats 4000000 in
theorem Pairs_c (σ:Snap) (a d:List GItem) (ha:a.length<=100000) (hd:d.length<=100000) (ao:Option Addr) (ac:Nat) (HA:SlAt σ ao a.length ac 5 (itRows a)) (bo:Option Addr) (bc:Nat) (HD:SlAt σ bo d.length bc 5 (itRows d))
    (hLa:Lam a) (hLd:Lam d) (hb:∀ z∈a,-1000000000000<=z.lv/\z.lv<=1000000000000) (kid:Bool) :
    PureS Tryz.prog 31 [.a (.v (.slice ao a.length ac)),.a (.v (.slice bo d.length bc)),.a (.b kid)] σ (fun v σ'=>∃ (po:Option Addr) (pc n:Nat),v=.tuple #[.slice po (pairsG a d kid).length pc,.int .i64 n]/\n<=a.length/\SlAt σ' po (pairsG a d kid).length pc 2 (prRows (pairsG a d kid))):=by
  refine enter_s Tryz.func31 rfl rfl (by (repeat' (first | exact trivial | constructor))) fun w=>?_
  (repeat (first | refine cj_seq ?_ | refine cjr TT rfl ?_ | refine oj_then ?_))
  refine oj_own 0 1 1 rfl (by (repeat' (first | exact trivial | refine AllLt.of ?_ | constructor))) rfl (by decide) fun gd=>?_
  refine oj_seal 0 rfl rfl rfl fun s1 hle1 hS1=>?_
  refine oj_own 1 1 1 rfl (by (repeat' (first | exact trivial | refine AllLt.of ?_ | constructor))) rfl (by decide) fun gp=>?_
  refine oj_seal 0 rfl rfl rfl fun s2 hle2 hS2=>?_
  have hgd:s2.cell ⟨gd,0,none⟩=some (.slice bo d.length bc):=hle2.cell (cell1_of hS1)
  have hgp:s2.cell ⟨gp,0,none⟩=some (.bool kid):=cell1_of hS2
  have HA:=HA.mono (Snap.le_trans hle1 hle2)
  have HD:=HD.mono (Snap.le_trans hle1 hle2)
  refine oj_callP rfl rfl rfl rfl rfl Tryz.call33 (by (repeat' (first | exact trivial | constructor))) (Sound20_c s2 a (by omega) ao ac HA) fun v hv=>⟨.a .tt,trivial,by rw [hv,lam_sound hLa];rfl,?_⟩
  refine oj_run TT rfl ?_
  refine oj_ldS (c:=.v (.slice bo d.length bc)) TT rfl rfl rfl rfl rfl rfl rfl rfl hgd trivial (oj_run TT rfl ?_)
  refine oj_callP rfl rfl rfl rfl rfl Tryz.call33 (by (repeat' (first | exact trivial | constructor))) (Sound20_c s2 d (by omega) bo bc HD) fun v hv=>⟨.a .tt,trivial,by rw [hv,lam_sound hLd];rfl,?_⟩
  refine oj_run TT rfl ?_
  (repeat (first | refine cj_seq ?_ | refine cjr TT rfl ?_ | refine oj_then ?_ | refine cj_if_f rfl ?_ | refine cj_skip ?_ | refine nj_then ?_))
  refine oj_ldS (c:=.v (.slice bo d.length bc)) TT rfl rfl rfl rfl rfl rfl rfl rfl hgd trivial (oj_run TT rfl ?_)
  refine oj_own 2 1 1 rfl (by (repeat' (first | exact trivial | refine AllLt.of ?_ | constructor))) rfl (by decide) fun go=>?_
  refine oj_nilarr 73 2 ?_
  have hfn:(SV.a (.fn (.func 86) [.val (.pointer (some ⟨gd,0,none⟩)),.val (.pointer (some ⟨gp,0,none⟩)),.val (.pointer (some ⟨go,0,none⟩))])).lt 0:=by
    intro p hp
    simp only [List.mem_cons,List.not_mem_nil,or_false] at hp
    rcases hp with rfl | rfl | rfl<;>trivial
  refine oj_callF [0,1] (A0:=[outE go 67 none 0 0,prE none 0 []]) (Ar:=[]) rfl rfl rfl rfl rfl rfl rfl Tryz.call85 ⟨trivial,trivial,hfn,trivial⟩
    (sweep_c s2 a d ha hd ao ac HA bo bc HD hLa hLd 86 [.val (.pointer (some ⟨gd,0,none⟩)),.val (.pointer (some ⟨gp,0,none⟩)),.val (.pointer (some ⟨go,0,none⟩))] ⟨trivial,trivial,trivial,trivial⟩ Tryz.call86 hfn
      (fun st:PoS=>outE go 67 st.po st.o.length st.pc) (fun st=>prE st.po st.pc st.o) (fun k st=>st.o=pairsK a d kid k/\st.o.length<=st.pc) ⟨[],none,0⟩ ⟨rfl,Nat.le_refl _⟩
      (fun σ' k i x st so sc hle hx ⟨hR1,hR2⟩ hn hoa hos=>by
        have hk:=(List.getElem?_eq_some_iff.1 hx).1
        have hlen:=pairsK_len a d kid k (by omega)
        have hm:k*a.length<=100000*100000:=Nat.mul_le_mul (by omega) ha
        have hof:=open_fits hn hLa (hLd.se x (List.mem_of_getElem? hx)) kid
        refine (Pairs1_c σ' gd gp go d bo bc (HD.mono hle) kid (hle.cell hgd) (hle.cell hgp) k x hx (openAt a i x) (by omega) (fun z hz=>?_) so sc st.o (by rw [hR1];omega) st.po st.pc hR2).mono fun v σ2 A2 _ ⟨hv,po',pc',hpc,hA⟩=>⟨hv,⟨st.o++fitL (openAt a i x) x kid k,po',pc'⟩,⟨?_,hpc⟩,hA⟩
        · obtain ⟨hz1,-⟩:=List.mem_filter.1 hz
          exact hb z.1 (List.mem_of_getElem? (mem_zip_take hz1).2)
        · show st.o++fitL (openAt a i x) x kid k=_
          rw [pairsK_succ hx,hR1]
          unfold fitL
          rw [hof]))
    fun v s3 A3 hle3 ⟨n,hv,hn,⟨o,po,pc⟩,⟨hR1,hR2⟩,hA⟩=>⟨.a (.v (.int .i64 n)),trivial,hv.symm,?_⟩
  subst hA
  dsimp only at hR1 hR2 ⊢
  rw [pairsK_all] at hR1
  subst hR1
  refine oj_run TT rfl ?_
  (repeat (first | refine cj_seq ?_ | refine cjr TT rfl ?_ | refine oj_then ?_))
  refine oj_ldA 0 (c:=.v (.slice po (pairsG a d kid).length pc)) TT rfl rfl rfl rfl rfl rfl rfl rfl rfl rfl rfl trivial (oj_run TT rfl ?_)
  (repeat (first | refine oj_then ?_ | refine cj_ret ?_))
  refine nj_seal 1 rfl rfl fun s4 hle4 hS4=>?_
  refine nj_ret TT rfl fun β w' _ _=>?_
  exact ⟨po,pc,n,rfl,hn,pr_sealed hS4 hR2⟩
end Go.Sy
namespace Go.Sy
open Go.Proofs
theorem allG_len_le0 (q:Nat->GLine->Bool):∀ (l:List GLine) (k:Nat),(allG q l k).length<=l.length
  | [],_=>Nat.le_refl _
  | x::l,k=>by
    have:=allG_len_le0 q l (k+1)
    unfold allG
    split
    · rw [List.length_cons,List.length_cons];omega
    · rw [List.length_cons];omega
set_option maxRecDepth 100000 in
set_option maxHeartbeats 1000000 in
theorem item_c (σ:Snap) (d:GDoc) (H:SlAt σ d.o d.L.length d.cap 11 (recRows d.L)) (i:Nat) (r:GRec) (hr:d.L[i]?=some r) :
    PlainS Tryz.prog 103 [.agg (doCells d),.a (.v (.int .i64 i))] σ (fun v=>v=(SV.agg (itCells (itemOf d.id r i))).den β0):=by
  have hrow:=recRows_get hr
  refine enter_p Tryz.func103 rfl rfl ⟨doCells_lt 0 d,trivial,trivial⟩ fun w=>?_
  (repeat (first | refine cj_seq ?_ | refine cjr TT rfl ?_ | refine oj_then ?_))
  refine oj_idx TT rfl rfl rfl rfl rfl rfl rfl rfl rfl H (by omega) hrow (oj_run TT rfl ?_)
  (repeat (first | refine cj_seq ?_ | refine cjr TT rfl ?_ | refine oj_then ?_ | refine cj_ret ?_))
  refine nj_ret TT rfl fun β w' _ _=>?_
  rfl
def onP (q:Int->Bool) (d:GDoc) (j:Nat):List GItem:=((((itemsD d.id d.L).zip d.ids).take j).filter fun x=>q x.2).map Prod.fst
theorem onP_all (q:Int->Bool) (d:GDoc) (h:d.ids.length=d.L.length):onP q d d.ids.length=onD q d:=by
  unfold onP onD
  rw [List.take_of_length_le (by rw [List.length_zip,itemsD_len];omega)]
theorem onP_succ {q:Int->Bool} {d:GDoc} {j:Nat} {k:Int} {r:GRec} (hk:d.ids[j]?=some k) (hr:d.L[j]?=some r):onP q d (j+1)=onP q d j++if q k then [itemOf d.id r j] else []:=by
  have h1:=itemsD_get (id:=d.id) hr
  have h2:((itemsD d.id d.L).zip d.ids)[j]?=some (itemOf d.id r j,k):=by
    rw [List.getElem?_zip_eq_some]
    exact ⟨h1,hk⟩
  obtain ⟨hj,he⟩:=List.getElem?_eq_some_iff.1 h2
  unfold onP
  rw [List.take_succ_eq_append_getElem hj,he,List.filter_append,List.map_append]
  congr 1
  rw [List.filter_cons]
  dsimp only
  split<;>rfl
theorem onP_len (q:Int->Bool) (d:GDoc) (j:Nat):(onP q d j).length<=j:=by
  unfold onP
  rw [List.length_map]
  refine Nat.le_trans (List.length_filter_le _ _) ?_
  rw [List.length_take]
  omega
theorem onG_succ {q:Int->Bool} {ds:List GDoc} {k:Nat} {d:GDoc} (h:ds[k]?=some d):onG q (ds.take (k+1))=onG q (ds.take k)++onD q d:=by
  obtain ⟨hk,he⟩:=List.getElem?_eq_some_iff.1 h
  unfold onG
  rw [List.take_succ_eq_append_getElem hk,he,List.flatMap_append]
  simp
structure OnS where
  k:Nat
  o:List GItem
  oo:Option Addr
  oc:Nat
set_option maxRecDepth 100000 in
set_option maxHeartbeats 4000000 in
theorem on_c (σ:Snap) (X:GIx) (IX:IxAt σ X) (hl:X.ds.length<=1000) (hd:∀ d∈X.ds,d.ids.length=d.L.length/\d.L.length<=100000) (f:FuncId) (caps:List PT) (hcap:LtAll (caps.map ptSV))
    (hcall:∀ args w,(callFunc f args).run Tryz.prog w=.ok (.enter f args) w) (hlt:(SV.a (.fn (.func f) caps)).lt 0) (q:Int->Bool) (hq:∀ k:Int,PlainS Tryz.prog f (.a (.v (.int .i64 k))::caps.map ptSV) σ (fun v=>v=.bool (q k))) :
    PureS Tryz.prog 83 [.agg (ixCells X),.a (.fn (.func f) caps)] σ (fun v σ'=>∃ oo oc,v=.slice oo (onG q X.ds).length oc/\SlAt σ' oo (onG q X.ds).length oc 5 (itRows (onG q X.ds))):=by
  have hlt1:=SV.lt_mono (Nat.zero_le 1) hlt
  have hlt3:=SV.lt_mono (Nat.zero_le 3) hlt
  refine enter_s Tryz.func83 rfl rfl ⟨ixCells_lt 0 X,hlt,trivial⟩ fun w=>?_
  (repeat (first | refine cj_seq ?_ | refine cjr TT rfl ?_ | refine oj_then ?_))
  refine oj_mm rfl rfl rfl rfl rfl rfl rfl (oj_run TT rfl ?_)
  refine oj_slice_to TT X.ds.length rfl rfl rfl rfl rfl rfl rfl rfl rfl (by show (if (X.ds.length:Int)<X.ds.length then _ else _)=_;split<;>rfl) IX.docs.ncap IX.docs.ncap (oj_run TT rfl ?_)
  refine oj_then ?_
  refine cj_nilarr 71 5 ?_
  (repeat refine cj_block ?_)
  refine cj_loop (fun (_:OnS)=>σ) (fun t=>[(1,.a (.fn (.func f) caps)),(2,.a (.p 0 0)),(5,.a (.v (.slice t.oo t.o.length t.oc))),(19,.a (.v (.slice X.o X.ds.length X.c))),(20,.a (.v (.int .i64 X.ds.length))),(21,.a (.v (.int .i64 (t.k:Nat))))])
    (fun _=>[(0,.loc 60,ixCells X)]) (fun t=>[itE t.oo t.oc t.o]) 1 (fun t=>t.k<=X.ds.length/\t.o=onG q (X.ds.take t.k)/\t.o.length<=t.oc/\t.o.length<=t.k*100000) (fun t=>X.ds.length - t.k) ⟨0,[],none,0⟩
    ⟨Nat.zero_le _,rfl,Nat.le_refl _,Nat.zero_le _⟩ rfl (by (repeat first | exact trivial | refine ⟨rfl,?_⟩)) (by (repeat first | exact trivial | refine ⟨rfl,?_⟩)) rfl ⟨hlt1,Nat.zero_lt_one,trivial,trivial,trivial,trivial,trivial⟩ (by exact ⟨⟨Nat.zero_lt_one,ixCells_lt 1 X⟩,trivial⟩) fun ⟨k,o,oo,oc⟩ ⟨hk,ho,hoc,hol⟩=>?_
  dsimp only at hk ho hoc hol ⊢
  (repeat (first | refine cj_seq ?_ | refine cjr TT rfl ?_ | refine oj_then ?_))
  refine cj_if rfl (fun h=>?_) (fun h=>?_)
  rotate_left
  · have hk0:k=X.ds.length:=by have:=of_decide_eq_false h;omega
    rw [hk0,List.take_length] at ho
    subst ho
    (repeat (first | refine cj_seq ?_ | refine cjr TT rfl ?_ | refine oj_then ?_ | refine cj_exit ?_ | refine cj_ret ?_ | refine nj_then ?_ | refine nj_then_exit ?_ | refine nj_block_out ?_))
    refine nj_seal 0 rfl rfl fun σ' hle' hS=>?_
    refine nj_ret TT rfl fun β w' _ _=>?_
    exact ⟨oo,oc,rfl,it_sealed hS hoc⟩
  have hkl:k<X.ds.length:=by have:=of_decide_eq_true h;omega
  have hdk:=List.getElem?_eq_getElem hkl
  have hrow:=doRows_get hdk
  have hrow2:=liRows_get hdk
  have hdm:=hd X.ds[k] (List.getElem_mem hkl)
  have hdd:=IX.doc X.ds[k] (List.getElem_mem hkl)
  have hnext:=onG_succ (q:=q) hdk
  rw [<-ho] at hnext
  generalize X.ds[k]=d at *
  obtain ⟨hdi,hdl⟩:=hdm
  (repeat (first | refine cj_seq ?_ | refine cjr TT rfl ?_ | refine cj_skip ?_ | refine cj_block ?_ | refine nj_then ?_))
  refine oj_idx TT rfl rfl rfl rfl rfl rfl rfl rfl rfl IX.docs (by omega) hrow (oj_run TT rfl ?_)
  (repeat (first | refine cj_seq ?_ | refine cjr TT rfl ?_ | refine oj_then ?_))
  refine oj_idx TT rfl rfl rfl rfl rfl rfl rfl rfl rfl IX.lines (by omega) hrow2 (oj_run TT rfl ?_)
  (repeat (first | refine oj_then ?_ | refine cj_block ?_))
  refine cj_loop (fun (_:OnS)=>σ) (fun t=>[(1,.a (.fn (.func f) caps)),(2,.a (.p 0 0)),(5,.a (.v (.slice t.oo t.o.length t.oc))),(7,.a (.p 2 0)),(19,.a (.v (.slice X.o X.ds.length X.c))),(20,.a (.v (.int .i64 X.ds.length))),(21,.a (.v (.int .i64 k))),(30,.a (.v (.slice d.lo d.ids.length d.lcap))),(31,.a (.v (.int .i64 d.ids.length))),(32,.a (.v (.int .i64 (t.k:Nat))))])
    (fun _=>[(0,.loc 60,ixCells X),(2,.loc 90,doCells d)]) (fun t=>[itE t.oo t.oc t.o]) 3 (fun t=>t.k<=d.ids.length/\t.o=o++onP q d t.k/\t.o.length<=t.oc) (fun t=>d.ids.length - t.k) ⟨0,o,oo,oc⟩
    ⟨Nat.zero_le _,(List.append_nil o).symm,hoc⟩ rfl (by (repeat first | exact trivial | refine ⟨rfl,?_⟩)) (by (repeat first | exact trivial | refine ⟨rfl,?_⟩)) rfl ⟨hlt3,by show 0<3;omega,trivial,by show 2<3;omega,trivial,trivial,trivial,trivial,trivial,trivial,trivial⟩ (by exact ⟨⟨by omega,ixCells_lt 3 X⟩,⟨by omega,doCells_lt 3 d⟩,trivial⟩) fun ⟨j,o1,oo,oc⟩ ⟨hj,ho1,hoc⟩=>?_
  dsimp only at hj ho1 hoc ⊢
  have hpl:=onP_len q d j
  have hlen1:o1.length=o.length+(onP q d j).length:=by rw [ho1,List.length_append]
  (repeat (first | refine cj_seq ?_ | refine cjr TT rfl ?_ | refine oj_then ?_))
  refine cj_if rfl (fun h=>?_) (fun h=>?_)
  rotate_left
  · have hj0:j=d.ids.length:=by have:=of_decide_eq_false h;omega
    subst hj0
    rw [onP_all q d hdi] at ho1
    (repeat (first | refine cjr TT rfl ?_ | refine oj_nil ?_ | refine cj_exit ?_ | refine nj_then ?_ | refine nj_then_exit ?_ | refine nj_block ?_ | refine nj_block_out ?_ | (refine oj_add rfl rfl rfl rfl rfl rfl (by omega) ?_;refine oj_run TT rfl ?_)))
    refine nj_again (⟨k+1,o1,oo,oc⟩:OnS) ⟨hkl,by dsimp only;rw [hnext,ho1],hoc,by dsimp only;rw [Nat.succ_mul];omega⟩ (by dsimp only;omega) rfl (by (repeat first | exact trivial | refine ⟨rfl,?_⟩)) (by (repeat first | exact trivial | refine ⟨rfl,?_⟩)) rfl ⟨hlt1,Nat.zero_lt_one,trivial,trivial,trivial,trivial,trivial⟩ (by exact ⟨⟨Nat.zero_lt_one,ixCells_lt 1 X⟩,trivial⟩)
  have hjl:j<d.ids.length:=by have:=of_decide_eq_true h;omega
  have hkj:=List.getElem?_eq_getElem hjl
  have hrj:d.L[j]?=some (d.L[j]'(by omega)):=List.getElem?_eq_getElem (by omega)
  have hrow3:=idRows_get hkj
  have hit:=item_c σ d hdd.1 j _ hrj
  have hsucc:=onP_succ (q:=q) hkj hrj
  generalize d.ids[j]=x at *
  generalize d.L[j]'(by omega)=r at *
  (repeat (first | refine cj_seq ?_ | refine cjr TT rfl ?_ | refine cj_skip ?_ | refine cj_block ?_ | refine nj_then ?_))
  refine oj_idx TT rfl rfl rfl rfl rfl rfl rfl rfl rfl hdd.2 (by omega) hrow3 (oj_run TT rfl ?_)
  (repeat (first | refine cj_seq ?_ | refine cjr TT rfl ?_ | refine oj_then ?_))
  refine oj_split 42 rfl (fun _=>?_) (fun h=>absurd (of_decide_eq_false (show decide ((j:Int)<d.L.length)=false from h)) (by omega))
  refine oj_run TT rfl ?_
  refine oj_callP (ys:=.a (.v (.int .i64 x))::caps.map ptSV) rfl rfl rfl rfl rfl hcall ⟨trivial,hcap⟩ (hq x) fun v hv=>⟨.a (.b (q x)),trivial,hv.symm,?_⟩
  refine oj_run TT rfl ?_
  (repeat refine oj_then ?_)
  refine cj_if rfl (fun h=>?_) (fun h=>?_)
  · have h:q x=true:=h
    rw [h,if_pos rfl] at hsucc
    (repeat refine cjr TT rfl ?_)
    refine oj_set 48 (.agg (doCells d)) rfl (doCells_lt _ _) (fun _=>rfl) ?_
    refine oj_callP (ys:=[.agg (doCells d),.a (.v (.int .i64 j))]) rfl rfl rfl rfl rfl Tryz.call103 ⟨doCells_lt 0 d,trivial,trivial⟩ hit fun v hv=>⟨.agg (itCells (itemOf d.id r j)),itCells_lt _ _,hv.symm,?_⟩
    refine oj_run TT rfl ?_
    refine oj_append_lit TT 0 rfl rfl rfl rfl rfl rfl rfl rfl rfl rfl rfl rfl rfl rfl rfl rfl rfl rfl (itCells_lt 0 _) rfl (by omega) (by show (o1.length+1)*40<=_;omega) fun oo' oc' hoc'=>oj_run TT rfl ?_
    (repeat (first | refine cjr TT rfl ?_ | refine oj_nil ?_ | refine nj_then ?_ | refine nj_block ?_ | (refine oj_add rfl rfl rfl rfl rfl rfl (by omega) ?_;refine oj_run TT rfl ?_)))
    have hl1:(o1++[itemOf d.id r j]).length=o1.length+1:=by simp
    refine nj_again (⟨j+1,o1++[itemOf d.id r j],oo',oc'⟩:OnS) ⟨hjl,by dsimp only;rw [hsucc,ho1,List.append_assoc],by dsimp only;omega⟩ (by dsimp only;omega) rfl ?_ (by (repeat first | exact trivial | refine ⟨rfl,?_⟩)) ?_ ⟨hlt3,by show 0<3;omega,trivial,by show 2<3;omega,trivial,trivial,trivial,trivial,trivial,trivial,trivial⟩ (by exact ⟨⟨by omega,ixCells_lt 3 X⟩,⟨by omega,doCells_lt 3 d⟩,trivial⟩)
    · dsimp only
      rw [hl1]
      (repeat first | exact trivial | refine ⟨rfl,?_⟩)
    · show [_]=[_]
      dsimp only
      unfold itE
      rw [hl1,<-itXs_push]
      rfl
  · have h:q x=false:=h
    rw [h,if_neg (by decide),List.append_nil] at hsucc
    (repeat (first | refine cjr TT rfl ?_ | refine oj_nil ?_ | refine cj_skip ?_ | refine nj_then ?_ | refine nj_block ?_ | (refine oj_add rfl rfl rfl rfl rfl rfl (by omega) ?_;refine oj_run TT rfl ?_)))
    refine nj_again (⟨j+1,o1,oo,oc⟩:OnS) ⟨hjl,by dsimp only;rw [hsucc];exact ho1,hoc⟩ (by dsimp only;omega) rfl (by (repeat first | exact trivial | refine ⟨rfl,?_⟩)) (by (repeat first | exact trivial | refine ⟨rfl,?_⟩)) rfl ⟨hlt3,by show 0<3;omega,trivial,by show 2<3;omega,trivial,trivial,trivial,trivial,trivial,trivial,trivial⟩ (by exact ⟨⟨by omega,ixCells_lt 3 X⟩,⟨by omega,doCells_lt 3 d⟩,trivial⟩)
theorem mix_val {κ:Type} [DecidableEq κ]:∀ (l:List (κ×Value)) (k:κ) (i j:Nat),(mix l k i).map (·.2)=(mix l k j).map (·.2)
  | [],_,_,_=>rfl
  | p::l,k,i,j=>by
    unfold mix
    split
    · rfl
    · exact mix_val l k _ _
theorem mlook_cons {κ:Type} [DecidableEq κ] (p:κ×Value) (l:List (κ×Value)) (k:κ):mlook (p::l) k=if p.1=k then some p.2 else mlook l k:=by
  have e:mix (p::l) k 0=if p.1=k then some (0,p.2) else mix l k 1:=rfl
  unfold mlook
  rw [e]
  split
  · rfl
  · exact mix_val l k 1 0
theorem mlook_mput {κ:Type} [DecidableEq κ] (k k':κ) (v:Value):∀ l:List (κ×Value),mlook (mput l k v) k'=if k=k' then some v else mlook l k'
  | []=>by
    unfold mput
    rw [mlook_cons]
  | p::l=>by
    unfold mput
    split
    · rename_i h
      rw [mlook_cons,mlook_cons]
      dsimp only
      split
      · rfl
      · rename_i h2
        rw [if_neg (by rw [h];exact h2)]
    · rename_i h
      rw [mlook_cons,mlook_cons,mlook_mput k k' v l]
      split
      · rename_i h2
        rw [if_neg (by intro e;exact h (by rw [h2,e]))]
      · rfl
def putIds (l:List Int):List (Int×Value):=l.foldl (fun m k=>mput m k (.bool true)) []
theorem putIds_snoc (l:List Int) (k:Int):putIds (l++[k])=mput (putIds l) k (.bool true):=by
  unfold putIds
  rw [List.foldl_append]
  rfl
theorem mlook_ids (k:Int) (l:List Int):mlook (putIds l) k=if k∈l then some (.bool true) else none:=by
  induction l using snocRec with
  | nil=>rfl
  | snoc l x ih =>
    rw [putIds_snoc,mlook_mput,ih]
    by_cases h:x=k
    · rw [if_pos h,if_pos (by simp [h])]
    · rw [if_neg h]
      by_cases h2:k∈l
      · rw [if_pos h2,if_pos (List.mem_append_left _ h2)]
      · rw [if_neg h2,if_neg (by simp [h2,eq_comm (a:=k),h])]
theorem und162:Tryz.prog.underlying 162=some (.map 3 4):=by kernel_rfl
set_option maxRecDepth 100000 in
set_option maxHeartbeats 1000000 in
theorem Match1_c (σ:Snap) (g b:Nat) (ids:List Int) (hg:σ.cell ⟨g,0,none⟩=some (.map (some b))) (hM:MapAt (Value.int .i64) σ b (putIds ids)) (k:Int) :
    PlainS Tryz.prog 84 [.a (.v (.int .i64 k)),.a (.v (.pointer (some ⟨g,0,none⟩)))] σ (fun v=>v=.bool (decide (k∈ids))):=by
  refine enter_p Tryz.func84 rfl rfl (by (repeat' (first | exact trivial | constructor))) fun w=>?_
  (repeat (first | refine cj_seq ?_ | refine cjr TT rfl ?_ | refine oj_then ?_))
  refine oj_ldS (c:=.v (.map (some b))) TT rfl rfl rfl rfl rfl rfl rfl rfl hg trivial (oj_run TT rfl ?_)
  refine oj_lookup (y:=.a (.b (decide (k∈ids)))) (kk:=k) (z:=.bool false) (int_key .i64 rfl) und162 und3 zero4 rfl rfl rfl rfl rfl rfl ⟨_,rfl,fun _=>rfl⟩ hM trivial ?_ (oj_run TT rfl ?_)
  · rw [mlook_ids]
    by_cases h:k∈ids
    · rw [if_pos h,decide_eq_true h]
      rfl
    · rw [if_neg h,decide_eq_false h]
      rfl
  (repeat (first | refine oj_then ?_ | refine cj_ret ?_))
  refine nj_ret TT rfl fun β w' _ _=>?_
  rfl
theorem IxAt.monoC {σ σ':Snap} {X:GIx} (h:IxAt σ X) (hle:σ.cle σ'):IxAt σ' X :=
  ⟨h.docs.monoC hle,h.lines.monoC hle,h.gl.monoC hle,fun x hx=>⟨(h.ok x hx).1,(h.ok x hx).2.monoC hle⟩,fun d hd=>⟨(h.doc d hd).1.monoC hle,(h.doc d hd).2.monoC hle⟩⟩
set_option maxRecDepth 100000 in
set_option maxHeartbeats 4000000 in
theorem IxMatch_c (σ:Snap) (X:GIx) (IX:IxAt σ X) (hl:X.ds.length<=1000) (hd:∀ d∈X.ds,d.ids.length=d.L.length/\d.L.length<=100000) (hxl:X.xs.length<=1000000)
    (ps:List GPat) (hpl:ps.length<=1000000) (po:Option Addr) (pc:Nat) (P:SlAt σ po ps.length pc 2 (ptRows ps)) :
    PureS Tryz.prog 30 [.agg (ixCells X),.a (.v (.slice po ps.length pc))] σ (fun v σ'=>∃ oo oc,v=.slice oo (onG (fun k=>decide (k∈matchIds X.xs ps)) X.ds).length oc/\SlAt σ' oo (onG (fun k=>decide (k∈matchIds X.xs ps)) X.ds).length oc 5 (itRows (onG (fun k=>decide (k∈matchIds X.xs ps)) X.ds))):=by
  refine enter_s Tryz.func30 rfl rfl ⟨ixCells_lt 0 X,trivial,trivial⟩ fun w=>?_
  (repeat (first | refine cj_seq ?_ | refine cjr TT rfl ?_ | refine oj_then ?_))
  refine oj_makeMap (Value.int .i64) rfl rfl rfl rfl rfl fun b σ1 hb hle hM=>oj_run TT rfl ?_
  (repeat (first | refine cj_seq ?_ | refine cjr TT rfl ?_ | refine oj_then ?_))
  refine oj_callS rfl rfl rfl rfl rfl Tryz.call82 (by (repeat' (first | exact trivial | refine AllLt.of ?_ | constructor))) (Match_c σ1 X.xs hxl X.go X.gc X.next (IX.gl.mono hle) (fun x hx=>(IX.ok x hx).mono hle) ps hpl po pc (P.mono hle)) fun v σ2 hle2 ⟨mo,mc,hv,HI⟩=>⟨.a (.v (.slice mo (matchIds X.xs ps).length mc)),trivial,hv.symm,?_⟩
  have hM:=MapAt.mono (Value.int .i64) hM hle2
  have IX:=IX.mono (Snap.le_trans hle hle2)
  have hml:(matchIds X.xs ps).length<=1000000:=Nat.le_trans (allG_len_le0 _ X.xs 0) hxl
  generalize matchIds X.xs ps=ids at *
  refine oj_run TT rfl ?_
  (repeat (first | refine oj_then ?_ | refine cj_block ?_))
  refine cj_cutB (fun (s:Snap)=>s) (fun _=>[(2,.a (.p 0 0)),(5,.a (.p 1 0))]) (fun _=>[(0,.loc 60,ixCells X),(1,.loc 162,[.v (.map (some b))])]) (fun _=>[]) 2 (fun s=>σ2.cle s/\MapAt (Value.int .i64) s b (putIds ids)) ?_ (fun s ⟨hs,hM⟩=>?_)
  · refine cj_loop2 (fun (s:Snap) (_:Nat)=>s) (fun _ (k:Nat)=>[(2,.a (.p 0 0)),(5,.a (.p 1 0)),(12,.a (.v (.slice mo ids.length mc))),(13,.a (.v (.int .i64 ids.length))),(14,.a (.v (.int .i64 k)))]) (fun _ _=>[(0,.loc 60,ixCells X),(1,.loc 162,[.v (.map (some b))])]) (fun _ _=>[]) 2
      (fun s k=>k<=ids.length/\σ2.cle s/\MapAt (Value.int .i64) s b (putIds (ids.take k))) (fun _ k=>ids.length - k) σ2 0 ⟨Nat.zero_le _,Snap.cle_refl _,hM⟩ rfl (by (repeat first | exact trivial | refine ⟨rfl,?_⟩)) (by (repeat first | exact trivial | refine ⟨rfl,?_⟩)) rfl ⟨by show 0<2;omega,by show 1<2;omega,trivial,trivial,trivial,trivial⟩ (by exact ⟨⟨by omega,ixCells_lt 2 X⟩,⟨by omega,fun c hc=>by rw [List.mem_singleton] at hc;subst hc;trivial⟩,trivial⟩) fun s k ⟨hk,hs,hM⟩=>?_
    (repeat (first | refine cj_seq ?_ | refine cjr TT rfl ?_ | refine oj_then ?_))
    refine cj_if rfl (fun h=>?_) (fun h=>?_)
    rotate_left
    · have hk0:k=ids.length:=by have:=of_decide_eq_false h;omega
      rw [hk0,List.take_length] at hM
      (repeat (first | refine cj_exit ?_ | refine nj_then_exit ?_ | refine nj_block_out ?_))
      refine nj_again s ⟨hs,hM⟩ Nat.zero_lt_one rfl (by (repeat first | exact trivial | refine ⟨rfl,?_⟩)) (by (repeat first | exact trivial | refine ⟨rfl,?_⟩)) rfl ⟨by show 0<2;omega,by show 1<2;omega,trivial⟩ (by exact ⟨⟨by omega,ixCells_lt 2 X⟩,⟨by omega,fun c hc=>by rw [List.mem_singleton] at hc;subst hc;trivial⟩,trivial⟩)
    have hkl:k<ids.length:=by have:=of_decide_eq_true h;omega
    have hrow:=idRows_get (List.getElem?_eq_getElem hkl)
    have htake:ids.take (k+1)=ids.take k++[ids[k]]:=List.take_succ_eq_append_getElem hkl
    generalize ids[k]=x at *
    (repeat (first | refine cj_seq ?_ | refine cjr TT rfl ?_ | refine cj_skip ?_ | refine cj_block ?_ | refine nj_then ?_))
    refine oj_idx TT rfl rfl rfl rfl rfl rfl rfl rfl rfl (HI.monoC hs) (by omega) hrow (oj_run TT rfl ?_)
    (repeat (first | refine cjr TT rfl ?_ | refine oj_then ?_))
    refine oj_mapUpdate (kk:=x) (vv:=.bool true) (int_key .i64 rfl) und162 und3 rfl rfl rfl rfl rfl ⟨_,rfl,fun _=>rfl⟩ ⟨_,rfl,fun _=>rfl⟩ hM (Snap.none_of_le (Snap.le_refl _) hb) fun s' hs' _ hM'=>oj_run TT rfl ?_
    (repeat (first | refine cjr TT rfl ?_ | refine oj_nil ?_ | refine nj_then ?_ | refine nj_block ?_ | (refine oj_add rfl rfl rfl rfl rfl rfl (by omega) ?_;refine oj_run TT rfl ?_)))
    rw [<-putIds_snoc,<-htake] at hM'
    refine nj_again (s',k+1) ⟨hkl,Snap.cle_trans hs hs',hM'⟩ (by dsimp only;omega) rfl (by (repeat first | exact trivial | refine ⟨rfl,?_⟩)) (by (repeat first | exact trivial | refine ⟨rfl,?_⟩)) rfl ⟨by show 0<2;omega,by show 1<2;omega,trivial,trivial,trivial,trivial⟩ (by exact ⟨⟨by omega,ixCells_lt 2 X⟩,⟨by omega,fun c hc=>by rw [List.mem_singleton] at hc;subst hc;trivial⟩,trivial⟩)
  have IX:=IX.monoC hs
  refine cj_own 1 1 1 rfl (by (repeat' (first | exact trivial | refine AllLt.of ?_ | constructor))) rfl (by decide) fun g=>?_
  refine cj_seal 0 rfl rfl fun s1 hle1 hS=>?_
  have hg:=cell1_of hS
  have hM:=MapAt.mono (Value.int .i64) hM hle1
  have IX:=IX.mono hle1
  (repeat (first | refine cj_seq ?_ | refine cjr TT rfl ?_))
  refine oj_set 21 (.agg (ixCells X)) rfl (ixCells_lt _ _) (fun _=>rfl) ?_
  refine oj_callS rfl rfl rfl rfl rfl Tryz.call83 ⟨ixCells_lt 0 X,fnLt1 84 g,trivial⟩ (on_c s1 X IX hl hd 84 [.val (.pointer (some ⟨g,0,none⟩))] ⟨trivial,trivial⟩ Tryz.call84 (fnLt1 84 g) (fun k=>decide (k∈ids)) fun k=>Match1_c s1 g b ids hg hM k) fun v s2 hle2 ⟨oo,oc,hv,HO⟩=>⟨.a (.v (.slice oo (onG (fun k=>decide (k∈ids)) X.ds).length oc)),trivial,hv.symm,?_⟩
  refine oj_run TT rfl ?_
  (repeat (first | refine oj_then ?_ | refine cj_ret ?_))
  refine nj_ret TT rfl fun β w' _ _=>?_
  exact ⟨oo,oc,rfl,HO⟩
end Go.Sy
namespace Go.Sy
open Go.Proofs
theorem shred_facts {σ:Snap} {g:GVal} {r:List AT} (hr:RepV σ g r) {gap:Int} (hg:1<=gap) (hg2:gap<=1000) (hw:g.weight<=4000) (hs:sane g=0) {L:List GRec} (hL:L=(shredV gap g 0 false emptyS 0).1) :
    L.length=cntV g/\L.length<=g.weight/\0<L.length/\soundG L=true/\RecsOk L/\buildR L=(g,0):=by
  subst hL
  have hcnt:=shredV_cnt gap g 0 false emptyS 0 hr.wf
  obtain ⟨hlen1,hlen2⟩:=shredV_len gap g 0 false emptyS 0
  have hfit:=shredV_fit gap g _ 0 false emptyS 0 hr (by decide)
  have hpos:=cntV_pos g
  have hnow:=(shredV_now (gap:=gap) g 0 false emptyS 0 (by omega) hg2).2
  have hbd:buildR (shredV gap g 0 false emptyS 0).1=(g,0):=by
    have:=buildR_shred (φ:=fun x=>x) (fun a b _ h=>h) (gap:=gap) (by omega) (by omega) g hr.wf hs (by omega) (by omega)
    rw [stE_id,List.map_id] at this
    exact this
  have hBG:buildG (shredV gap g 0 false emptyS 0).1=(g,[]):=by
    have:=build_shred (fun x=>x) gap g false emptyS 0 hr.wf
    rw [stE_id,List.map_id] at this
    exact this
  have hsound:soundG (shredV gap g 0 false emptyS 0).1=true:=by
    unfold soundG
    rw [hbd]
    rfl
  exact ⟨hcnt,hlen1,by omega,hsound,⟨by simp only [mostLen];omega,hfit,fun _=>by rw [hBG];show g.weight<=_;omega⟩,hbd⟩
end Go.Sy
namespace Go.Sy
open Go.Proofs
theorem sound_all {L:List GRec} (h:soundG L=true):L.length<=4096/\nestedG L=true/\namedG L=true/\((L.head?.map GRec.en).getD 0)<=1099511627776/\sane (buildG L).1=0:=by
  unfold soundG at h
  have h:=of_decide_eq_true h
  unfold buildR at h
  split at h
  · exact absurd h (by decide)
  · rename_i h1
    split at h
    · exact absurd h (by decide)
    · rename_i h2
      refine ⟨?_,?_,?_,?_,?_⟩
      · exact Nat.not_lt.1 fun hc=>h1 (.inl (by omega))
      · cases hn:nestedG L with
        | true=>rfl
        | false=>exact absurd (.inr (.inl hn)) h1
      · cases hn:namedG L with
        | true=>rfl
        | false=>exact absurd (.inr (.inr (.inl hn))) h1
      · exact Int.not_lt.1 fun hc=>h1 (.inr (.inr (.inr (by omega))))
      · simpa using h2
theorem levels_bd:∀ (L:List GRec) (m:Nat),levelsOk m L->∀ r∈L,0<=r.lv/\r.lv<=m+L.length
  | [],_,_,r,hr=>by cases hr
  | x::l,m,⟨h1,h2,h3⟩,r,hr=>by
    rw [List.length_cons]
    rcases List.mem_cons.1 hr with rfl | hr
    · exact ⟨h1,by omega⟩
    · have:=levels_bd l _ h3 r hr
      omega
theorem sound_levels {L:List GRec} (h:soundG L=true):∀ r∈L,0<=r.lv/\r.lv<=L.length:=by
  have h1:=(sound_all h).2.1
  unfold nestedG at h1
  rw [Bool.and_eq_true] at h1
  have:=levels_bd L 0 (nest_levels L 0 [] (-1) h1.1)
  intro r hr
  have:=this r hr
  omega
end Go.Sy
/- Plain law: how many pairs, by the levels; pairs are in order. No program in sight. -/
namespace Go.Sy
def lvT (l:List GItem):Int:=(l.map fun x=>x.lv).foldr (·+·) 0
def dz (l:List GItem):Nat:=l.countP fun x=>decide (x.lv=0)
theorem lvT_append (a b:List GItem):lvT (a++b)=lvT a+lvT b:=by
  induction a with
  | nil=>simp [lvT]
  | cons x a ih =>
    show x.lv+lvT (a++b)=x.lv+lvT a+lvT b
    omega
theorem lvT_items (id:Int) (L:List GRec):lvT (itemsD id L)=lvSum 0 L:=by
  unfold lvT lvSum itemsD
  rw [List.map_map]
  congr 1
  have:((fun x:GItem=>x.lv) ∘ fun x:GRec×Nat=>itemOf id x.1 x.2)=(fun r:GRec=>r.lv - 0) ∘ Prod.fst:=by
    funext x
    show x.1.lv=x.1.lv - 0
    omega
  rw [this,<-List.map_map,List.zipIdx_map_fst]
theorem dz_items (id:Int) (L:List GRec):dz (itemsD id L)=L.countP fun r=>decide (r.lv=0):=by
  unfold dz itemsD
  rw [List.countP_map]
  have:((fun x:GItem=>decide (x.lv=0)) ∘ fun x:GRec×Nat=>itemOf id x.1 x.2)=(fun r:GRec=>decide (r.lv=0)) ∘ Prod.fst:=rfl
  rw [this,<-List.countP_map,List.zipIdx_map_fst]
theorem shr_root {d:GDoc} (h:ShrD d):(d.L.countP fun r=>decide (r.lv=0))=1:=by
  obtain ⟨gap,g,hg,hw,e⟩:=h
  rw [e,shredV_its gap g 0 false emptyS 0 hw,List.countP_cons,List.countP_eq_zero.2]
  · simp
  · intro r hr
    have hlv:1<=r.lv:=by
      rcases shredI_lv_of gap (its g) (fun y hy lv' nm' name' now' r' hr'=>shredV_lv gap (cntV y.v) y.v (Nat.le_refl _) (its_wf hw hy) lv' nm' name' now' r' hr') (0+1) _ r hr with ⟨_,_,h,_⟩ | h<;>omega
    rw [decide_eq_true_eq]
    omega
theorem shr_counts {d:GDoc} (h:ShrD d):(cnt2 (relR false) d.L d.L:Int)=lvSum 0 d.L/\cnt2 (relR true) d.L d.L+1=d.L.length:=by
  obtain ⟨gap,g,hg,hw,e⟩:=h
  have:=cntI_all hg (cntV g) g (Nat.le_refl _) hw 0 false emptyS 0
  rw [<-e] at this
  exact this
theorem pairs_law {ds:List GDoc} (ho:ds.Pairwise fun x y=>x.id<y.id) (h:∀ d∈ds,ShrD d) :
    (pairsG (ds.flatMap fun d=>itemsD d.id d.L) (ds.flatMap fun d=>itemsD d.id d.L) true).length+dz (ds.flatMap fun d=>itemsD d.id d.L)=(ds.flatMap fun d=>itemsD d.id d.L).length /\
    ((pairsG (ds.flatMap fun d=>itemsD d.id d.L) (ds.flatMap fun d=>itemsD d.id d.L) false).length:Int)=lvT (ds.flatMap fun d=>itemsD d.id d.L):=by
  rw [pairs_len,pairs_len,cnt2_docs ho,cnt2_docs ho]
  clear ho
  induction ds with
  | nil=>exact ⟨rfl,rfl⟩
  | cons d ds ih =>
    obtain ⟨h1,h2⟩:=ih fun x hx=>h x (List.mem_cons_of_mem d hx)
    have hd:=h d List.mem_cons_self
    obtain ⟨c1,c2⟩:=shr_counts hd
    have c3:=shr_root hd
    rw [List.flatMap_cons]
    have e1:dz (itemsD d.id d.L++ds.flatMap fun d=>itemsD d.id d.L)=1+dz (ds.flatMap fun d=>itemsD d.id d.L):=by
      have:=dz_items d.id d.L
      unfold dz at *
      rw [List.countP_append]
      omega
    have e2:∀ kid,sumN ((d::ds).map fun d=>cnt2 (relR kid) d.L d.L)=cnt2 (relR kid) d.L d.L+sumN (ds.map fun d=>cnt2 (relR kid) d.L d.L):=fun _=>rfl
    rw [e1,e2,e2,lvT_append,lvT_items,List.length_append,itemsD_len]
    omega
theorem zip_sorted {α:Type} (l:List α):l.zipIdx.Pairwise fun x y=>x.2<y.2:=by
  rw [List.pairwise_iff_getElem]
  intro i j hi hj hij
  rw [List.getElem_zipIdx,List.getElem_zipIdx]
  show 0+i<0+j
  omega
theorem pairs_sorted (a d:List GItem) (kid:Bool):(pairsG a d kid).Pairwise fun x y=>x.2<y.2\/(x.2=y.2/\x.1<y.1):=by
  unfold pairsG
  rw [List.pairwise_flatMap]
  refine ⟨fun x _=>?_,(zip_sorted d).imp fun {x y} hxy u hu v hv=>?_⟩
  · rw [List.pairwise_map]
    exact ((zip_sorted a).sublist List.filter_sublist).imp fun {u v} huv=>.inr ⟨rfl,huv⟩
  · obtain ⟨u',_,rfl⟩:=List.mem_map.1 hu
    obtain ⟨v',_,rfl⟩:=List.mem_map.1 hv
    exact .inl hxy
theorem pairs_next {a d:List GItem} {kid:Bool} {i:Nat} {x y:Nat×Nat} (hx:(pairsG a d kid)[i]?=some x) (hy:(pairsG a d kid)[i+1]?=some y):x.2<y.2\/(x.2=y.2/\x.1<y.1):=by
  obtain ⟨hi,rfl⟩:=List.getElem?_eq_some_iff.1 hx
  obtain ⟨hj,rfl⟩:=List.getElem?_eq_some_iff.1 hy
  exact List.pairwise_iff_getElem.1 (pairs_sorted a d kid) i (i+1) hi hj (Nat.lt_succ_self i)
end Go.Sy
namespace Go.Sy
open Go.Proofs
set_option maxRecDepth 100000 in
set_option maxHeartbeats 2000000 in
theorem small_c (σ:Snap) (gs:List GVal) (rows:List (List AT)) (hR:RepL σ gs rows) (hl:gs.length<=140737488355328) (lo:Option Addr) (lc:Nat) (H:SlAt σ lo gs.length lc 8 rows) :
    PlainS Tryz.prog 28 [.a (.v (.slice lo gs.length lc))] σ (fun v=>∃ fb:Bool,v=.bool fb/\(fb=true->gs.length<=6/\∀ g∈gs,g.weight<=300)):=by
  refine enter_p Tryz.func28 rfl rfl (by (repeat' (first | exact trivial | constructor))) fun w=>?_
  (repeat (first | refine cj_seq ?_ | refine cjr TT rfl ?_ | refine oj_then ?_))
  refine cj_if rfl (fun h=>?_) (fun h=>?_)
  · (repeat (first | refine cj_seq ?_ | refine cjr TT rfl ?_ | refine oj_then ?_ | refine cj_ret ?_ | refine nj_then_ret ?_))
    refine nj_ret TT rfl fun β w' _ _=>?_
    exact ⟨false,rfl,fun h=>(by cases h)⟩
  have h6:gs.length<=6:=by have:=of_decide_eq_false h;omega
  (repeat (first | refine cj_seq ?_ | refine cjr TT rfl ?_ | refine oj_then ?_ | refine cj_skip ?_ | refine cj_block ?_ | refine nj_then ?_))
  refine cj_loop (fun (_:Nat)=>σ) (fun k=>[(0,.a (.v (.slice lo gs.length lc))),(3,.a (.v (.int .i64 k)))]) (fun _=>[]) (fun _=>[]) 0 (fun k=>k<=gs.length/\∀ g∈gs.take k,g.weight<=300) (fun k=>gs.length - k) 0 ⟨Nat.zero_le _,fun g h=>(by cases h)⟩ rfl (by (repeat first | exact trivial | refine ⟨rfl,?_⟩)) (by (repeat first | exact trivial | refine ⟨rfl,?_⟩)) rfl (by (repeat' (first | exact trivial | constructor))) (by (repeat' exact trivial)) fun k ⟨hk,hw⟩=>?_
  (repeat (first | refine cj_seq ?_ | refine cjr TT rfl ?_ | refine oj_then ?_))
  refine cj_if rfl (fun h=>?_) (fun h=>?_)
  rotate_left
  · have hk0:k=gs.length:=by have:=of_decide_eq_false h;omega
    rw [hk0,List.take_length] at hw
    (repeat (first | refine cj_seq ?_ | refine cjr TT rfl ?_ | refine oj_then ?_ | refine cj_exit ?_ | refine cj_ret ?_ | refine nj_then ?_ | refine nj_then_exit ?_ | refine nj_block_out ?_))
    refine nj_ret TT rfl fun β w' _ _=>?_
    exact ⟨true,rfl,fun _=>⟨h6,hw⟩⟩
  have hkl:k<gs.length:=by have:=of_decide_eq_true h;omega
  obtain ⟨r,hr1,hr2⟩:=hR.get (List.getElem?_eq_getElem hkl)
  have htk:gs.take (k+1)=gs.take k++[gs[k]]:=List.take_succ_eq_append_getElem hkl
  generalize gs[k]=g at *
  obtain ⟨la,lc',lrows,ma,mc,vrows,rfl,V⟩:=hr2.open
  (repeat (first | refine cj_seq ?_ | refine cjr TT rfl ?_ | refine cj_skip ?_ | refine cj_block ?_ | refine nj_then ?_))
  refine oj_idx TT rfl rfl rfl rfl rfl rfl rfl rfl rfl H (by omega) hr1 (oj_run TT rfl ?_)
  refine oj_callP rfl rfl rfl rfl rfl Tryz.call13 (by (repeat' (first | exact trivial | exact vCells_lt _ _ _ _ _ _ | constructor))) (Few_c σ g _ 300 V.rep (by omega) (by omega)) fun v ⟨fb,hv,hfew⟩=>⟨.a (.b fb),trivial,hv.symm,?_⟩
  refine oj_run TT rfl ?_
  (repeat refine oj_then ?_)
  refine cj_if rfl (fun h=>?_) (fun h=>?_)
  · (repeat (first | refine cj_seq ?_ | refine cjr TT rfl ?_ | refine oj_then ?_ | refine cj_ret ?_ | refine nj_then_ret ?_ | refine nj_block_ret ?_))
    refine nj_ret TT rfl fun β w' _ _=>?_
    exact ⟨false,rfl,fun h=>(by cases h)⟩
  have hwg:g.weight<=300:=by
    have:=hfew (by simpa using h)
    omega
  (repeat (first | refine cjr TT rfl ?_ | refine oj_nil ?_ | refine cj_skip ?_ | refine nj_then ?_ | refine nj_block ?_ | (refine oj_add rfl rfl rfl rfl rfl rfl (by omega) ?_;refine oj_run TT rfl ?_)))
  refine nj_again (k+1) ⟨hkl,fun x hx=>?_⟩ (by omega) rfl (by (repeat first | exact trivial | refine ⟨rfl,?_⟩)) (by (repeat first | exact trivial | refine ⟨rfl,?_⟩)) rfl (by (repeat' (first | exact trivial | constructor))) (by (repeat' exact trivial))
  rw [htk] at hx
  rcases List.mem_append.1 hx with hx | hx
  · exact hw x hx
  · rw [List.mem_singleton] at hx
    subst hx
    exact hwg
structure MadeOk (gap:Int) (X:GIx) (k:Nat):Prop where
  idx:IdxP X.ds X.xs X.next
  doc:∀ d∈X.ds,∃ g:GVal,g.wf/\sane g=0/\g.weight<=300/\d.L=(shredV gap g 0 false emptyS 0).1/\soundG d.L=true/\RecsOk d.L/\d.L.length<=300
  id:∀ d∈X.ds,0<=d.id/\d.id<k
  num:X.ds.length<=k
  fit:GFit (k*300) ⟨X.xs,X.next,[]⟩
theorem made0 (gap:Int):MadeOk gap ix0 0:=⟨IdxP.nil,fun _ h=>(by cases h),fun _ h=>(by cases h),Nat.le_refl _,⟨Nat.le_refl _,Nat.le_refl _,by decide,fun _ h=>(by cases h)⟩⟩
theorem MadeOk.skip {gap:Int} {X:GIx} {k:Nat} (h:MadeOk gap X k):MadeOk gap X (k+1) :=
  ⟨h.idx,h.doc,fun d hd=>by have:=h.id d hd;omega,by have:=h.num;omega,h.fit.mono (by omega)⟩
theorem MadeOk.shr {gap:Int} (hg:0<gap) {X:GIx} {k:Nat} (h:MadeOk gap X k):∀ d∈X.ds,ShrD d:=fun d hd=>by
  obtain ⟨g,hw,-,-,e,-⟩:=h.doc d hd
  exact ⟨gap,g,hg,hw,e⟩
theorem shred_levels {gap:Int} (hg:0<gap) (g:GVal):levelsOk 0 (shredV gap g 0 false emptyS 0).1:=by
  have:=nested_shred (φ:=fun x=>x) (fun a b _ h=>h) (gap:=gap) hg g false emptyS (by omega)
  rw [stE_id,List.map_id] at this
  unfold nestedG at this
  simp only [Bool.and_eq_true] at this
  exact nest_levels _ 0 [] (-1) this.1
set_option maxRecDepth 100000 in
set_option maxHeartbeats 4000000 in
theorem made_c (σ:Snap) (gs:List GVal) (rows:List (List AT)) (hR:RepL σ gs rows) (h6:gs.length<=6) (hw:∀ g∈gs,g.weight<=300) (lo:Option Addr) (lc:Nat) (H:SlAt σ lo gs.length lc 8 rows) :
    PureS Tryz.prog 29 [.a (.v (.slice lo gs.length lc))] σ (fun v σ'=>∃ X:GIx,v=(SV.agg (ixCells X)).den β0/\IxAt σ' X/\MadeOk 1 X gs.length):=by
  refine enter_s Tryz.func29 rfl rfl (by (repeat' (first | exact trivial | constructor))) fun w=>?_
  (repeat (first | refine cj_seq ?_ | refine cjr TT rfl ?_ | refine oj_then ?_))
  refine oj_callP rfl rfl rfl rfl rfl Tryz.call38 (by (repeat' exact trivial)) (New_c σ) fun v hv=>⟨.agg (ixCells ix0),ixCells_lt _ _,hv.symm,?_⟩
  refine oj_run TT rfl ?_
  (repeat (first | refine cj_seq ?_ | refine cjr TT rfl ?_ | refine oj_then ?_ | refine cj_block ?_))
  refine cj_loop2 (fun (s:Snap) (_:Nat×GIx)=>s) (fun _ t=>[(0,.a (.v (.slice lo gs.length lc))),(2,.a (.p 0 0)),(3,.a (.p 1 0)),(4,.a (.v (.int .i64 (t.1:Nat))))]) (fun _ t=>[(0,.loc 60,ixCells ix0),(1,.loc 60,ixCells t.2)]) (fun _ _=>[]) 2
    (fun s t=>σ.le s/\t.1<=gs.length/\IxAt s t.2/\MadeOk 1 t.2 t.1) (fun _ t=>gs.length - t.1) σ (0,ix0) ⟨Snap.le_refl _,Nat.zero_le _,ix0_at σ,made0 1⟩ rfl (by (repeat first | exact trivial | refine ⟨rfl,?_⟩)) (by (repeat first | exact trivial | refine ⟨rfl,?_⟩)) rfl ⟨trivial,by show 0<2;omega,by show 1<2;omega,trivial,trivial⟩
    (by exact ⟨⟨by omega,ixCells_lt 2 _⟩,⟨by omega,ixCells_lt 2 _⟩,trivial⟩) fun s ⟨k,X⟩ ⟨hle,hk,IX,M⟩=>?_
  dsimp only at hk IX M ⊢
  have H:=H.mono hle
  (repeat (first | refine cj_seq ?_ | refine cjr TT rfl ?_ | refine oj_then ?_))
  refine cj_if rfl (fun h=>?_) (fun h=>?_)
  rotate_left
  · have hk0:k=gs.length:=by have:=of_decide_eq_false h;omega
    subst hk0
    (repeat (first | refine cj_seq ?_ | refine cjr TT rfl ?_ | refine oj_then ?_ | refine cj_exit ?_ | refine cj_ret ?_ | refine nj_then ?_ | refine nj_then_exit ?_ | refine nj_block_out ?_))
    refine nj_ret TT rfl fun β w' _ _=>?_
    exact ⟨X,rfl,IX,M⟩
  have hkl:k<gs.length:=by have:=of_decide_eq_true h;omega
  obtain ⟨r,hr1,hr2⟩:=hR.get (List.getElem?_eq_getElem hkl)
  have hwg:=hw gs[k] (List.getElem_mem hkl)
  generalize gs[k]=g at *
  have hr2:=hr2.mono hle
  obtain ⟨la,lc',lrows,ma,mc,vrows,rfl,V⟩:=hr2.open
  (repeat (first | refine cj_seq ?_ | refine cjr TT rfl ?_ | refine cj_skip ?_ | refine cj_block ?_ | refine nj_then ?_))
  refine oj_idx TT rfl rfl rfl rfl rfl rfl rfl rfl rfl H (by omega) hr1 (oj_run TT rfl ?_)
  refine oj_callS rfl rfl rfl rfl rfl Tryz.call39 ⟨vCells_lt _ _ _ _ _ _,trivial,trivial⟩ (Shred_s s g _ 1 V.rep (by omega)) fun v s1 hle1 ⟨ao,cap,hv,HL⟩=>⟨.tup [.a (.v (.slice ao (shredG g 1).1.length cap)),.a (.v (.int .i64 (shredG g 1).2))],(by (repeat' (first | exact trivial | refine SV.lt_tup ?_ | constructor))),hv.symm,?_⟩
  rw [shredG_k (by omega) (by omega)] at HL ⊢
  have IX:=IX.mono hle1
  by_cases hs:sane g≠0
  · rw [if_pos hs] at HL ⊢
    dsimp only at HL ⊢
    refine oj_run TT rfl ?_
    (repeat (first | refine cj_seq ?_ | refine cjr TT rfl ?_ | refine oj_then ?_))
    refine cj_if rfl (fun h=>?_) (fun h=>absurd (by simpa using h) hs)
    (repeat (first | refine cjr TT rfl ?_ | refine oj_nil ?_ | refine cj_exit ?_ | refine nj_then ?_ | refine nj_then_exit ?_ | refine nj_block_out ?_ | (refine oj_add rfl rfl rfl rfl rfl rfl (by omega) ?_;refine oj_run TT rfl ?_)))
    refine nj_again (s1,(k+1,X)) ⟨Snap.le_trans hle hle1,hkl,IX,M.skip⟩ (by dsimp only;omega) rfl (by (repeat first | exact trivial | refine ⟨rfl,?_⟩)) (by (repeat first | exact trivial | refine ⟨rfl,?_⟩)) rfl ⟨trivial,by show 0<2;omega,by show 1<2;omega,trivial,trivial⟩ (by exact ⟨⟨by omega,ixCells_lt 2 _⟩,⟨by omega,ixCells_lt 2 _⟩,trivial⟩)
  have hs:sane g=0:=by simpa using hs
  rw [if_neg (by simp [hs])] at HL ⊢
  dsimp only at HL ⊢
  obtain ⟨hc1,hc2,hc3,hsound,R,-⟩:=shred_facts V.rep (gap:=1) (by omega) (by omega) (by omega) hs rfl
  have hlev:=shred_levels (gap:=1) (by omega) g
  have hwf:=V.rep.wf
  generalize hLdef:(shredV 1 g 0 false emptyS 0).1=L at *
  refine oj_run TT rfl ?_
  (repeat (first | refine cj_seq ?_ | refine cjr TT rfl ?_ | refine oj_then ?_))
  refine cj_if rfl (fun h=>absurd h (by decide)) (fun _=>?_)
  (repeat (first | refine cj_seq ?_ | refine cjr TT rfl ?_ | refine cj_skip ?_ | refine nj_then ?_))
  have hnum:=M.num
  have hadd:=IxAdd_c s1 X IX M.idx k L R (by omega) hsound hlev ao cap HL (fun d hd=>(M.id d hd).2) (by omega) (k*300) M.fit (by omega)
  refine oj_set 27 (.agg (ixCells X)) rfl (ixCells_lt _ _) (fun _=>rfl) ?_
  refine oj_callS rfl rfl rfl rfl rfl Tryz.call40 ⟨ixCells_lt 0 X,(by (repeat' (first | exact trivial | refine AllLt.of ?_ | constructor))),trivial⟩ hadd fun v s2 hle2 ⟨X',hv,IX',hP',⟨lo',lc2,ids,hds⟩,hfit⟩=>⟨.tup [.agg (ixCells X'),.a (.v (.int .i64 0))],(by intro x hx;simp only [List.mem_cons,List.not_mem_nil,or_false] at hx;rcases hx with rfl | rfl;exact ixCells_lt 0 X';trivial),hv.symm,?_⟩
  refine oj_run TT rfl ?_
  (repeat (first | refine cj_seq ?_ | refine cjr TT rfl ?_ | refine oj_then ?_))
  refine cj_if rfl (fun _=>?_) (fun h=>absurd h (by decide))
  (repeat (first | refine cjr TT rfl ?_ | refine oj_nil ?_ | refine nj_then ?_ | refine nj_block ?_ | (refine oj_add rfl rfl rfl rfl rfl rfl (by omega) ?_;refine oj_run TT rfl ?_)))
  have M':MadeOk 1 X' (k+1):=by
    refine ⟨hP',fun d hd=>?_,fun d hd=>?_,?_,hfit.mono (by omega)⟩
    · rw [hds] at hd
      rcases List.mem_append.1 hd with hd | hd
      · exact M.doc d hd
      · rw [List.mem_singleton] at hd
        subst hd
        exact ⟨g,hwf,hs,hwg,hLdef.symm,hsound,R,by show L.length<=300;omega⟩
    · rw [hds] at hd
      rcases List.mem_append.1 hd with hd | hd
      · have:=M.id d hd
        omega
      · rw [List.mem_singleton] at hd
        subst hd
        show 0<=(k:Int)/\(k:Int)<((k+1:Nat):Int)
        omega
    · rw [hds,List.length_append,List.length_singleton]
      omega
  refine nj_again (s2,(k+1,X')) ⟨Snap.le_trans hle (Snap.le_trans hle1 hle2),hkl,IX',M'⟩ (by dsimp only;omega) rfl (by (repeat first | exact trivial | refine ⟨rfl,?_⟩)) (by (repeat first | exact trivial | refine ⟨rfl,?_⟩)) rfl ⟨trivial,by show 0<2;omega,by show 1<2;omega,trivial,trivial⟩ (by exact ⟨⟨by omega,ixCells_lt 2 _⟩,⟨by omega,ixCells_lt 2 _⟩,trivial⟩)
end Go.Sy
namespace Go.Sy
open Go.Proofs
def awA:List GItem:=[⟨0,0,1,10,0⟩,⟨0,0,2,9,1⟩]
def awD:List GItem:=[⟨0,0,2,9,1⟩,⟨0,0,3,4,2⟩]
theorem awA_lam:Lam awA:=⟨by decide,by decide⟩
theorem awD_lam:Lam awD:=⟨by decide,by decide⟩
theorem aw_pairs:pairsG awA awD false=[(0,0),(0,1),(1,1)]:=by decide
set_option maxRecDepth 100000 in
set_option maxHeartbeats 2000000 in
theorem awake20_c (σ:Snap):PureS Tryz.prog 27 [] σ (fun v _=>v=.bool true):=by
  refine enter_s Tryz.func27 rfl rfl (by (repeat' exact trivial)) fun w=>?_
  (repeat (first | refine cj_seq ?_ | refine cjr TT rfl ?_ | refine oj_then ?_))
  refine oj_own 0 2 5 rfl (by (repeat' (first | exact trivial | refine AllLt.of ?_ | constructor))) rfl (by decide) fun ga=>?_
  refine oj_seal 0 rfl rfl rfl fun s1 hle1 hS1=>?_
  refine oj_own 1 2 5 rfl (by (repeat' (first | exact trivial | refine AllLt.of ?_ | constructor))) rfl (by decide) fun gd=>?_
  refine oj_seal 0 rfl rfl rfl fun s2 hle2 hS2=>?_
  have HA:SlAt s2 (some ⟨ga,0,none⟩) awA.length 2 5 (itRows awA):=(it_sealed (l:=awA) hS1 (by decide)).mono hle2
  have HD:SlAt s2 (some ⟨gd,0,none⟩) awD.length 2 5 (itRows awD):=it_sealed (l:=awD) hS2 (by decide)
  refine oj_callS rfl rfl rfl rfl rfl Tryz.call31 ⟨trivial,trivial,trivial,trivial⟩ (show PureS Tryz.prog 31 [.a (.v (.slice (some ⟨ga,0,none⟩) 2 2)),.a (.v (.slice (some ⟨gd,0,none⟩) 2 2)),.a .ff] s2 _ from Pairs_c s2 awA awD (by decide) (by decide) _ _ HA _ _ HD awA_lam awD_lam (by decide) false)
    fun v s3 hle3 ⟨po,pc,n,hv,hn,HP⟩=>⟨.tup [.a (.v (.slice po 3 pc)),.a (.v (.int .i64 n))],(by (repeat' (first | exact trivial | refine SV.lt_tup ?_ | constructor))),by rw [hv,aw_pairs];rfl,?_⟩
  rw [aw_pairs] at HP
  have hn:n<=2:=hn
  have HA:=HA.mono hle3
  refine oj_run TT rfl ?_
  (repeat (first | refine cj_seq ?_ | refine cjr TT rfl ?_ | refine oj_then ?_))
  refine oj_split 20 rfl (fun _=>?_) (fun h=>absurd h (by decide))
  refine oj_run TT rfl ?_
  refine oj_split 24 rfl (fun _=>?_) (fun h=>absurd (of_decide_eq_false (show decide ((0:Int)<=n)=false from h)) (by omega))
  refine oj_run TT rfl ?_
  refine oj_split 28 rfl (fun _=>?_) (fun h=>absurd (of_decide_eq_false (show decide ((n:Int)<=2)=false from h)) (by omega))
  refine oj_run TT rfl ?_
  refine oj_callP rfl rfl rfl rfl rfl Tryz.call33 (by (repeat' (first | exact trivial | constructor))) (Sound20_c s3 awA (by decide) _ _ HA) fun v hv=>⟨.a .tt,trivial,by rw [hv,lam_sound awA_lam];rfl,?_⟩
  refine oj_run TT rfl ?_
  refine oj_idx TT rfl rfl rfl rfl rfl rfl rfl rfl rfl HP (by decide) (r:=prCells (1,1)) rfl (oj_run TT rfl ?_)
  refine oj_split 39 rfl (fun _=>?_) (fun h=>absurd h (by decide))
  refine oj_run TT rfl ?_
  refine oj_idx TT rfl rfl rfl rfl rfl rfl rfl rfl rfl HP (by decide) (r:=prCells (1,1)) rfl (oj_run TT rfl ?_)
  (repeat (first | refine oj_then ?_ | refine cj_ret ?_))
  refine nj_ret TT rfl fun β w' _ _=>?_
  rfl
theorem deep_at {σ:Snap} {g:Nat} {xs:List Value} (hx:xs=(ptRows [deepP]).flatten.map AT.val) (hS:ArrSealed σ ⟨some ⟨g,0,none⟩,1,1,65,2,xs⟩):SlAt σ (some ⟨g,0,none⟩) 1 1 2 (ptRows [deepP]) :=
  hS.sl hx (fun r hr=>by
    simp only [ptRows,List.map_cons,List.map_nil,List.mem_singleton] at hr
    subst hr
    exact ⟨rfl,by simp [ptCells,AT.lt]⟩) rfl rfl (Nat.le_refl _)
def allOf (X:GIx):List GItem:=X.ds.flatMap fun d=>itemsD d.id d.L
theorem allOf_len {gap:Int} {X:GIx} {k:Nat} (M:MadeOk gap X k):(allOf X).length<=k*300:=by
  have h1:=M.num
  have h2:∀ d∈X.ds,d.L.length<=300:=fun d hd=>by obtain ⟨_,_,_,_,_,_,_,h⟩:=M.doc d hd;exact h
  have:∀ (ds:List GDoc),(∀ d∈ds,d.L.length<=300)->(ds.flatMap fun d=>itemsD d.id d.L).length<=ds.length*300:=by
    intro ds
    induction ds with
    | nil=>intro _;exact Nat.le_refl _
    | cons d ds ih =>
      intro h
      have e1:=ih fun x hx=>h x (List.mem_cons_of_mem d hx)
      have e2:=h d List.mem_cons_self
      rw [List.flatMap_cons,List.length_append,itemsD_len,List.length_cons,Nat.succ_mul]
      omega
  have h3:=this X.ds h2
  have h4:X.ds.length*300<=k*300:=Nat.mul_le_mul_right _ h1
  exact Nat.le_trans h3 h4
theorem allOf_lv {gap:Int} {X:GIx} {k:Nat} (M:MadeOk gap X k):∀ x∈allOf X,0<=x.lv/\x.lv<=300:=by
  intro x hx
  obtain ⟨d,hd,hx⟩:=List.mem_flatMap.1 hx
  obtain ⟨y,hy,rfl⟩:=List.mem_map.1 hx
  obtain ⟨_,_,_,_,_,hs,_,hl⟩:=M.doc d hd
  have hy:y.1∈d.L:=by
    have:=List.mem_map_of_mem (f:=Prod.fst) hy
    rw [List.zipIdx_map_fst] at this
    exact this
  have:=sound_levels hs y.1 hy
  show 0<=y.1.lv/\y.1.lv<=300
  omega
theorem allOf_lam {gap:Int} (hg:0<gap) {X:GIx} {k:Nat} (M:MadeOk gap X k):Lam (allOf X):=lam_idx M.idx.ord (M.shr hg)
theorem lvT_take {l:List GItem} {k:Nat} {x:GItem} (h:l[k]?=some x):lvT (l.take (k+1))=lvT (l.take k)+x.lv:=by
  obtain ⟨hk,he⟩:=List.getElem?_eq_some_iff.1 h
  have h1:lvT [x]=x.lv+0:=rfl
  rw [List.take_succ_eq_append_getElem hk,lvT_append,he,h1,Int.add_zero]
theorem dz_take {l:List GItem} {k:Nat} {x:GItem} (h:l[k]?=some x):dz (l.take (k+1))=dz (l.take k)+if decide (x.lv=0)=true then 1 else 0:=by
  obtain ⟨hk,he⟩:=List.getElem?_eq_some_iff.1 h
  unfold dz
  rw [List.take_succ_eq_append_getElem hk,List.countP_append,he,List.countP_singleton]
theorem lvT_bd (l:List GItem) (h:∀ x∈l,0<=x.lv/\x.lv<=300):0<=lvT l/\lvT l<=300*l.length:=by
  induction l with
  | nil=>exact ⟨by decide,by decide⟩
  | cons x l ih =>
    have h1:=ih fun y hy=>h y (List.mem_cons_of_mem x hy)
    have h2:=h x List.mem_cons_self
    have h3:lvT (x::l)=x.lv+lvT l:=rfl
    rw [h3,List.length_cons]
    omega
structure JpS where
  k:Nat
  docs:Nat
  want:Int
set_option maxRecDepth 100000 in
set_option maxHeartbeats 4000000 in
theorem JoinsPairs_c (σ:Snap) (gs:List GVal) (rows:List (List AT)) (lo:Option Addr) (lc:Nat) (H:SlAt σ lo gs.length lc 8 rows) (hl:gs.length<=140737488355328) (hR:RepL σ gs rows) :
    PureS Tryz.prog 4 [.a (.v (.slice lo gs.length lc))] σ (fun v _=>v=.bool true):=by
  refine enter_s Tryz.func4 rfl rfl (by (repeat' (first | exact trivial | constructor))) fun w=>?_
  (repeat (first | refine cj_seq ?_ | refine cjr TT rfl ?_ | refine oj_then ?_))
  refine oj_callS rfl rfl rfl rfl rfl Tryz.call27 trivial (awake20_c σ) fun v s0 hle0 hv=>⟨.a .tt,trivial,hv.symm,?_⟩
  have H:=H.mono hle0
  have hR:=hR.mono hle0
  refine oj_run TT rfl ?_
  (repeat (first | refine cj_seq ?_ | refine cjr TT rfl ?_ | refine oj_then ?_))
  refine oj_callP rfl rfl rfl rfl rfl Tryz.call28 (by (repeat' (first | exact trivial | constructor))) (small_c s0 gs rows hR hl lo lc H) fun v ⟨fb,hv,hfb⟩=>⟨.a (.b fb),trivial,hv.symm,?_⟩
  refine oj_run TT rfl ?_
  (repeat refine oj_then ?_)
  refine cj_if rfl (fun h=>?_) (fun h=>?_)
  · (repeat (first | refine cj_seq ?_ | refine cjr TT rfl ?_ | refine oj_then ?_ | refine cj_ret ?_ | refine nj_then_ret ?_))
    refine nj_ret TT rfl fun β w' _ _=>?_
    rfl
  obtain ⟨h6,hw⟩:=hfb (by simpa using h)
  (repeat (first | refine cj_seq ?_ | refine cjr TT rfl ?_ | refine cj_skip ?_ | refine nj_then ?_))
  refine oj_callS rfl rfl rfl rfl rfl Tryz.call29 ⟨trivial,trivial⟩ (made_c s0 gs rows hR h6 hw lo lc H) fun v s1 hle1 ⟨X,hv,IX,M⟩=>⟨.agg (ixCells X),ixCells_lt _ _,hv.symm,?_⟩
  refine oj_run TT rfl ?_
  (repeat (first | refine cj_seq ?_ | refine cjr TT rfl ?_ | refine oj_then ?_))
  refine oj_own 1 1 2 rfl (by (repeat' (first | exact trivial | refine AllLt.of ?_ | constructor))) rfl (by decide) fun gp=>?_
  refine oj_seal 0 rfl rfl rfl fun s2 hle2 hS2=>?_
  have P:=deep_at rfl hS2
  have IX:=IX.mono hle2
  have hdd:∀ d∈X.ds,d.ids.length=d.L.length/\d.L.length<=100000:=fun d hd=>⟨(M.idx.doc d hd).1,by obtain ⟨_,_,_,_,_,_,_,h⟩:=M.doc d hd;omega⟩
  have hxl:=M.fit.xs
  dsimp only at hxl
  have hnum:=M.num
  have hmt:=IxMatch_c s2 X IX (by omega) hdd (by omega) [deepP] (by decide) _ _ P
  rw [on_deep M.idx] at hmt
  have hall:(X.ds.flatMap fun d=>itemsD d.id d.L)=allOf X:=rfl
  rw [hall] at hmt
  refine oj_set 21 (.agg (ixCells X)) rfl (ixCells_lt _ _) (fun _=>rfl) ?_
  refine oj_callS rfl rfl rfl rfl rfl Tryz.call30 ⟨ixCells_lt 0 X,trivial,trivial⟩ hmt fun v s3 hle3 ⟨oo,oc,hv,HO⟩=>⟨.a (.v (.slice oo (allOf X).length oc)),trivial,hv.symm,?_⟩
  have hal:=allOf_len M
  have hlv:=allOf_lv M
  have hlam:=allOf_lam (by decide) M
  have hpl:=pairs_law M.idx.ord (M.shr (by decide))
  rw [hall] at hpl
  have hal:(allOf X).length<=1800:=by omega
  clear IX hmt
  generalize allOf X=A at *
  refine oj_run TT rfl ?_
  (repeat (first | refine cj_seq ?_ | refine cjr TT rfl ?_ | refine oj_then ?_))
  refine oj_callS rfl rfl rfl rfl rfl Tryz.call31 ⟨trivial,trivial,trivial,trivial⟩ (show PureS Tryz.prog 31 [.a (.v (.slice oo A.length oc)),.a (.v (.slice oo A.length oc)),.a .tt] s3 _ from Pairs_c s3 A A (by omega) (by omega) oo oc HO oo oc HO hlam hlam (fun z hz=>by have:=hlv z hz;omega) true)
    fun v s4 hle4 ⟨po,pc,n,hv,hn,HP⟩=>⟨.tup [.a (.v (.slice po (pairsG A A true).length pc)),.a (.v (.int .i64 n))],(by (repeat' (first | exact trivial | refine SV.lt_tup ?_ | constructor))),hv.symm,?_⟩
  have HO:=HO.mono hle4
  refine oj_run TT rfl ?_
  (repeat (first | refine cj_seq ?_ | refine cjr TT rfl ?_ | refine oj_then ?_))
  refine oj_callS rfl rfl rfl rfl rfl Tryz.call31 ⟨trivial,trivial,trivial,trivial⟩ (show PureS Tryz.prog 31 [.a (.v (.slice oo A.length oc)),.a (.v (.slice oo A.length oc)),.a .ff] s4 _ from Pairs_c s4 A A (by omega) (by omega) oo oc HO oo oc HO hlam hlam (fun z hz=>by have:=hlv z hz;omega) false)
    fun v s5 hle5 ⟨qo,qc,m,hv,hm,HQ⟩=>⟨.tup [.a (.v (.slice qo (pairsG A A false).length qc)),.a (.v (.int .i64 m))],(by (repeat' (first | exact trivial | refine SV.lt_tup ?_ | constructor))),hv.symm,?_⟩
  have HO:=HO.mono hle5
  have hnext:=fun (i:Nat) x y=>@pairs_next A A false i x y
  have hql:(pairsG A A false).length<=1800*1800:=by
    have h1:=pairsK_len A A false A.length (Nat.le_refl _)
    rw [pairsK_all] at h1
    have h2:A.length*A.length<=1800*1800:=Nat.mul_le_mul hal hal
    omega
  obtain ⟨hp1,hp2⟩:=hpl
  generalize (pairsG A A true).length=kn at *
  generalize pairsG A A false=q at *
  refine oj_run TT rfl ?_
  (repeat (first | refine cj_seq ?_ | refine cjr TT rfl ?_ | refine oj_then ?_ | refine cj_block ?_))
  refine cj_cutB (fun _=>s5) (fun (_:Unit)=>[(3,.a .tt),(5,.a (.v (.slice oo A.length oc))),(6,.a (.v (.slice po kn pc))),(7,.a (.v (.int .i64 n))),(8,.a (.v (.slice qo q.length qc))),(9,.a (.v (.int .i64 m))),(10,.a (.v (.int .i64 (dz A)))),(11,.a (.v (.int .i64 (lvT A))))]) (fun _=>[]) (fun _=>[]) 0 (fun _=>True) ?_ (fun _ _=>?_)
  · refine cj_loop (fun (_:JpS)=>s5) (fun t=>[(3,.a .tt),(5,.a (.v (.slice oo A.length oc))),(6,.a (.v (.slice po kn pc))),(7,.a (.v (.int .i64 n))),(8,.a (.v (.slice qo q.length qc))),(9,.a (.v (.int .i64 m))),(10,.a (.v (.int .i64 (t.docs:Nat)))),(11,.a (.v (.int .i64 t.want))),(12,.a (.v (.int .i64 (t.k:Nat))))]) (fun _=>[]) (fun _=>[]) 0
      (fun t=>t.k<=A.length/\t.docs=dz (A.take t.k)/\t.want=lvT (A.take t.k)) (fun t=>A.length - t.k) ⟨0,0,0⟩ ⟨Nat.zero_le _,rfl,rfl⟩ rfl (by (repeat first | exact trivial | refine ⟨rfl,?_⟩)) (by (repeat first | exact trivial | refine ⟨rfl,?_⟩)) rfl (by (repeat' (first | exact trivial | constructor))) (by (repeat' exact trivial)) fun ⟨k,docs,want⟩ ⟨hk,hd,hwt⟩=>?_
    dsimp only at hk hd hwt ⊢
    (repeat (first | refine cj_seq ?_ | refine cjr TT rfl ?_ | refine oj_then ?_))
    refine cj_if rfl (fun h=>?_) (fun h=>?_)
    rotate_left
    · have hk0:k=A.length:=by have:=of_decide_eq_false h;omega
      rw [hk0,List.take_length] at hd hwt
      subst hd hwt
      (repeat (first | refine cj_exit ?_ | refine nj_then_exit ?_ | refine nj_block_out ?_))
      refine nj_again () trivial Nat.zero_lt_one rfl (by (repeat first | exact trivial | refine ⟨rfl,?_⟩)) (by (repeat first | exact trivial | refine ⟨rfl,?_⟩)) rfl (by (repeat' (first | exact trivial | constructor))) (by (repeat' exact trivial))
    have hkl:k<A.length:=by have:=of_decide_eq_true h;omega
    have hxk:=List.getElem?_eq_getElem hkl
    have hrow:=itRows_get hxk
    have hx:=hlv A[k] (List.getElem_mem hkl)
    have e1:=lvT_take hxk
    have e2:=dz_take hxk
    have hb:=lvT_bd (A.take k) fun y hy=>hlv y (List.mem_of_mem_take hy)
    have hbl:(A.take k).length<=1800:=by rw [List.length_take];omega
    have hdl:dz (A.take k)<=1800:=Nat.le_trans List.countP_le_length hbl
    generalize A[k]=x at *
    (repeat (first | refine cj_seq ?_ | refine cjr TT rfl ?_ | refine cj_skip ?_ | refine cj_block ?_ | refine nj_then ?_))
    refine oj_idx TT rfl rfl rfl rfl rfl rfl rfl rfl rfl HO (by omega) hrow (oj_run TT rfl ?_)
    (repeat refine oj_then ?_)
    refine cj_cutN (fun (_:Unit)=>s5) (fun _=>[(3,.a .tt),(5,.a (.v (.slice oo A.length oc))),(6,.a (.v (.slice po kn pc))),(7,.a (.v (.int .i64 n))),(8,.a (.v (.slice qo q.length qc))),(9,.a (.v (.int .i64 m))),(10,.a (.v (.int .i64 ((dz (A.take (k+1)):Nat):Int)))),(11,.a (.v (.int .i64 want))),(12,.a (.v (.int .i64 k)))]) (fun _=>[]) (fun _=>[]) 0 (fun _=>True) ?_ (fun _ _=>?_)
    · refine cj_if rfl (fun h=>?_) (fun h=>?_)
      · have h:decide (x.lv=0)=true:=h
        rw [h,if_pos rfl] at e2
        (repeat (first | refine cjr TT rfl ?_ | refine oj_nil ?_ | (refine oj_add rfl rfl rfl rfl rfl rfl (by omega) ?_;refine oj_run TT rfl ?_)))
        refine nj_set 10 (.a (.v (.int .i64 ((dz (A.take (k+1)):Nat):Int)))) rfl trivial (fun _=>by show Value.int .i64 ((docs:Int)+1)=_;rw [e2,hd];rfl) ?_
        refine nj_again () trivial Nat.zero_lt_one rfl (by (repeat first | exact trivial | refine ⟨rfl,?_⟩)) (by (repeat first | exact trivial | refine ⟨rfl,?_⟩)) rfl (by (repeat' (first | exact trivial | constructor))) (by (repeat' exact trivial))
      · have h:decide (x.lv=0)=false:=h
        rw [h,if_neg (by decide)] at e2
        (repeat refine cj_skip ?_)
        refine nj_set 10 (.a (.v (.int .i64 ((dz (A.take (k+1)):Nat):Int)))) rfl trivial (fun _=>by show Value.int .i64 (docs:Int)=_;rw [e2,hd];rfl) ?_
        refine nj_again () trivial Nat.zero_lt_one rfl (by (repeat first | exact trivial | refine ⟨rfl,?_⟩)) (by (repeat first | exact trivial | refine ⟨rfl,?_⟩)) rfl (by (repeat' (first | exact trivial | constructor))) (by (repeat' exact trivial))
    (repeat refine cjr TT rfl ?_)
    refine oj_idx TT rfl rfl rfl rfl rfl rfl rfl rfl rfl HO (by omega) hrow (oj_run TT rfl ?_)
    refine oj_add rfl rfl rfl rfl rfl rfl (by rw [hwt];omega) (oj_run TT rfl ?_)
    (repeat (first | refine cjr TT rfl ?_ | refine oj_nil ?_ | refine nj_then ?_ | refine nj_block ?_ | (refine oj_add rfl rfl rfl rfl rfl rfl (by omega) ?_;refine oj_run TT rfl ?_)))
    refine nj_again (⟨k+1,dz (A.take (k+1)),want+x.lv⟩:JpS) ⟨hkl,rfl,by dsimp only;rw [e1,hwt]⟩ (by dsimp only;omega) rfl (by (repeat first | exact trivial | refine ⟨rfl,?_⟩)) (by (repeat first | exact trivial | refine ⟨rfl,?_⟩)) rfl (by (repeat' (first | exact trivial | constructor))) (by (repeat' exact trivial))
  (repeat (first | refine cj_seq ?_ | refine cjr TT rfl ?_ | refine oj_then ?_ | refine cj_block ?_))
  refine cj_cutB (fun _=>s5) (fun (_:Unit)=>[(3,.a .tt),(5,.a (.v (.slice oo A.length oc))),(6,.a (.v (.slice po kn pc))),(7,.a (.v (.int .i64 n))),(8,.a (.v (.slice qo q.length qc))),(9,.a (.v (.int .i64 m))),(10,.a (.v (.int .i64 (dz A)))),(11,.a (.v (.int .i64 (lvT A))))]) (fun _=>[]) (fun _=>[]) 0 (fun _=>True) ?_ (fun _ _=>?_)
  · refine cj_loop (fun (_:Nat)=>s5) (fun k=>[(3,.a .tt),(5,.a (.v (.slice oo A.length oc))),(6,.a (.v (.slice po kn pc))),(7,.a (.v (.int .i64 n))),(8,.a (.v (.slice qo q.length qc))),(9,.a (.v (.int .i64 m))),(10,.a (.v (.int .i64 (dz A)))),(11,.a (.v (.int .i64 (lvT A)))),(13,.a (.v (.int .i64 ((k+1:Nat):Int))))]) (fun _=>[]) (fun _=>[]) 0
      (fun _=>True) (fun k=>q.length - k) 0 trivial rfl (by (repeat first | exact trivial | refine ⟨rfl,?_⟩)) (by (repeat first | exact trivial | refine ⟨rfl,?_⟩)) rfl (by (repeat' (first | exact trivial | constructor))) (by (repeat' exact trivial)) fun k _=>?_
    (repeat (first | refine cj_seq ?_ | refine cjr TT rfl ?_ | refine oj_then ?_))
    refine cj_if rfl (fun h=>?_) (fun h=>?_)
    rotate_left
    · (repeat (first | refine cj_exit ?_ | refine nj_then_exit ?_ | refine nj_block_out ?_))
      refine nj_again () trivial Nat.zero_lt_one rfl (by (repeat first | exact trivial | refine ⟨rfl,?_⟩)) (by (repeat first | exact trivial | refine ⟨rfl,?_⟩)) rfl (by (repeat' (first | exact trivial | constructor))) (by (repeat' exact trivial))
    have hkl:k+1<q.length:=by have:=of_decide_eq_true h;omega
    have hx:=List.getElem?_eq_getElem (show k<q.length by omega)
    have hy:=List.getElem?_eq_getElem hkl
    have hxy:=hnext k _ _ hx hy
    have hr1:=prRows_get hx
    have hr2:=prRows_get hy
    generalize q[k]=x at *
    generalize q[k+1]=y at *
    (repeat (first | refine cj_seq ?_ | refine cj_skip ?_ | refine cj_block ?_ | refine nj_then ?_))
    have hr1':∀ z:Int,z=((k+1:Nat):Int) - 1->(prRows q)[z.toNat]?=some (prCells x):=fun z hz=>by rw [hz,show (((k+1:Nat):Int) - 1).toNat=k by omega];exact hr1
    refine cj_cutN (fun (_:Unit)=>s5) (fun _=>[(3,.a .tt),(5,.a (.v (.slice oo A.length oc))),(6,.a (.v (.slice po kn pc))),(7,.a (.v (.int .i64 n))),(8,.a (.v (.slice qo q.length qc))),(9,.a (.v (.int .i64 m))),(10,.a (.v (.int .i64 (dz A)))),(11,.a (.v (.int .i64 (lvT A)))),(13,.a (.v (.int .i64 ((k+1:Nat):Int)))),(103,.a .ff)]) (fun _=>[]) (fun _=>[]) 0 (fun _=>True) ?_ (fun _ _=>?_)
    · refine cj_draw [(0,.pure),(1,.pure),(2,.pure),(3,.pure),(4,.pure),(5,.quiet),(6,.pure),(7,.pure),(8,.pure),(9,.pure),(10,.quiet),(11,.pure),(12,.pure),(13,.pure),(14,.pure),(15,.pure),(16,.pure),(17,.pure),(18,.quiet),(19,.pure),(20,.pure),(21,.pure),(22,.pure),(23,.quiet),(24,.pure),(25,.pure),(26,.pure),(27,.pure),(28,.pure),(29,.pure),(30,.pure),(31,.quiet),(32,.pure),(33,.pure),(34,.pure),(35,.pure),(36,.quiet),(37,.pure),(38,.pure),(39,.pure)] mixed (by kernel_rfl) (oj_run TT rfl ?_)
      refine oj_minus rfl rfl rfl rfl rfl rfl (by omega) (oj_run TT rfl ?_)
      refine oj_idx TT rfl rfl rfl rfl rfl rfl rfl rfl rfl HQ (by omega) (r:=prCells x) (hr1' _ rfl) (oj_run TT rfl ?_)
      refine oj_idx TT rfl rfl rfl rfl rfl rfl rfl rfl rfl HQ (by omega) (r:=prCells y) hr2 (oj_run TT rfl ?_)
      refine oj_split 76 rfl (fun h1=>absurd (of_decide_eq_true (show decide ((y.2:Int)<x.2)=true from h1)) (by omega)) (fun h1=>?_)
      refine oj_run TT rfl ?_
      refine oj_minus rfl rfl rfl rfl rfl rfl (by omega) (oj_run TT rfl ?_)
      refine oj_idx TT rfl rfl rfl rfl rfl rfl rfl rfl rfl HQ (by omega) (r:=prCells x) (hr1' _ rfl) (oj_run TT rfl ?_)
      refine oj_idx TT rfl rfl rfl rfl rfl rfl rfl rfl rfl HQ (by omega) (r:=prCells y) hr2 (oj_run TT rfl ?_)
      refine oj_split 89 rfl (fun h2=>?_) (fun h2=>?_)
      · have h2:=of_decide_eq_true (show decide ((x.2:Int)=y.2)=true from h2)
        refine oj_run TT rfl ?_
        refine oj_minus rfl rfl rfl rfl rfl rfl (by omega) (oj_run TT rfl ?_)
        refine oj_idx TT rfl rfl rfl rfl rfl rfl rfl rfl rfl HQ (by omega) (r:=prCells x) (hr1' _ rfl) (oj_run TT rfl ?_)
        refine oj_idx TT rfl rfl rfl rfl rfl rfl rfl rfl rfl HQ (by omega) (r:=prCells y) hr2 (oj_run TT rfl ?_)
        (repeat refine oj_nil ?_)
        refine nj_set 103 (.a .ff) rfl trivial (fun β=>by show Value.bool (decide ((y.1:Int)<=x.1))=Value.bool false;rw [decide_eq_false (by omega)]) ?_
        refine nj_again () trivial Nat.zero_lt_one rfl (by (repeat first | exact trivial | refine ⟨rfl,?_⟩)) (by (repeat first | exact trivial | refine ⟨rfl,?_⟩)) rfl (by (repeat' (first | exact trivial | constructor))) (by (repeat' exact trivial))
      · refine oj_run TT rfl ?_
        (repeat refine oj_nil ?_)
        refine nj_again () trivial Nat.zero_lt_one rfl (by (repeat first | exact trivial | refine ⟨rfl,?_⟩)) (by (repeat first | exact trivial | refine ⟨rfl,?_⟩)) rfl (by (repeat' (first | exact trivial | constructor))) (by (repeat' exact trivial))
    (repeat (first | refine cjr TT rfl ?_ | refine oj_nil ?_ | refine cj_if_f rfl ?_ | refine cj_skip ?_ | refine nj_then ?_ | refine nj_block ?_ | (refine oj_add rfl rfl rfl rfl rfl rfl (by omega) ?_;refine oj_run TT rfl ?_)))
    refine nj_again (k+1) trivial (by omega) rfl (by (repeat first | exact trivial | refine ⟨rfl,?_⟩)) (by (repeat first | exact trivial | refine ⟨rfl,?_⟩)) rfl (by (repeat' (first | exact trivial | constructor))) (by (repeat' exact trivial))
  have hdz:dz A<=A.length:=List.countP_le_length
  (repeat (first | refine cj_seq ?_ | refine cjr TT rfl ?_ | (refine oj_minus rfl rfl rfl rfl rfl rfl (by omega) ?_;refine oj_run TT rfl ?_)))
  refine oj_split 114 rfl (fun _=>?_) (fun h=>absurd (of_decide_eq_false (show decide ((kn:Int)=A.length - dz A)=false from h)) (by omega))
  refine oj_run TT rfl ?_
  refine oj_split 120 rfl (fun _=>?_) (fun h=>absurd (of_decide_eq_false (show decide ((q.length:Int)=lvT A)=false from h)) (by omega))
  refine oj_run TT rfl ?_
  refine oj_split 126 rfl (fun _=>?_) (fun h=>absurd (of_decide_eq_false (show decide ((n:Int)<=A.length)=false from h)) (by omega))
  refine oj_run TT rfl ?_
  (repeat (first | refine oj_then ?_ | refine cj_ret ?_))
  refine nj_ret TT rfl fun β w' _ _=>?_
  show Value.bool (decide ((m:Int)<=A.length))=_
  rw [decide_eq_true (by omega)]
end Go.Sy
/- From a row's data to what the walks ask: a value that is read in the world is a tree that lies in memory, all of it sealed. -/
namespace Go.Sy
open Go.ChangeShapes Go.RowKit
def snapOf (W:World):Snap:=fun b=>W.heap[b]?
theorem snapOf_sealed (W:World):Sealed (snapOf W) W:=fun _ _ h=>h
theorem snapOf_cell (W:World) (a:Addr):(snapOf W).cell a=W.cell? a:=rfl
structure VT (P:Program) (tV tL tM tE tD tS tI tB:TypeId):Prop where
  v:∃ fs:Array Field,P.underlying tV=some (.struct fs)/\fs.toList.map (fun f=>(f.type,f.offset))=[(tI,0),(tB,1),(tD,2),(tS,5),(tL,6),(tM,7)]
  l:P.underlying tL=some (.slice tV)
  m:P.underlying tM=some (.slice tE)
  e:∃ fs:Array Field,P.underlying tE=some (.struct fs)/\fs.toList.map (fun f=>(f.type,f.offset))=[(tS,0),(tV,1)]
  d:∃ fs:Array Field,P.underlying tD=some (.struct fs)/\fs.toList.map (fun f=>(f.type,f.offset))=[(tB,0),(tS,1),(tI,2)]
  s:P.underlying tS=some .string
  i:P.underlying tI=some (.int .i64)
  b:P.underlying tB=some .bool
  cV:P.cellsOf tV=8
  cE:P.cellsOf tE=9
  cD:P.cellsOf tD=3
  cS:P.cellsOf tS=1
  cI:P.cellsOf tI=1
  cB:P.cellsOf tB=1
  cL:P.cellsOf tL=1
  cM:P.cellsOf tM=1
  bV:0<P.bytesOf tV
  bE:0<P.bytesOf tE
section
variable {H:Type} {enc:TypeId×Value->H} {P:Program} {w:World} {sp:Nat->Bool} {held:Bool}
theorem field_at {fs:Array Field} {l:List (TypeId×Nat)} (h:fs.toList.map (fun f=>(f.type,f.offset))=l) {i:Nat} {t:TypeId} {o:Nat} (hi:l[i]?=some (t,o)) :
    ∃ f,fs[i]?=some f/\f.type=t/\f.offset=o:=by
  subst h
  rw [List.getElem?_map] at hi
  simp only [Option.map_eq_some_iff,Prod.mk.injEq] at hi
  obtain ⟨f,h1,h2,h3⟩:=hi
  exact ⟨f,by simpa using h1,h2,h3⟩
theorem open_struct {t:TypeId} {fs:Array Field} {l:List (TypeId×Nat)} {n:Nat} {cs:List Value} {x:DataW H×List MemPlace} (hu:P.underlying t=some (.struct fs)) (hl:fs.toList.map (fun f=>(f.type,f.offset))=l)
    (h:DataW.trod enc P w 0 sp held n t cs=some x) :
    ∃ m,m<n/\cs.length=P.cellsOf t/\∀ (i:Nat) (u:TypeId) (o:Nat),l[i]?=some (u,o)->∃ y:DataW H×List MemPlace,DataW.trod enc P w 0 sp held m u ((cs.drop o).take (P.cellsOf u))=some y/\∀ k∈y.1.weights P u,k∈x.1.weights P t:=by
  obtain ⟨xs,m,rfl,rfl,h1,h2,h3⟩:=DataW.trod_struct hu h
  refine ⟨m,by omega,h1,fun i u o hi=>?_⟩
  obtain ⟨f,hf,rfl,rfl⟩:=field_at hl hi
  have hi':i<xs.length:=by
    rw [h2]
    have:=(List.getElem?_eq_some_iff.1 (show fs.toList[i]?=some f by simpa using hf)).1
    simpa using this
  refine ⟨xs[i],by rw [h3 i f hf,List.getElem?_eq_getElem hi'],fun k hk=>?_⟩
  rw [DataW.weights.eq_def]
  simp only [hu]
  exact DataW.weights_mem_each (j:=i) (t:=f.type) (d:=xs[i].1) (by simp;exact ⟨f,by simpa using hf,rfl⟩) (by simp [List.getElem?_eq_getElem hi']) k hk
theorem weightsAll_mem {e:TypeId}:∀ {ds:List (DataW H)} {d:DataW H},d∈ds->∀ k∈d.weights P e,k∈DataW.weightsAll P e ds
  | _::_,_,.head _,k,hk=>by rw [DataW.weightsAll];exact List.mem_append_left _ hk
  | _::_,_,.tail _ h,k,hk=>by rw [DataW.weightsAll];exact List.mem_append_right _ (weightsAll_mem h k hk)
theorem open_sl {t e:TypeId} {n sz:Nat} {c:Value} {x:DataW H×List MemPlace} (hu:P.underlying t=some (.slice e)) (hc:P.cellsOf e=sz) (hb:0<P.bytesOf e) (h:DataW.trod enc P w 0 sp held n t [c]=some x)
    (hw:∀ k∈x.1.weights P t,k<=reachBytes) :
    ∃ (ao:Option Addr) (len cap m:Nat),c=.slice ao len cap/\m<n/\len<=cap/\len<=reachBytes /\
      (len=0\/∃ a,ao=some a/\∀ i,i<len->∃ (cs:List Value) (y:DataW H×List MemPlace),cs.length=sz/\(∀ j v,cs[j]?=some v->w.cell? (a.add (i*sz+j))=some v) /\
        DataW.trod enc P w 0 sp held m e cs=some y/\∀ k∈y.1.weights P e,k∈x.1.weights P t):=by
  rcases DataW.trod_slice hu h with ⟨h1,rfl⟩ | ⟨a,len,cap,elems,rest,m,rfl,h1,rfl,_,h3,h4,h5,h6,_,_⟩
  · injection h1 with h1
    subst h1
    refine ⟨none,0,0,0,rfl,?_,Nat.le_refl _,by decide,.inl rfl⟩
    cases n with
    | zero=>simp [DataW.trod] at h
    | succ n=>omega
  · injection h1 with h1
    subst h1
    have hwt:(DataW.slice (elems.map (·.1)) (rest.map (·.1)):DataW H).weights P t=((elems.map (·.1)).length+(rest.map (·.1)).length)*P.bytesOf e::(DataW.weightsAll P e (elems.map (·.1))++DataW.weightsAll P e (rest.map (·.1))):=by
      rw [DataW.weights.eq_def]
      simp only [hu]
    refine ⟨some a,len,cap,m,rfl,by omega,h3,?_,.inr ⟨a,rfl,fun i hi=>?_⟩⟩
    · have:=hw _ (by rw [hwt];exact List.mem_cons_self)
      simp only [List.length_map] at this
      have h7:elems.length<=(elems.length+rest.length)*P.bytesOf e:=Nat.le_trans (Nat.le_add_right _ _) (Nat.le_mul_of_pos_right _ hb)
      omega
    · have hi':i<elems.length:=by omega
      have h8:=h6 i hi
      rw [List.getElem?_eq_getElem hi',hc] at h8
      obtain ⟨cs,h9,h10⟩:=Option.bind_eq_some_iff.1 h8
      obtain ⟨_,h11,h12⟩:=World.cells?_some h9
      refine ⟨cs,elems[i],h11,fun j v hj=>?_,h10,fun k hk=>?_⟩
      · have hj':j<sz:=by rw [<-h11];exact (List.getElem?_eq_some_iff.1 hj).1
        have:=h12 j hj'
        rw [hj] at this
        rw [<-this]
        congr 1
        exact (Addr.add_add _ _ _).symm
      · rw [hwt]
        exact List.mem_cons_of_mem _ (List.mem_append_left _ (weightsAll_mem (List.mem_map.2 ⟨elems[i],List.getElem_mem hi',rfl⟩) k hk))
theorem RepL.range {σ:Snap} {G:Nat->GVal} {R:Nat->List AT}:∀ l:List Nat,(∀ i∈l,RepV σ (G i) (R i))->RepL σ (l.map G) (l.map R)
  | [],_=>by simp [RepL]
  | a::l,h=>by
    simp only [List.map_cons,RepL]
    exact ⟨R a,l.map R,rfl,h a List.mem_cons_self,RepL.range l fun i hi=>h i (List.mem_cons_of_mem _ hi)⟩
theorem keyRows_range (K:Nat->ByteArray) (R:Nat->List AT):∀ l:List Nat,keyRows (l.map K) (l.map R)=l.map fun i=>keyRow (K i) (R i)
  | []=>rfl
  | a::l=>by simp [keyRows,keyRows_range K R l]
theorem slAt_range {ao:Option Addr} {len cap sz:Nat} {R:Nat->List AT} (h1:len<=cap) (h2:∀ i,i<len->(R i).length=sz/\∀ c∈R i,c.lt 0)
    (h3:len=0\/∃ a,ao=some a/\∀ i,i<len->∀ j v,((R i).map (AT.den β0))[j]?=some v->w.cell? (a.add (i*sz+j))=some v):SlAt (snapOf w) ao len cap sz ((List.range len).map R):=by
  refine ⟨by simp,h1,fun r hr=>?_,?_⟩
  · obtain ⟨i,hi,rfl⟩:=List.mem_map.1 hr
    exact h2 i (List.mem_range.1 hi)
  · rcases h3 with h3 | ⟨a,h3,h4⟩
    · exact .inl h3
    · refine .inr ⟨a,h3,fun i r j c hr hc=>?_⟩
      rw [List.getElem?_map] at hr
      obtain ⟨i',h5,rfl⟩:=Option.map_eq_some_iff.1 hr
      obtain ⟨h6,h7⟩:=List.getElem?_eq_some_iff.1 h5
      have h8:i<len:=by simpa using h6
      have h9:i'=i:=by simpa using h7.symm
      subst h9
      rw [snapOf_cell]
      exact h4 i' h8 j _ (by rw [List.getElem?_map,hc];rfl)
variable {tV tL tM tE tD tS tI tB:TypeId}
theorem open_str {n:Nat} {t:TypeId} {c:Value} {x:DataW H×List MemPlace} (hu:P.underlying t=some .string) (h:DataW.trod enc P w 0 sp held n t [c]=some x) (hw:∀ k∈x.1.weights P t,k<=reachBytes) :
    ∃ s:ByteArray,c=.string s/\s.size<=mostLen:=by
  obtain ⟨s,h1,rfl,_⟩:=DataW.trod_string hu h
  injection h1 with h1
  subst h1
  refine ⟨s,rfl,?_⟩
  have:=hw s.data.toList.length (by rw [DataW.weights.eq_def];exact List.mem_cons_self)
  have h2:s.data.toList.length=s.size:=rfl
  rw [h2] at this
  exact this
theorem open_val (T:VT P tV tL tM tE tD tS tI tB):∀ (n:Nat) (cs:List Value) (x:DataW H×List MemPlace),DataW.trod enc P w 0 sp held n tV cs=some x->(∀ k∈x.1.weights P tV,k<=reachBytes) ->
    ∃ (g:GVal) (r:List AT),cs=r.map (AT.den β0)/\RepV (snapOf w) g r:=by
  intro n
  induction n using Nat.strongRecOn with
  | _ n ih=>?_
  intro cs x h hw
  obtain ⟨fs,hu,hl⟩:=T.v
  obtain ⟨m,hm,hlen,hf⟩:=open_struct hu hl h
  rw [T.cV] at hlen
  match cs,hlen with
  | [c0,c1,c2,c3,c4,c5,c6,c7],_ =>
  obtain ⟨y0,h0,_⟩:=hf 0 tI 0 rfl
  obtain ⟨y1,h1,_⟩:=hf 1 tB 1 rfl
  obtain ⟨y2,h2,w2⟩:=hf 2 tD 2 rfl
  obtain ⟨y3,h3,w3⟩:=hf 3 tS 5 rfl
  obtain ⟨y4,h4,w4⟩:=hf 4 tL 6 rfl
  obtain ⟨y5,h5,w5⟩:=hf 5 tM 7 rfl
  rw [T.cI] at h0
  rw [T.cB] at h1
  rw [T.cD] at h2
  rw [T.cS] at h3
  rw [T.cL] at h4
  rw [T.cM] at h5
  simp only [List.drop_zero,List.drop_succ_cons,List.take_succ_cons,List.take_zero] at h0 h1 h2 h3 h4 h5
  obtain ⟨k,e0,-,-⟩:=DataW.trod_int T.i h0
  obtain ⟨b,e1,-⟩:=DataW.trod_bool T.b h1
  obtain ⟨s,e5,hs⟩:=open_str T.s h3 fun k hk=>hw k (w3 k hk)
  obtain ⟨fd,hud,hld⟩:=T.d
  obtain ⟨md,hmd,-,hfd⟩:=open_struct hud hld h2
  obtain ⟨z0,g0,_⟩:=hfd 0 tB 0 rfl
  obtain ⟨z1,g1,v1⟩:=hfd 1 tS 1 rfl
  obtain ⟨z2,g2,_⟩:=hfd 2 tI 2 rfl
  rw [T.cB] at g0
  rw [T.cS] at g1
  rw [T.cI] at g2
  simp only [List.drop_zero,List.drop_succ_cons,List.take_succ_cons,List.take_zero] at g0 g1 g2
  obtain ⟨ng,e2,-⟩:=DataW.trod_bool T.b g0
  obtain ⟨dg,e3,hdg⟩:=open_str T.s g1 fun k hk=>hw k (w2 k (v1 k hk))
  obtain ⟨ex,e4,-,-⟩:=DataW.trod_int T.i g2
  injection e0 with e0
  injection e1 with e1
  injection e2 with e2
  injection e4 with e4
  subst e0 e1 e2 e3 e4 e5
  obtain ⟨la,ll,lc,ml,rfl,hml,hll,hlr,hle⟩:=open_sl T.l T.cV T.bV h4 fun k hk=>hw k (w4 k hk)
  obtain ⟨ma,lm,mc,mm,rfl,hmm,hlm,hmr,hme⟩:=open_sl T.m T.cE T.bE h5 fun k hk=>hw k (w5 k hk)
  have HL:∀ i,∃ gr:GVal×List AT,i<ll->RepV (snapOf w) gr.1 gr.2/\∀ a,la=some a->∀ j v,(gr.2.map (AT.den β0))[j]?=some v->w.cell? (a.add (i*8+j))=some v:=by
    intro i
    by_cases hi:i<ll
    · rcases hle with h0 | ⟨a,rfl,hle⟩
      · omega
      · obtain ⟨cs,y,_,q2,q3,q4⟩:=hle i hi
        obtain ⟨g,r,rfl,hr⟩:=ih ml (by omega) cs y q3 fun k hk=>hw k (w4 k (q4 k hk))
        exact ⟨(g,r),fun _=>⟨hr,fun a' ha=>by injection ha with ha;subst ha;exact q2⟩⟩
    · exact ⟨(.mk 0 false ⟨false,⟨#[]⟩,0⟩ ⟨#[]⟩ [] [] [],[]),fun h=>absurd h hi⟩
  have HM:∀ i,∃ gr:ByteArray×GVal×List AT,i<lm->gr.1.size<=mostLen/\RepV (snapOf w) gr.2.1 gr.2.2/\∀ a,ma=some a->∀ j v,((keyRow gr.1 gr.2.2).map (AT.den β0))[j]?=some v->w.cell? (a.add (i*9+j))=some v:=by
    intro i
    by_cases hi:i<lm
    · rcases hme with h0 | ⟨a,rfl,hme⟩
      · omega
      · obtain ⟨cs,y,q1,q2,q3,q4⟩:=hme i hi
        obtain ⟨fe,hue,hle'⟩:=T.e
        obtain ⟨me,hme',-,hfe⟩:=open_struct hue hle' q3
        obtain ⟨u0,p0,x0⟩:=hfe 0 tS 0 rfl
        obtain ⟨u1,p1,x1⟩:=hfe 1 tV 1 rfl
        rw [T.cS] at p0
        rw [T.cV] at p1
        match cs,q1 with
        | c::cs',q1 =>
          simp only [List.drop_zero,List.drop_succ_cons,List.take_succ_cons,List.take_zero] at p0 p1
          rw [List.take_of_length_le (by simp at q1;omega)] at p1
          obtain ⟨key,rfl,hk⟩:=open_str T.s p0 fun k hk=>hw k (w5 k (q4 k (x0 k hk)))
          obtain ⟨g,r,rfl,hr⟩:=ih me (by omega) cs' u1 p1 fun k hk=>hw k (w5 k (q4 k (x1 k hk)))
          exact ⟨(key,g,r),fun _=>⟨hk,hr,fun a' ha=>by injection ha with ha;subst ha;exact q2⟩⟩
    · exact ⟨(⟨#[]⟩,.mk 0 false ⟨false,⟨#[]⟩,0⟩ ⟨#[]⟩ [] [] [],[]),fun h=>absurd h hi⟩
  obtain ⟨FL,HL⟩:=Classical.axiomOfChoice HL
  obtain ⟨FM,HM⟩:=Classical.axiomOfChoice HM
  refine ⟨.mk k b ⟨ng,dg,ex⟩ s ((List.range ll).map fun i=>(FL i).1) ((List.range lm).map fun i=>(FM i).1) ((List.range lm).map fun i=>(FM i).2.1),
    [.v (.int .i64 k),.b b,.b ng,.v (.string dg),.v (.int .i64 ex),.v (.string s),.v (.slice la ll lc),.v (.slice ma lm mc)],rfl,?_⟩
  simp only [RepV]
  refine ⟨la,lc,(List.range ll).map fun i=>(FL i).2,ma,mc,(List.range lm).map fun i=>(FM i).2.2,by simp,?_,RepL.range _ fun i hi=>(HL i (List.mem_range.1 hi)).1,by simp,?_,RepL.range _ fun i hi=>(HM i (List.mem_range.1 hi)).2.1,hdg,hs,by simpa [mostLen,reachBytes] using hlr,by simpa [mostLen,reachBytes] using hmr,?_⟩
  · simp only [List.length_map,List.length_range]
    refine slAt_range hll (fun i hi=>⟨(HL i hi).1.len,(HL i hi).1.clo⟩) ?_
    rcases hle with h0 | ⟨a,rfl,_⟩
    · exact .inl h0
    · exact .inr ⟨a,rfl,fun i hi=>(HL i hi).2 a rfl⟩
  · rw [keyRows_range]
    simp only [List.length_map,List.length_range]
    refine slAt_range hlm (fun i hi=>⟨by simp [keyRow,(HM i hi).2.1.len],fun c hc=>?_⟩) ?_
    · cases hc with
      | head=>trivial
      | tail _ hc=>exact (HM i hi).2.1.clo c hc
    · rcases hme with h0 | ⟨a,rfl,_⟩
      · exact .inl h0
      · exact .inr ⟨a,rfl,fun i hi=>(HM i hi).2.2 a rfl⟩
  · intro key hk
    obtain ⟨i,hi,rfl⟩:=List.mem_map.1 hk
    exact (HM i (List.mem_range.1 hi)).1
end
end Go.Sy
/- The closing of a law's row, alike from law to law. -/
namespace Go.Sy
open Go.ChangeShapes Go.RowKit
section
variable {H:Type} {enc:TypeId×Value->H} {P:Program} {W W':World} {sp:Nat->Bool}
theorem trodAll_stays {T:TypeId->Prop} (K:_root_.Go.Kids P T) (hz:∀ t e,T t->P.underlying t=some (.slice e)->0<P.cellsOf e) :
    ∀ {ts:List TypeId} {vs:List Value} {ds:List (DataW H)} {ps:List MemPlace},(∀ t∈ts,T t)->DataW.TrodAll enc P W 0 (fun _=>true) true ts vs ds ps ->
      (∀ p∈ps,W.sameAt W' p)->(∀ p∈ps,sp p.block=true)->DataW.TrodAll enc P W' 0 sp true ts vs ds ps
  | [],[],[],_,_,h,_,_=>h
  | _::_,_::_,_::_,_,hT,⟨p,q,⟨n,h1⟩,h2,e⟩,hs,hb =>
    ⟨p,q,⟨n,DataW.trod_stays K (fun ht hu=>hz _ _ ht hu) (fun h=>by cases h) (hT _ List.mem_cons_self) h1 (fun x hx=>hs x (by rw [e];exact List.mem_append_left _ hx)) (fun x hx=>hb x (by rw [e];exact List.mem_append_left _ hx))⟩,
      trodAll_stays K hz (fun t ht=>hT t (List.mem_cons_of_mem _ ht)) h2 (fun x hx=>hs x (by rw [e];exact List.mem_append_right _ hx)) (fun x hx=>hb x (by rw [e];exact List.mem_append_right _ hx)),e⟩
theorem below_of_fr {M:Nat->Prop} {w w':World} (h:Fr M w w') (hM:∀ b,¬ M b):Below w.heap.size w w':=⟨h.os,h.tape,h.output,h.size,fun k hk=>h.block k hk (hM k)⟩
theorem post_of_law {f:Func} {s:ChangeSpec} {apart fresh handsOn again:Bool} {args:Array Value} {ds gs:List (DataW H)} {before:List MemPlace} {tB:TypeId}
    (hl:laidOutB P=true) (hm:mapsRowed P=true) (hz:∀ t e,t<P.types.size->P.underlying t=some (.slice e)->0<P.cellsOf e)
    (hts:∀ t∈f.params.toList,t<P.types.size) (hr:f.resultTypes=#[tB]) (hB:P.underlying tB=some .bool) (hv:s.vars=[])
    (hres:(s.fn H (ds++gs)).results=[.lit (.bool true)]) (hargs:(s.fn H (ds++gs)).args=ds) (hvars:(s.fn H (ds++gs)).vars=[])
    (hW:DataW.Whole enc P f.params.toList s.vars apart W args.toList ds gs before) (hb:Below W.heap.size W W') :
    s.post enc P f apart fresh handsOn again W args (.bool true) W':=by
  have hW':=hW
  obtain ⟨p,q,hA,hV,rfl,hfz,hnd⟩:=hW
  rw [hv] at hV
  obtain ⟨rfl,rfl⟩:=trodVars_none hV
  have hlt:∀ x∈p++([]:List MemPlace),x.block<W.heap.size:=fun x hx=>hW'.lt x hx
  have h1:∀ (b:Nat) (sp:Nat->Bool) (hd:Bool),DataW.TrodAll enc P W' b sp hd f.resultTypes.toList ((Value.bool true).resultList f.resultTypes.size) (s.fn H (ds++[])).results []:=by
    intro b sp hd
    rw [hr,hres]
    exact trodAll_mk1 (shut_bool hB true)
  have h2:∀ sp:Nat->Bool,(∀ x∈p++([]:List MemPlace),sp x.block=true)->DataW.TrodAll enc P W' 0 sp true f.params.toList args.toList (s.fn H (ds++[])).args p:=by
    intro sp hs
    rw [hargs]
    exact trodAll_stays (T:=(·<P.types.size)) (kids_rows hl hm) hz hts hA (fun x hx=>hb.same (hlt x (List.mem_append_left _ hx))) (fun x hx=>hs x (List.mem_append_left _ hx))
  have h3:∀ sp:Nat->Bool,DataW.TrodVars enc P W' sp s.vars (s.fn H (ds++[])).vars []:=by
    intro sp
    rw [hv,hvars]
    rfl
  have hold:∀ x∈p++([]:List MemPlace),(fun b=>decide (b<W.heap.size)) x.block=true:=fun x hx=>by simpa using hlt x hx
  refine ⟨ds,[],_,[],p,[],hW',h1 _ _ _,h2 _ hold,h3 _,hb.frame _,fun _=>⟨ok_one hr rfl (okWide_bool_mk hB _),_,_,([]++p)++[],⟨[]++p,[],trodAll_append (h2 _ (fun _ _=>rfl)) (h1 _ _ _),h3 _,rfl,?_,?_⟩,?_⟩⟩
  · intro b off hp
    have hp':MemPlace.cell b off∈p++([]:List MemPlace):=by simpa using hp
    rw [hb.frozen (p:=⟨b,off,none⟩) (hlt _ hp')]
    exact hfz b off hp'
  · intro ha
    have:=hnd ha
    simpa using this
  · intro x hp _
    simpa using hp
theorem okWide_agg {tV tL tM tE tD tS tI tB:TypeId} (T:VT P tV tL tM tE tD tS tI tB) {r:Reach} {base:Nat} {v:Value} (h:Value.okWide P W r base tV v):∃ cs:Array Value,v=.agg cs/\cs.size=P.cellsOf tV:=by
  obtain ⟨fs,hu,_⟩:=T.v
  unfold Value.okWide at h
  rw [hu] at h
  obtain ⟨cs,h1,h2,_⟩:=h
  exact ⟨cs,h1,h2⟩
theorem okWide_str {t:TypeId} (T:∃ fs,P.underlying t=some (.struct fs)) {r:Reach} {base:Nat} {v:Value} (h:Value.okWide P W r base t v):∃ (fs:Array Field) (_:P.underlying t=some (.struct fs)) (cs:Array Value),v=.agg cs/\cs.size=P.cellsOf t:=by
  obtain ⟨fs,hu⟩:=T
  unfold Value.okWide at h
  rw [hu] at h
  obtain ⟨cs,h1,h2,_⟩:=h
  exact ⟨fs,hu,cs,h1,h2⟩
theorem weights_le {ts:List TypeId} {ds:List (DataW H)} (h:(DataW.weightsEach P ts ds).all (·<=reachBytes)=true) {j:Nat} {t:TypeId} {d:DataW H} (ht:ts[j]?=some t) (hd:ds[j]?=some d):∀ k∈d.weights P t,k<=reachBytes:=by
  intro k hk
  have:=List.all_eq_true.1 h k (DataW.weights_mem_each ht hd k hk)
  simpa using this
end
end Go.Sy
