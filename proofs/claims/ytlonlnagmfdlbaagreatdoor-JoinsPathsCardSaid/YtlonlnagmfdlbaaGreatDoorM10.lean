/- Parts of the proof of CJoinsPaths: H2, H3, H4, H7, F34, F49, H8, H9, H10. No conditions. -/
import Derived.Test.YtlonlnagmfdlbaaGreatDoorM9
namespace Go.Sy
open Go.Proofs
def ItAt (σ:Snap) (g:Nat) (x:GItem):Prop:=∀ (j:Nat) c,(itCells x)[j]?=some c->σ.cell ⟨g,j,none⟩=some c.val
theorem ItAt.mono {σ σ':Snap} {g:Nat} {x:GItem} (h:ItAt σ g x) (hle:σ.le σ'):ItAt σ' g x:=fun j c hc=>hle.cell (h j c hc)
theorem ItAt.row {σ:Snap} {g:Nat} {x:GItem} (h:ItAt σ g x):∀ (j:Nat) c,(itCells x)[j]?=some c->σ.cell ((⟨g,0,none⟩:Addr).add j)=some (c.den β0):=fun j c hc=>by
  rw [add0]
  exact h j c hc
theorem ItAt.ld {σ:Snap} {g:Nat} {x:GItem} (h:ItAt σ g x):∀ (j:Nat) c,(itCells x)[j]?=some c->σ.cell ⟨g,0+j,none⟩=some c.val:=fun j c hc=>by
  rw [Nat.zero_add]
  exact h j c hc
theorem itAt_of {σ:Snap} {g cap e:Nat} {x:GItem} (hS:ArrSealed σ ⟨some ⟨g,0,none⟩,1,cap,e,5,(itCells x).map AT.val⟩):ItAt σ g x:=by
  rcases hS with ⟨h,_⟩ | ⟨g',h1,h2⟩
  · cases h
  · have h1:some (⟨g,0,none⟩:Addr)=some ⟨g',0,none⟩:=h1
    injection h1 with h1
    injection h1 with h1
    subst h1
    intro j c hc
    refine h2 j c.val ?_
    show ((itCells x).map AT.val)[j]?=_
    rw [List.getElem?_map,hc]
    rfl
set_option maxRecDepth 100000 in
set_option maxHeartbeats 1000000 in
theorem Sound1_c (σ:Snap) (g:Nat) (x y:GItem) (h:ItAt σ g x):PlainS Tryz.prog 96 [.agg (itCells y),.a (.v (.pointer (some ⟨g,0,none⟩)))] σ (fun v=>v=.bool (overI y x)):=by
  refine enter_p Tryz.func96 rfl rfl ⟨itCells_lt 0 y,trivial,trivial⟩ fun w=>?_
  (repeat (first | refine cj_seq ?_ | refine cjr TT rfl ?_ | refine oj_then ?_))
  refine oj_row 1 (itCells x) rfl (itCells_lt 0 x) h.row (oj_run TT rfl ?_)
  refine oj_callP rfl rfl rfl rfl rfl Tryz.call97 (by (repeat' (first | exact trivial | refine AllLt.of ?_ | constructor))) (over_c σ y x) fun v hv=>⟨.a (.b (overI y x)),trivial,hv.symm,?_⟩
  refine oj_run TT rfl ?_
  (repeat (first | refine oj_then ?_ | refine cj_ret ?_))
  refine nj_ret TT rfl fun β w' _ _=>?_
  rfl
structure SkS where
  k:Nat
  S:List GItem
  oo:Option Addr
  oc:Nat
def prevI (l:List GItem) (k:Nat):Option GItem:=(l.take k).getLast?
theorem prevI_succ {l:List GItem} {k:Nat} {x:GItem} (h:l[k]?=some x):prevI l (k+1)=some x:=by
  obtain ⟨hk,hx⟩:=List.getElem?_eq_some_iff.1 h
  unfold prevI
  rw [List.take_succ_eq_append_getElem hk,hx]
  simp
theorem prevI_pos {l:List GItem} {k:Nat} (hk:k<l.length) (h0:0<k):prevI l k=l[k - 1]?:=by
  obtain ⟨j,rfl⟩:∃ j,k=j+1:=⟨k - 1,by omega⟩
  rw [prevI_succ (List.getElem?_eq_getElem (by omega:j<l.length)),Nat.add_sub_cancel,List.getElem?_eq_getElem]
def badI (l:List GItem) (k:Nat) (x:GItem):Bool:=decide (x.en<=x.st)||badP (prevI l k) x
set_option maxRecDepth 100000 in
set_option maxHeartbeats 4000000 in
theorem Sound20_c (σ:Snap) (l:List GItem) (hl:l.length<=1000000) (ao:Option Addr) (cap:Nat) (H:SlAt σ ao l.length cap 5 (itRows l)) :
    PlainS Tryz.prog 33 [.a (.v (.slice ao l.length cap))] σ (fun v=>v=.bool (soundI l)):=by
  refine enter_p Tryz.func33 rfl rfl (by (repeat' (first | exact trivial | constructor))) fun w=>?_
  (repeat (first | refine cj_seq ?_ | refine cjr TT rfl ?_ | refine oj_then ?_ | refine cj_block ?_))
  refine cj_own 0 1 2 rfl (by (repeat' (first | exact trivial | refine AllLt.of ?_ | constructor))) rfl (by decide) fun gs=>?_
  refine cj_nilarr 71 5 ?_
  skip
  refine cj_loop2 (fun (s:Snap) (_:SkS)=>s) (fun _ t=>[(0,.a (.v (.slice ao l.length cap))),(3,.a (.v (.pointer (some ⟨gs,0,none⟩)))),(8,.a (.v (.slice ao l.length cap))),(9,.a (.v (.int .i64 l.length))),(10,.a (.v (.int .i64 (t.k:Nat))))])
    (fun _ _=>[]) (fun _ t=>[itK gs t.oo t.S.length t.oc t.k,itE t.oo t.oc t.S]) 0
    (fun s t=>σ.le s/\t.k<=l.length/\soundF t.S (prevI l t.k) (l.drop t.k)=soundI l/\t.S.length<=t.k/\t.S.length<=t.oc) (fun _ t=>l.length - t.k) σ ⟨0,[],none,0⟩ ⟨Snap.le_refl _,Nat.zero_le _,rfl,Nat.le_refl _,Nat.le_refl _⟩ rfl (by (repeat first | exact trivial | refine ⟨rfl,?_⟩)) (by (repeat first | exact trivial | refine ⟨rfl,?_⟩)) rfl (by (repeat' (first | exact trivial | constructor))) (by (repeat' exact trivial)) fun s ⟨k,S,oo,oc⟩ ⟨hle,hk,hp,hSk,hSc⟩=>?_
  dsimp only at hk hp hSk hSc ⊢
  have H:=H.mono hle
  (repeat (first | refine cj_seq ?_ | refine cjr TT rfl ?_ | refine oj_then ?_))
  refine cj_if rfl (fun h=>?_) (fun h=>?_)
  rotate_left
  · have hk0:k=l.length:=by have:=of_decide_eq_false h;omega
    rw [hk0,List.drop_length,soundF] at hp
    (repeat (first | refine cj_seq ?_ | refine cjr TT rfl ?_ | refine oj_then ?_ | refine cj_exit ?_ | refine cj_ret ?_ | refine nj_then ?_ | refine nj_then_exit ?_ | refine nj_block_out ?_))
    refine nj_ret TT rfl fun β w' _ _=>?_
    rw [<-hp]
    rfl
  have hkl:k<l.length:=by have:=of_decide_eq_true h;omega
  have hxk:l[k]?=some l[k]:=List.getElem?_eq_getElem hkl
  have hrow:=itRows_get hxk
  have hnext:=prevI_succ hxk
  rw [List.drop_eq_getElem_cons hkl,soundF] at hp
  generalize l[k]=x at *
  have hbd:∀ y,prevI l k=some y->badI l k x=(decide (x.en<=x.st)||!aheadI y x):=fun y hy=>by unfold badI;rw [hy];rfl
  have hp:(!badI l k x&&(!badT (popI (fun z=>overI z x) S) x&&soundF (popI (fun z=>overI z x) S++[x]) (some x) (l.drop (k+1))))=soundI l:=hp
  (repeat (first | refine cj_seq ?_ | refine cjr TT rfl ?_ | refine cj_skip ?_ | refine cj_block ?_ | refine nj_then ?_))
  refine oj_idx TT rfl rfl rfl rfl rfl rfl rfl rfl rfl H (by omega) hrow (oj_run TT rfl ?_)
  (repeat (first | refine cj_seq ?_ | refine oj_then ?_))
  refine cj_cutN (fun (_:Unit)=>s) (fun _=>[(0,.a (.v (.slice ao l.length cap))),(3,.a (.v (.pointer (some ⟨gs,0,none⟩)))),(5,.a (.p 1 0)),(8,.a (.v (.slice ao l.length cap))),(9,.a (.v (.int .i64 l.length))),(10,.a (.v (.int .i64 k))),(33,.a (.b (badI l k x)))])
    (fun _=>[(1,.loc 71,itCells x)]) (fun _=>[itK gs oo S.length oc k,itE oo oc S]) 2 (fun _=>True) ?_ (fun _ _=>?_)
  · refine cj_draw [(0,.pure),(1,.quiet),(2,.pure),(3,.quiet),(4,.pure),(5,.pure),(6,.pure),(7,.pure),(8,.pure),(9,.pure),(10,.pure),(11,.pure),(12,.pure),(13,.quiet),(14,.quiet),(15,.keep),(16,.pure),(17,.pure),(18,.pure)] mixed (by kernel_rfl) (oj_run TT rfl ?_)
    refine oj_split 20 rfl (fun h1=>?_) (fun h1=>?_)
    · have h1:decide (x.en<=x.st)=true:=h1
      refine oj_run TT rfl ?_
      (repeat refine oj_nil ?_)
      refine nj_set 33 (.a (.b (badI l k x))) rfl trivial (fun β=>by show Value.bool true=Value.bool _;unfold badI;rw [h1];rfl) ?_
      refine nj_again () trivial Nat.zero_lt_one rfl (by (repeat first | exact trivial | refine ⟨rfl,?_⟩)) (by (repeat first | exact trivial | refine ⟨rfl,?_⟩)) rfl (by (repeat' (first | exact trivial | exact Nat.le_of_ble_eq_true rfl | constructor))) (by (repeat' (first | exact trivial | exact Nat.le_of_ble_eq_true rfl | refine AllLt.of ?_ | constructor)))
    · have h1:decide (x.en<=x.st)=false:=h1
      refine oj_run TT rfl ?_
      refine oj_split 23 rfl (fun h2=>?_) (fun h2=>?_)
      · have h2:decide (0<(k:Int))=true:=h2
        have h2:=of_decide_eq_true h2
        have hpr:=prevI_pos hkl (by omega)
        rw [List.getElem?_eq_getElem (by omega)] at hpr
        have hrow2:=itRows_get (List.getElem?_eq_getElem (show k - 1<l.length by omega))
        generalize l[k - 1]=y at *
        refine oj_run TT rfl ?_
        refine oj_minus rfl rfl rfl rfl rfl rfl (by omega) (oj_run TT rfl ?_)
        refine oj_idx TT rfl rfl rfl rfl rfl rfl rfl rfl rfl H (by omega) (r:=itCells y) (by rw [show ((k:Int) - 1).toNat=k - 1 by omega];exact hrow2) (oj_run TT rfl ?_)
        refine oj_callP rfl rfl rfl rfl rfl Tryz.call94 (by (repeat' (first | exact trivial | refine AllLt.of ?_ | constructor))) (ahead_c s y x) fun v hv=>⟨.a (.b (aheadI y x)),trivial,hv.symm,?_⟩
        refine oj_run TT rfl ?_
        (repeat refine oj_nil ?_)
        refine nj_set 33 (.a (.b (badI l k x))) rfl trivial (fun β=>by show Value.bool (!aheadI y x)=Value.bool _;rw [hbd y hpr,h1,Bool.false_or]) ?_
        refine nj_again () trivial Nat.zero_lt_one rfl (by (repeat first | exact trivial | refine ⟨rfl,?_⟩)) (by (repeat first | exact trivial | refine ⟨rfl,?_⟩)) rfl (by (repeat' (first | exact trivial | exact Nat.le_of_ble_eq_true rfl | constructor))) (by (repeat' (first | exact trivial | exact Nat.le_of_ble_eq_true rfl | refine AllLt.of ?_ | constructor)))
      · have h2:decide (0<(k:Int))=false:=h2
        have h2:=of_decide_eq_false h2
        have hk0:k=0:=by omega
        refine oj_run TT rfl ?_
        (repeat refine oj_nil ?_)
        refine nj_set 33 (.a (.b (badI l k x))) rfl trivial (fun β=>by show Value.bool false=Value.bool _;unfold badI;rw [h1,hk0];rfl) ?_
        refine nj_again () trivial Nat.zero_lt_one rfl (by (repeat first | exact trivial | refine ⟨rfl,?_⟩)) (by (repeat first | exact trivial | refine ⟨rfl,?_⟩)) rfl (by (repeat' (first | exact trivial | exact Nat.le_of_ble_eq_true rfl | constructor))) (by (repeat' (first | exact trivial | exact Nat.le_of_ble_eq_true rfl | refine AllLt.of ?_ | constructor)))
  clear hbd
  skip
  refine cj_if rfl (fun h=>?_) (fun h=>?_)
  · have h:badI l k x=true:=h
    rw [h] at hp
    (repeat (first | refine cj_seq ?_ | refine cjr TT rfl ?_ | refine oj_then ?_ | refine cj_ret ?_ | refine nj_then_ret ?_ | refine nj_block_ret ?_))
    refine nj_ret TT rfl fun β w' _ _=>?_
    rw [<-hp]
    rfl
  have h:badI l k x=false:=h
  rw [h] at hp
  refine cj_own 1 1 5 rfl (itCells_lt 0 x) rfl (by decide) fun g=>?_
  refine cj_seal 2 rfl rfl fun s1 hle1 hS1=>?_
  have hx:=itAt_of hS1
  have hfn:(SV.a (.fn (.func 96) [.val (.pointer (some ⟨g,0,none⟩))])).lt 0:=by
    intro p hp
    rw [List.mem_singleton] at hp
    subst hp
    trivial
  (repeat (first | refine cj_seq ?_ | refine cjr TT rfl ?_ | refine cj_skip ?_ | refine nj_then ?_))
  refine oj_callF [0,1] (A0:=[itK gs oo S.length oc k,itE oo oc S]) (Ar:=[]) rfl rfl rfl rfl rfl rfl rfl Tryz.call95 ⟨trivial,hfn,trivial⟩ (itPop_c s1 gs oo oc k S (by omega) hSc 96 [.val (.pointer (some ⟨g,0,none⟩))] ⟨trivial,trivial⟩ Tryz.call96 (fun y=>overI y x) (fun y _=>Sound1_c s1 g x y hx) hfn) fun v s2 A2 hle2 ⟨hv,hA⟩=>⟨.tup [],(by (repeat' (first | exact trivial | refine SV.lt_tup ?_))),hv.symm,?_⟩
  subst hA
  have hx:=hx.mono hle2
  have hP:=(popI_sub (fun y=>overI y x) S).length_le
  generalize popI (fun y=>overI y x) S=P at *
  refine oj_run TT rfl ?_
  (repeat (first | refine cj_seq ?_ | refine oj_then ?_))
  refine cj_cutN (fun (_:Unit)=>s2) (fun _=>[(0,.a (.v (.slice ao l.length cap))),(3,.a (.v (.pointer (some ⟨gs,0,none⟩)))),(5,.a (.v (.pointer (some ⟨g,0,none⟩)))),(8,.a (.v (.slice ao l.length cap))),(9,.a (.v (.int .i64 l.length))),(10,.a (.v (.int .i64 k))),(59,.a (.b (badT P x)))])
    (fun _=>[]) (fun _=>[itK gs oo P.length oc k,itE oo oc P]) 0 (fun _=>True) ?_ (fun _ _=>?_)
  · refine cj_draw [(0,.pure),(1,.pure),(2,.pure),(3,.quiet),(4,.pure),(5,.pure),(6,.pure),(7,.pure),(8,.pure),(9,.pure),(10,.quiet),(11,.pure),(12,.pure),(13,.pure),(14,.quiet),(15,.pure),(16,.pure),(17,.pure),(18,.quiet),(19,.quiet),(20,.keep),(21,.pure),(22,.pure)] mixed (by kernel_rfl) (oj_run TT rfl ?_)
    refine oj_ldA 0 (c:=.v (.slice oo P.length oc)) TT rfl rfl rfl rfl rfl rfl rfl rfl rfl rfl rfl trivial (oj_run TT rfl ?_)
    refine oj_split 43 rfl (fun h=>?_) (fun h=>?_)
    rotate_left
    · have h0:P=[]:=by
        have h:decide (0<(P.length:Int))=false:=h
        have:=of_decide_eq_false h
        exact List.eq_nil_of_length_eq_zero (by omega)
      subst h0
      refine oj_run TT rfl ?_
      (repeat refine oj_nil ?_)
      refine nj_set 59 (.a (.b (badT [] x))) rfl trivial (fun β=>rfl) ?_
      refine nj_again () trivial Nat.zero_lt_one rfl (by (repeat first | exact trivial | refine ⟨rfl,?_⟩)) (by (repeat first | exact trivial | refine ⟨rfl,?_⟩)) rfl (by (repeat' (first | exact trivial | constructor))) (by (repeat' exact trivial))
    have h:decide (0<(P.length:Int))=true:=h
    have hne:P≠[]:=by
      intro h0
      subst h0
      cases h
    obtain ⟨P0,y,rfl⟩:∃ P0 y,P=P0++[y]:=⟨P.dropLast,P.getLast hne,(List.dropLast_concat_getLast hne).symm⟩
    have hlen:(P0++[y]).length=P0.length+1:=by simp
    have htop:(P0++[y])[P0.length]?=some y:=by simp
    refine oj_run TT rfl ?_
    refine oj_ldA 0 (c:=.v (.slice oo (P0++[y]).length oc)) TT rfl rfl rfl rfl rfl rfl rfl rfl rfl rfl rfl trivial (oj_run TT rfl ?_)
    refine oj_ldA 0 (c:=.v (.slice oo (P0++[y]).length oc)) TT rfl rfl rfl rfl rfl rfl rfl rfl rfl rfl rfl trivial (oj_run TT rfl ?_)
    refine oj_minus rfl rfl rfl rfl rfl rfl (by omega) (oj_run TT rfl ?_)
    refine oj_arrAt 1 (E:=itE oo oc (P0++[y])) rfl (by show 0<(P0++[y]).length;omega) fun g1 hg1=>?_
    have hg1:oo=some ⟨g1,0,none⟩:=hg1
    subst hg1
    refine oj_indexAddr TT rfl rfl rfl rfl rfl rfl rfl rfl rfl ⟨by omega,by omega⟩ (oj_run TT rfl ?_)
    refine oj_ldAs 1 (off:=P0.length*5) TT (itCells y) rfl rfl rfl rfl rfl ?_ rfl rfl rfl rfl rfl ?_ (itCells_lt _ _) (oj_run TT rfl ?_)
    · show some (SV.a (AT.v (.pointer (some (Addr.add ⟨g1,0,none⟩ (((((P0++[y]).length:Nat):Int) - 1).toNat*5))))))=_
      rw [add0,show ((((P0++[y]).length:Nat):Int) - 1).toNat=P0.length by rw [hlen];omega]
    · intro j c hj
      exact itXs_get htop hj
    refine oj_ldSs TT (itCells x) rfl rfl rfl rfl rfl rfl rfl rfl rfl hx.ld (itCells_lt 0 x) (oj_run TT rfl ?_)
    refine oj_callP rfl rfl rfl rfl rfl Tryz.call98 (by (repeat' (first | exact trivial | refine AllLt.of ?_ | constructor))) (holds_c s2 y x) fun v hv=>⟨.a (.b (holdsI y x)),trivial,hv.symm,?_⟩
    refine oj_run TT rfl ?_
    (repeat refine oj_nil ?_)
    refine nj_set 59 (.a (.b (badT (P0++[y]) x))) rfl trivial (fun β=>by show Value.bool (!holdsI y x)=Value.bool _;unfold badT;rw [List.getLast?_concat]) ?_
    refine nj_again () trivial Nat.zero_lt_one rfl (by (repeat first | exact trivial | refine ⟨rfl,?_⟩)) (by (repeat first | exact trivial | refine ⟨rfl,?_⟩)) rfl (by (repeat' (first | exact trivial | constructor))) (by (repeat' exact trivial))
  skip
  refine cj_if rfl (fun h2=>?_) (fun h2=>?_)
  · have h2:badT P x=true:=h2
    rw [h2] at hp
    (repeat (first | refine cj_seq ?_ | refine cjr TT rfl ?_ | refine oj_then ?_ | refine cj_ret ?_ | refine nj_then_ret ?_ | refine nj_block_ret ?_))
    refine nj_ret TT rfl fun β w' _ _=>?_
    rw [<-hp]
    rfl
  have h2:badT P x=false:=h2
  rw [h2] at hp
  (repeat (first | refine cjr TT rfl ?_ | refine cj_skip ?_ | refine nj_then ?_))
  refine oj_ldSs TT (itCells x) rfl rfl rfl rfl rfl rfl rfl rfl rfl hx.ld (itCells_lt 0 x) (oj_run TT rfl ?_)
  refine oj_callF [0,1] (A0:=[itK gs oo P.length oc k,itE oo oc P]) (Ar:=[]) rfl rfl rfl rfl rfl rfl rfl Tryz.call99 ⟨trivial,itCells_lt 0 x,trivial⟩ (itPush_c s2 gs oo oc k P x (by omega) (by omega) (by omega)) fun v s3 A3 hle3 ⟨hv,oo',oc',hoc',hA⟩=>⟨.tup [],(by (repeat' (first | exact trivial | refine SV.lt_tup ?_))),hv.symm,?_⟩
  subst hA
  refine oj_run TT rfl ?_
  (repeat (first | refine cjr TT rfl ?_ | refine oj_nil ?_ | refine nj_then ?_ | refine nj_block ?_ | (refine oj_add rfl rfl rfl rfl rfl rfl (by omega) ?_;refine oj_run TT rfl ?_)))
  have hp:soundF (P++[x]) (prevI l (k+1)) (l.drop (k+1))=soundI l:=by
    rw [hnext,<-hp]
    rfl
  have hlen:(P++[x]).length=P.length+1:=by simp
  refine nj_again (s3,(⟨k+1,P++[x],oo',oc'⟩:SkS)) ⟨Snap.le_trans hle (Snap.le_trans hle1 (Snap.le_trans hle2 hle3)),by dsimp only;omega,hp,by dsimp only;omega,by dsimp only;omega⟩ (by dsimp only;omega) rfl (by (repeat first | exact trivial | refine ⟨rfl,?_⟩)) (by (repeat first | exact trivial | refine ⟨rfl,?_⟩)) ?_ (by (repeat' (first | exact trivial | constructor))) (by (repeat' exact trivial))
  show [_,_]=[_,_]
  dsimp only
  rw [hlen]
  rfl
end Go.Sy
namespace Go.Sy
open Go.Proofs
set_option maxRecDepth 100000 in
set_option maxHeartbeats 1000000 in
theorem Sweep1_c (σ:Snap) (g:Nat) (x:GItem) (z:OI) (h:ItAt σ g x):PlainS Tryz.prog 160 [.agg (opCells z),.a (.v (.pointer (some ⟨g,0,none⟩)))] σ (fun v=>v=.bool (overI z.1 x)):=by
  refine enter_p Tryz.func160 rfl rfl ⟨opCells_lt 0 z,trivial,trivial⟩ fun w=>?_
  (repeat (first | refine cj_seq ?_ | refine cjr TT rfl ?_ | refine oj_then ?_))
  refine oj_row 1 (itCells x) rfl (itCells_lt 0 x) h.row (oj_run TT rfl ?_)
  refine oj_callP rfl rfl rfl rfl rfl Tryz.call97 (by (repeat' (first | exact trivial | refine AllLt.of ?_ | constructor))) (over_c σ z.1 x) fun v hv=>⟨.a (.b (overI z.1 x)),trivial,hv.symm,?_⟩
  refine oj_run TT rfl ?_
  (repeat (first | refine oj_then ?_ | refine cj_ret ?_))
  refine nj_ret TT rfl fun β w' _ _=>?_
  rfl
set_option maxRecDepth 100000 in
set_option maxHeartbeats 1000000 in
theorem Sweep2_c (σ:Snap) (g:Nat) (x:GItem) (z:OI) (h:ItAt σ g x):PlainS Tryz.prog 162 [.agg (opCells z),.a (.v (.pointer (some ⟨g,0,none⟩)))] σ (fun v=>v=.bool (overI z.1 x)):=by
  refine enter_p Tryz.func162 rfl rfl ⟨opCells_lt 0 z,trivial,trivial⟩ fun w=>?_
  (repeat (first | refine cj_seq ?_ | refine cjr TT rfl ?_ | refine oj_then ?_))
  refine oj_row 1 (itCells x) rfl (itCells_lt 0 x) h.row (oj_run TT rfl ?_)
  refine oj_callP rfl rfl rfl rfl rfl Tryz.call97 (by (repeat' (first | exact trivial | refine AllLt.of ?_ | constructor))) (over_c σ z.1 x) fun v hv=>⟨.a (.b (overI z.1 x)),trivial,hv.symm,?_⟩
  refine oj_run TT rfl ?_
  (repeat (first | refine oj_then ?_ | refine cj_ret ?_))
  refine nj_ret TT rfl fun β w' _ _=>?_
  rfl
structure SwS (α:Type) where
  k:Nat
  i:Nat
  S:List OI
  oo:Option Addr
  oc:Nat
  st:α
theorem swept_le {a:List GItem} {i:Nat} {y:Option GItem} {S:List OI} (h:Swept a i y S):S.length<=i:=by
  cases y with
  | none =>
    obtain ⟨rfl,rfl⟩:=h.none_ rfl
    exact Nat.le_refl _
  | some y =>
    obtain ⟨rfl,-⟩:=h.some_ y rfl
    refine Nat.le_trans (List.length_filter_le _ _) ?_
    rw [List.length_take]
    omega
theorem fnLt1 (f:FuncId) (g:Nat):(SV.a (.fn (.func f) [.val (.pointer (some ⟨g,0,none⟩))])).lt 0:=by
  intro p hp
  rw [List.mem_singleton] at hp
  subst hp
  trivial
theorem conc_caps {f:FuncId} {caps:List PT} (hlt:(SV.a (.fn (.func f) caps)).lt 0) (h g:Nat):caps.map (concP h g)=caps:=by
  conv=>rhs;rw [<-List.map_id caps]
  refine List.map_congr_left fun p hp=>?_
  cases p with
  | val x=>rfl
  | loc i o=>exact absurd (hlt _ hp) (Nat.not_lt_zero _)
set_option maxRecDepth 100000 in
set_option maxHeartbeats 4000000 in
theorem sweep_c {α:Type} (σ:Snap) (a d:List GItem) (ha:a.length<=100000) (hd:d.length<=100000) (ao:Option Addr) (ac:Nat) (HA:SlAt σ ao a.length ac 5 (itRows a)) (bo:Option Addr) (bc:Nat) (HD:SlAt σ bo d.length bc 5 (itRows d))
    (hLa:Lam a) (hLd:Lam d) (f:FuncId) (caps:List PT) (hcap:LtAll (caps.map ptSV)) (hcall:∀ args w,(callFunc f args).run Tryz.prog w=.ok (.enter f args) w) (hlt:(SV.a (.fn (.func f) caps)).lt 0)
    (X Y:α->AE) (R:Nat->α->Prop) (st0:α) (h0:R 0 st0)
    (hf:∀ (σ':Snap) (k i:Nat) (x:GItem) (st:α) (so:Option Addr) (sc:Nat),σ.le σ'->d[k]?=some x->R k st->(∀ z,a[i]?=some z->aheadI z x=false)->(openAt a i x).length<=a.length->(openAt a i x).length<=sc ->
      FnS Tryz.prog f (.a (.v (.int .i64 k))::.a (.v (.slice so (openAt a i x).length sc))::caps.map ptSV) σ' [opE so sc (openAt a i x),X st,Y st] (fun v _ A'=>v=.tuple #[]/\∃ st',R (k+1) st'/\A'=[opE so sc (openAt a i x),X st',Y st'])) :
    FnS Tryz.prog 85 [.a (.v (.slice ao a.length ac)),.a (.v (.slice bo d.length bc)),.a (.fn (.func f) caps)] σ [X st0,Y st0] (fun v _ A'=>∃ n:Nat,v=.int .i64 n/\n<=a.length/\∃ st',R d.length st'/\A'=[X st',Y st']):=by
  refine enter_f Tryz.func85 rfl rfl ⟨trivial,trivial,hlt,trivial⟩ fun w=>?_
  (repeat (first | refine cj_seq ?_ | refine cjr TT rfl ?_ | refine oj_then ?_ | refine cj_block ?_))
  have hlt2:=SV.lt_mono (Nat.zero_le 2) hlt
  have h12:1<2:=by decide
  refine cj_own 0 1 2 rfl (by (repeat' (first | exact trivial | refine AllLt.of ?_ | constructor))) rfl (by decide) fun gs=>?_
  refine cj_set 2 (.a (.fn (.func f) caps)) rfl (SV.lt_mono (Nat.zero_le _) hlt) (fun β=>by show SV.den β (.a (.fn (.func f) (caps.map (concP 0 gs))))=_;rw [conc_caps hlt]) ?_
  refine cj_nilarr 169 6 ?_
  refine cj_re [2,3,0,1] (A':=[opK gs none 0 0 0,opE none 0 [],X st0,Y st0]) rfl rfl ?_
  skip
  refine cj_loop2 (fun (s:Snap) (_:SwS α)=>s) (fun _ t=>[(0,.a (.v (.slice ao a.length ac))),(1,.a (.v (.slice bo d.length bc))),(2,.a (.fn (.func f) caps)),(7,.a (.v (.pointer (some ⟨gs,0,none⟩)))),(8,.a (.v (.int .i64 (t.i:Nat)))),(14,.a (.v (.slice bo d.length bc))),(15,.a (.v (.int .i64 d.length))),(16,.a (.v (.int .i64 (t.k:Nat))))])
    (fun _ _=>[]) (fun _ t=>[opK gs t.oo t.S.length t.oc t.i,opE t.oo t.oc t.S,X t.st,Y t.st]) 0
    (fun s t=>σ.le s/\t.k<=d.length/\t.i<=a.length/\Swept a t.i (prevI d t.k) t.S/\(∀ y z,prevI d t.k=some y->a[t.i]?=some z->aheadI z y=false)/\t.S.length<=t.oc/\R t.k t.st) (fun _ t=>d.length - t.k) σ ⟨0,0,[],none,0,st0⟩
    ⟨Snap.le_refl _,Nat.zero_le _,Nat.zero_le _,Swept.start a,fun y z h=>(by cases h),Nat.le_refl _,h0⟩ rfl (by (repeat first | exact trivial | refine ⟨rfl,?_⟩)) (by (repeat first | exact trivial | refine ⟨rfl,?_⟩)) rfl ⟨trivial,trivial,hlt,trivial,trivial,trivial,trivial,trivial,trivial⟩ trivial fun s ⟨k,i,S,oo,oc,st⟩ ⟨hle,hk,hi,hsw,hai,hSc,hR⟩=>?_
  dsimp only at hk hi hsw hai hSc hR ⊢
  have HA:=HA.mono hle
  have HD:=HD.mono hle
  have hSi:=swept_le hsw
  (repeat (first | refine cj_seq ?_ | refine cjr TT rfl ?_ | refine oj_then ?_))
  refine cj_if rfl (fun h=>?_) (fun h=>?_)
  rotate_left
  · have hk0:k=d.length:=by have:=of_decide_eq_false h;omega
    subst hk0
    (repeat (first | refine cj_seq ?_ | refine cjr TT rfl ?_ | refine cj_exit ?_ | refine nj_then ?_ | refine nj_then_exit ?_ | refine nj_block_out ?_))
    refine oj_ldA 0 (c:=.v (.int .i64 i)) TT rfl rfl rfl rfl rfl rfl rfl rfl rfl rfl rfl trivial (oj_run TT rfl ?_)
    (repeat (first | refine oj_then ?_ | refine cj_ret ?_))
    refine nj_re [2,3] (A':=[X st,Y st]) rfl rfl ?_
    refine nj_fret TT rfl fun β w' _ _=>?_
    exact ⟨i,rfl,hi,st,hR,rfl⟩
  have hkl:k<d.length:=by have:=of_decide_eq_true h;omega
  have hxk:d[k]?=some d[k]:=List.getElem?_eq_getElem hkl
  have hrow:=itRows_get hxk
  have hnext:=prevI_succ hxk
  have hyx:∀ y,prevI d k=some y->aheadI y d[k]=true:=by
    intro y hy
    by_cases hk0:k=0
    · rw [hk0] at hy;cases hy
    · rw [prevI_pos hkl (by omega)] at hy
      exact (hLd.get (by omega) hy hxk).1
  have hxse:=hLd.se d[k] (List.getElem_mem hkl)
  generalize d[k]=x at *
  (repeat (first | refine cj_seq ?_ | refine cjr TT rfl ?_ | refine cj_skip ?_ | refine cj_block ?_ | refine nj_then ?_))
  refine oj_idx TT rfl rfl rfl rfl rfl rfl rfl rfl rfl HD (by omega) hrow (oj_run TT rfl ?_)
  (repeat (first | refine cj_seq ?_ | refine oj_then ?_ | refine cj_block ?_))
  refine cj_cutB (fun (t:Snap×SwS α)=>t.1) (fun t=>[(0,.a (.v (.slice ao a.length ac))),(1,.a (.v (.slice bo d.length bc))),(2,.a (.fn (.func f) caps)),(7,.a (.v (.pointer (some ⟨gs,0,none⟩)))),(8,.a (.v (.int .i64 (t.2.i:Nat)))),(9,.a (.v (.int .i64 k))),(10,.a (.p 1 0)),(14,.a (.v (.slice bo d.length bc))),(15,.a (.v (.int .i64 d.length))),(16,.a (.v (.int .i64 k)))])
    (fun _=>[(1,.loc 71,itCells x)]) (fun t=>[opK gs t.2.oo t.2.S.length t.2.oc t.2.i,opE t.2.oo t.2.oc t.2.S,X st,Y st]) 2
    (fun t=>s.le t.1/\t.2.i<=a.length/\(∃ y,Swept a t.2.i y t.2.S/\∀ y',y=some y'->aheadI y' x=true)/\(∀ z,a[t.2.i]?=some z->aheadI z x=false)/\t.2.S.length<=t.2.oc) ?_ (fun t ht=>?_)
  · refine cj_loop2 (fun (s':Snap) (_:SwS α)=>s') (fun _ t=>[(0,.a (.v (.slice ao a.length ac))),(1,.a (.v (.slice bo d.length bc))),(2,.a (.fn (.func f) caps)),(7,.a (.v (.pointer (some ⟨gs,0,none⟩)))),(8,.a (.v (.int .i64 (t.i:Nat)))),(9,.a (.v (.int .i64 k))),(10,.a (.p 1 0)),(14,.a (.v (.slice bo d.length bc))),(15,.a (.v (.int .i64 d.length))),(16,.a (.v (.int .i64 k)))])
      (fun _ _=>[(1,.loc 71,itCells x)]) (fun _ t=>[opK gs t.oo t.S.length t.oc t.i,opE t.oo t.oc t.S,X st,Y st]) 2
      (fun s' t=>s.le s'/\t.i<=a.length/\(∃ y,Swept a t.i y t.S/\(∀ y',y=some y'->aheadI y' x=true)/\∀ y' z,y=some y'->a[t.i]?=some z->aheadI z y'=false)/\t.S.length<=t.oc) (fun _ t=>a.length - t.i) s ⟨k,i,S,oo,oc,st⟩
      ⟨Snap.le_refl _,hi,⟨_,hsw,hyx,hai⟩,hSc⟩ rfl (by (repeat first | exact trivial | refine ⟨rfl,?_⟩)) (by (repeat first | exact trivial | refine ⟨rfl,?_⟩)) rfl ⟨trivial,trivial,hlt2,trivial,trivial,trivial,h12,trivial,trivial,trivial,trivial⟩ (by (repeat' (first | exact trivial | exact Nat.le_of_ble_eq_true rfl | refine AllLt.of ?_ | constructor))) fun s' ⟨_,i,S,oo,oc,_⟩ ⟨hle',hi,⟨y,hsw,hyx,hyz⟩,hSc⟩=>?_
    dsimp only at hi hsw hyz hSc ⊢
    have HA:=HA.mono hle'
    have hSi:=swept_le hsw
    (repeat refine cj_seq ?_)
    refine cj_cutN (fun (_:Unit)=>s') (fun _=>[(0,.a (.v (.slice ao a.length ac))),(1,.a (.v (.slice bo d.length bc))),(2,.a (.fn (.func f) caps)),(7,.a (.v (.pointer (some ⟨gs,0,none⟩)))),(8,.a (.v (.int .i64 (i:Nat)))),(9,.a (.v (.int .i64 k))),(10,.a (.p 1 0)),(14,.a (.v (.slice bo d.length bc))),(15,.a (.v (.int .i64 d.length))),(16,.a (.v (.int .i64 k))),(32,.a (.b (match a[i]? with | some z=>aheadI z x | none=>false)))])
      (fun _=>[(1,.loc 71,itCells x)]) (fun _=>[opK gs oo S.length oc i,opE oo oc S,X st,Y st]) 2 (fun _=>True) ?_ (fun _ _=>?_)
    · refine cj_draw [(0,.pure),(1,.pure),(2,.pure),(3,.pure),(4,.pure),(5,.pure),(6,.pure),(7,.pure),(8,.quiet),(9,.quiet),(10,.keep),(11,.pure)] mixed (by kernel_rfl) (oj_run TT rfl ?_)
      refine oj_split 25 rfl (fun h=>?_) (fun h=>?_)
      · have h:decide ((i:Int)<a.length)=true:=h
        have hil:i<a.length:=by have:=of_decide_eq_true h;omega
        have hrow:=itRows_get (List.getElem?_eq_getElem hil)
        rw [List.getElem?_eq_getElem hil]
        generalize a[i]=z at *
        refine oj_run TT rfl ?_
        refine oj_idx TT rfl rfl rfl rfl rfl rfl rfl rfl rfl HA (by omega) hrow (oj_run TT rfl ?_)
        refine oj_callP rfl rfl rfl rfl rfl Tryz.call94 (by (repeat' (first | exact trivial | refine AllLt.of ?_ | constructor))) (ahead_c s' z x) fun v hv=>⟨.a (.b (aheadI z x)),trivial,hv.symm,?_⟩
        refine oj_run TT rfl ?_
        (repeat refine oj_nil ?_)
        refine nj_again () trivial Nat.zero_lt_one rfl (by (repeat first | exact trivial | refine ⟨rfl,?_⟩)) (by (repeat first | exact trivial | refine ⟨rfl,?_⟩)) rfl ⟨trivial,trivial,hlt2,trivial,trivial,trivial,h12,trivial,trivial,trivial,trivial,trivial⟩ (by (repeat' (first | exact trivial | exact Nat.le_of_ble_eq_true rfl | refine AllLt.of ?_ | constructor)))
      · have h:decide ((i:Int)<a.length)=false:=h
        have hil:a.length<=i:=by have:=of_decide_eq_false h;omega
        rw [List.getElem?_eq_none hil]
        refine oj_run TT rfl ?_
        (repeat refine oj_nil ?_)
        refine nj_set 32 (.a (.b false)) rfl trivial (fun β=>rfl) ?_
        refine nj_again () trivial Nat.zero_lt_one rfl (by (repeat first | exact trivial | refine ⟨rfl,?_⟩)) (by (repeat first | exact trivial | refine ⟨rfl,?_⟩)) rfl ⟨trivial,trivial,hlt2,trivial,trivial,trivial,h12,trivial,trivial,trivial,trivial,trivial⟩ (by (repeat' (first | exact trivial | exact Nat.le_of_ble_eq_true rfl | refine AllLt.of ?_ | constructor)))
    skip
    refine cj_if rfl (fun h=>?_) (fun h=>?_)
    rotate_left
    · have h:(match a[i]? with | some z=>aheadI z x | none=>false)=false:=h
      (repeat (first | refine cj_exit ?_ | refine nj_then_exit ?_ | refine nj_block_out ?_))
      refine nj_again (s',(⟨k,i,S,oo,oc,st⟩:SwS α)) ⟨hle',hi,⟨y,hsw,hyx⟩,fun z hz=>by rw [hz] at h;exact h,hSc⟩ Nat.zero_lt_one rfl (by (repeat first | exact trivial | refine ⟨rfl,?_⟩)) (by (repeat first | exact trivial | refine ⟨rfl,?_⟩)) rfl ⟨trivial,trivial,hlt2,trivial,trivial,trivial,h12,trivial,trivial,trivial,trivial⟩ (by (repeat' (first | exact trivial | exact Nat.le_of_ble_eq_true rfl | refine AllLt.of ?_ | constructor)))
    have h:(match a[i]? with | some z=>aheadI z x | none=>false)=true:=h
    have hil:i<a.length:=by
      rcases Nat.lt_or_ge i a.length with h1 | h1
      · exact h1
      · rw [List.getElem?_eq_none h1] at h;cases h
    have hzi:a[i]?=some a[i]:=List.getElem?_eq_getElem hil
    have hrow:=itRows_get hzi
    have hlast:∀ z',a[i+1]?=some z'->aheadI z' a[i]=false:=by
      intro z' hz'
      have:=(hLa.get (Nat.lt_succ_self i) hzi hz').1
      rw [aheadI_iff] at this
      rw [aheadI_not]
      omega
    rw [hzi] at h
    generalize a[i]=z at *
    have h:aheadI z x=true:=h
    have hpop:=hsw.pop hLa z (fun y' hy'=>hyz y' z hy' hzi)
    have hpush:=hpop.push hLa hzi
    (repeat (first | refine cj_seq ?_ | refine cjr TT rfl ?_ | refine cj_skip ?_ | refine cj_block ?_ | refine nj_then ?_))
    refine oj_idx TT rfl rfl rfl rfl rfl rfl rfl rfl rfl HA (by omega) hrow (oj_run TT rfl ?_)
    refine oj_then ?_
    refine cj_own 3 1 5 rfl (itCells_lt 0 z) rfl (by decide) fun g=>?_
    refine cj_set 2 (.a (.fn (.func f) caps)) rfl (SV.lt_mono (Nat.zero_le _) hlt) (fun β=>by show SV.den β (.a (.fn (.func f) (caps.map (concP 3 g))))=_;rw [conc_caps hlt]) ?_
    refine cj_seal 4 rfl rfl fun s1 hle1 hS1=>?_
    have hz:=itAt_of hS1
    (repeat (first | refine cj_seq ?_ | refine cjr TT rfl ?_))
    refine oj_callF [0,1,2,3] (A0:=[opK gs oo S.length oc i,opE oo oc S]) (Ar:=[X st,Y st]) rfl rfl rfl rfl rfl rfl rfl Tryz.call159 ⟨trivial,fnLt1 160 g,trivial⟩ (opPop_c s1 gs oo oc i S (by omega) hSc 160 [.val (.pointer (some ⟨g,0,none⟩))] ⟨trivial,trivial⟩ Tryz.call160 (fun y=>overI y.1 z) (fun y _=>Sweep1_c s1 g z y hz) (fnLt1 160 g)) fun v s2 A2 hle2 ⟨hv,hA⟩=>⟨.tup [],(by (repeat' (first | exact trivial | refine SV.lt_tup ?_))),hv.symm,?_⟩
    subst hA
    have hz:=hz.mono hle2
    have hP:=(popI_sub (fun y:OI=>overI y.1 z) S).length_le
    generalize popI (fun y:OI=>overI y.1 z) S=P at *
    refine oj_run TT rfl ?_
    (repeat (first | refine cjr TT rfl ?_ | refine oj_then ?_))
    refine oj_ldSs TT (itCells z) rfl rfl rfl rfl rfl rfl rfl rfl rfl hz.ld (itCells_lt 0 z) (oj_run TT rfl ?_)
    refine oj_set 45 (.agg (opCells (z,i))) rfl (opCells_lt _ _) (fun _=>rfl) ?_
    refine oj_callF [0,1,2,3] (A0:=[opK gs oo P.length oc i,opE oo oc P]) (Ar:=[X st,Y st]) rfl rfl rfl rfl rfl rfl rfl Tryz.call161 ⟨trivial,opCells_lt 0 (z,i),trivial⟩ (opPush_c s2 gs oo oc i P (z,i) (by omega) (by omega) (by omega)) fun v s3 A3 hle3 ⟨hv,oo',oc',hoc',hA⟩=>⟨.tup [],(by (repeat' (first | exact trivial | refine SV.lt_tup ?_))),hv.symm,?_⟩
    subst hA
    refine oj_run TT rfl ?_
    (repeat (first | refine cjr TT rfl ?_ | refine oj_nil ?_ | refine nj_then ?_ | refine nj_block ?_ | (refine oj_add rfl rfl rfl rfl rfl rfl (by omega) ?_;refine oj_run TT rfl ?_)))
    have hlen:(P++[(z,i)]).length=P.length+1:=by simp
    refine nj_again (s3,(⟨k,i+1,P++[(z,i)],oo',oc',st⟩:SwS α)) ⟨Snap.le_trans hle' (Snap.le_trans hle1 (Snap.le_trans hle2 hle3)),by dsimp only;omega,⟨_,hpush,fun y' hy'=>by injection hy' with hy';subst hy';exact h,fun y' z' hy' hz'=>by injection hy' with hy';subst hy';exact hlast z' hz'⟩,by dsimp only;omega⟩ (by dsimp only;omega) rfl (by (repeat first | exact trivial | refine ⟨rfl,?_⟩)) (by (repeat first | exact trivial | refine ⟨rfl,?_⟩)) ?_ ⟨trivial,trivial,hlt2,trivial,trivial,trivial,h12,trivial,trivial,trivial,trivial⟩ (by (repeat' (first | exact trivial | exact Nat.le_of_ble_eq_true rfl | refine AllLt.of ?_ | constructor)))
    show [_,_,_,_]=[_,_,_,_]
    dsimp only
    rw [hlen]
    rfl
  obtain ⟨s',⟨_,i,S,oo,oc,_⟩⟩:=t
  obtain ⟨hle',hi,⟨y,hsw,hyx⟩,haz,hSc⟩:=ht
  dsimp only at hle' hi hsw haz hSc ⊢
  have hSi:=swept_le hsw
  have hpop:=hsw.pop hLa x (fun y' hy'=>leI.of (hyx y' hy'))
  refine cj_own 1 1 5 rfl (itCells_lt 0 x) rfl (by decide) fun g=>?_
  refine cj_set 2 (.a (.fn (.func f) caps)) rfl (SV.lt_mono (Nat.zero_le _) hlt) (fun β=>by show SV.den β (.a (.fn (.func f) (caps.map (concP 1 g))))=_;rw [conc_caps hlt]) ?_
  refine cj_seal 4 rfl rfl fun s1 hle1 hS1=>?_
  have hx:=itAt_of hS1
  (repeat (first | refine cj_seq ?_ | refine cjr TT rfl ?_))
  refine oj_callF [0,1,2,3] (A0:=[opK gs oo S.length oc i,opE oo oc S]) (Ar:=[X st,Y st]) rfl rfl rfl rfl rfl rfl rfl Tryz.call159 ⟨trivial,fnLt1 162 g,trivial⟩ (opPop_c s1 gs oo oc i S (by omega) hSc 162 [.val (.pointer (some ⟨g,0,none⟩))] ⟨trivial,trivial⟩ Tryz.call162 (fun y=>overI y.1 x) (fun y _=>Sweep2_c s1 g x y hx) (fnLt1 162 g)) fun v s2 A2 hle2 ⟨hv,hA⟩=>⟨.tup [],(by (repeat' (first | exact trivial | refine SV.lt_tup ?_))),hv.symm,?_⟩
  subst hA
  have hP:=(popI_sub (fun y:OI=>overI y.1 x) S).length_le
  have hPe:=(hpop.some_ x rfl).1
  have hsw2:=hpop
  rw [hPe] at hP hsw2 ⊢
  refine oj_run TT rfl ?_
  (repeat (first | refine cjr TT rfl ?_ | refine oj_then ?_))
  refine oj_ldA 0 (c:=.v (.slice oo (openAt a i x).length oc)) TT rfl rfl rfl rfl rfl rfl rfl rfl rfl rfl rfl trivial (oj_run TT rfl ?_)
  refine oj_callF [1,2,3,0] (A0:=[opE oo oc (openAt a i x),X st,Y st]) (Ar:=[opK gs oo (openAt a i x).length oc i]) (ys:=.a (.v (.int .i64 k))::.a (.v (.slice oo (openAt a i x).length oc))::caps.map ptSV) rfl rfl rfl rfl rfl rfl rfl hcall ⟨trivial,trivial,hcap⟩
    (hf s2 k i x st oo oc (Snap.le_trans hle (Snap.le_trans hle' (Snap.le_trans hle1 hle2))) hxk hR haz (by omega) (by omega)) fun v s3 A3 hle3 ⟨hv,st',hR',hA⟩=>⟨.tup [],(by (repeat' (first | exact trivial | refine SV.lt_tup ?_))),hv.symm,?_⟩
  subst hA
  refine oj_run TT rfl ?_
  (repeat (first | refine cjr TT rfl ?_ | refine oj_nil ?_ | refine nj_then ?_ | refine nj_block ?_ | (refine oj_add rfl rfl rfl rfl rfl rfl (by omega) ?_;refine oj_run TT rfl ?_)))
  refine nj_re [3,0,1,2] (A':=[opK gs oo (openAt a i x).length oc i,opE oo oc (openAt a i x),X st',Y st']) rfl rfl ?_
  refine nj_again (s3,(⟨k+1,i,openAt a i x,oo,oc,st'⟩:SwS α)) ⟨Snap.le_trans hle (Snap.le_trans hle' (Snap.le_trans hle1 (Snap.le_trans hle2 hle3))),by dsimp only;omega,hi,by dsimp only;rw [hnext];exact hsw2,fun y' z hy' hz=>by dsimp only at hy' hz;rw [hnext] at hy';injection hy' with hy';subst hy';exact haz z hz,by dsimp only;omega,hR'⟩ (by dsimp only;omega) rfl (by (repeat first | exact trivial | refine ⟨rfl,?_⟩)) (by (repeat first | exact trivial | refine ⟨rfl,?_⟩)) rfl ⟨trivial,trivial,hlt,trivial,trivial,trivial,trivial,trivial,trivial⟩ trivial
end Go.Sy
namespace Go.Sy
open Go.Proofs
abbrev Pr:=Nat×Nat
def prCells (p:Pr):List AT:=[.v (.int .i64 p.1),.v (.int .i64 p.2)]
theorem prCells_lt (n:Nat) (p:Pr):∀ c∈prCells p,c.lt n:=by simp [prCells,AT.lt]
def prRows (l:List Pr):List (List AT):=l.map prCells
theorem prRows_all (a:List Pr):∀ r∈prRows a,r.length=2/\(∀ c∈r,c.lt 0)/\r.all AT.one=true:=by
  intro r hr
  obtain ⟨x,_,rfl⟩:=List.mem_map.1 hr
  exact ⟨rfl,prCells_lt 0 x,rfl⟩
def prXs (l:List Pr):List Value:=(prRows l).flatten.map AT.val
theorem prXs_push (L:List Pr) (x:Pr):prXs L++(prCells x).map AT.val=prXs (L++[x]):=by
  simp [prXs,prRows]
def prE (ao:Option Addr) (cap:Nat) (l:List Pr):AE:=⟨ao,l.length,cap,73,2,prXs l⟩
theorem pr_sealed {σ:Snap} {ao:Option Addr} {cap:Nat} {l:List Pr} (hS:ArrSealed σ (prE ao cap l)) (hc:l.length<=cap):SlAt σ ao l.length cap 2 (prRows l) :=
  hS.sl rfl (fun r hr=>⟨(prRows_all l r hr).1,(prRows_all l r hr).2.1⟩) (by simp [prRows]) rfl hc
def outE (go e:Nat) (ao:Option Addr) (n cap:Nat):AE:=⟨some ⟨go,0,none⟩,1,1,e,1,[.slice ao n cap]⟩
theorem cell1_of {σ:Snap} {g cap e:Nat} {v:Value} (hS:ArrSealed σ ⟨some ⟨g,0,none⟩,1,cap,e,1,[v]⟩):σ.cell ⟨g,0,none⟩=some v:=by
  rcases hS with ⟨h,_⟩ | ⟨g',h1,h2⟩
  · cases h
  · have h1:some (⟨g,0,none⟩:Addr)=some ⟨g',0,none⟩:=h1
    injection h1 with h1
    injection h1 with h1
    subst h1
    exact h2 0 v rfl
structure PrS where
  j:Nat
  o:List Pr
  po:Option Addr
  pc:Nat
def fitL (S:List OI) (x:GItem) (kid:Bool) (k:Nat):List Pr:=(S.filter fun z=>fitsI z.1 x kid).map fun z=>(z.2,k)
theorem fitL_cons (z:OI) (S:List OI) (x:GItem) (kid:Bool) (k:Nat):fitL (z::S) x kid k=if fitsI z.1 x kid then (z.2,k)::fitL S x kid k else fitL S x kid k:=by
  unfold fitL
  rw [List.filter_cons]
  split<;>rfl
theorem fitL_len (S:List OI) (x:GItem) (kid:Bool) (k:Nat):(fitL S x kid k).length<=S.length:=by
  unfold fitL
  rw [List.length_map]
  exact List.length_filter_le _ _
set_option maxRecDepth 100000 in
set_option maxHeartbeats 4000000 in
theorem Pairs1_c (σ:Snap) (gd gp go:Nat) (d:List GItem) (bo:Option Addr) (bc:Nat) (HD:SlAt σ bo d.length bc 5 (itRows d)) (kid:Bool) (hgd:σ.cell ⟨gd,0,none⟩=some (.slice bo d.length bc)) (hgp:σ.cell ⟨gp,0,none⟩=some (.bool kid))
    (k:Nat) (x:GItem) (hx:d[k]?=some x) (S:List OI) (hS:S.length<=100000) (hb:∀ z∈S,-1000000000000<=z.1.lv/\z.1.lv<=1000000000000) (so:Option Addr) (sc:Nat) (o:List Pr) (ho:o.length<=1000000000000) (po:Option Addr) (pc:Nat) (hpc:o.length<=pc) :
    FnS Tryz.prog 86 [.a (.v (.int .i64 k)),.a (.v (.slice so S.length sc)),.a (.v (.pointer (some ⟨gd,0,none⟩))),.a (.v (.pointer (some ⟨gp,0,none⟩))),.a (.v (.pointer (some ⟨go,0,none⟩)))] σ [opE so sc S,outE go 67 po o.length pc,prE po pc o]
      (fun v _ A'=>v=.tuple #[]/\∃ po' pc',(o++fitL S x kid k).length<=pc'/\A'=[opE so sc S,outE go 67 po' (o++fitL S x kid k).length pc',prE po' pc' (o++fitL S x kid k)]):=by
  refine enter_f Tryz.func86 rfl rfl (by (repeat' (first | exact trivial | constructor))) fun w=>?_
  (repeat (first | refine cj_seq ?_ | refine cjr TT rfl ?_ | refine oj_then ?_ | refine cj_block ?_))
  refine cj_loop (fun (_:PrS)=>σ) (fun t=>[(0,.a (.v (.int .i64 k))),(2,.a (.v (.pointer (some ⟨gd,0,none⟩)))),(3,.a (.v (.pointer (some ⟨gp,0,none⟩)))),(4,.a (.v (.pointer (some ⟨go,0,none⟩)))),(9,.a (.v (.slice so S.length sc))),(10,.a (.v (.int .i64 S.length))),(11,.a (.v (.int .i64 (t.j:Nat))))])
    (fun _=>[]) (fun t=>[opE so sc S,outE go 67 t.po t.o.length t.pc,prE t.po t.pc t.o]) 0
    (fun t=>t.j<=S.length/\t.o++fitL (S.drop t.j) x kid k=o++fitL S x kid k/\t.o.length<=t.pc/\t.o.length<=o.length+t.j) (fun t=>S.length - t.j) ⟨0,o,po,pc⟩ ⟨Nat.zero_le _,rfl,hpc,Nat.le_refl _⟩ rfl (by (repeat first | exact trivial | refine ⟨rfl,?_⟩)) (by (repeat first | exact trivial | refine ⟨rfl,?_⟩)) rfl (by (repeat' (first | exact trivial | constructor))) (by (repeat' exact trivial)) fun ⟨j,o1,po,pc⟩ ⟨hj,hp,hpc,hlen⟩=>?_
  dsimp only at hj hp hpc hlen ⊢
  (repeat (first | refine cj_seq ?_ | refine cjr TT rfl ?_ | refine oj_then ?_))
  refine cj_if rfl (fun h=>?_) (fun h=>?_)
  rotate_left
  · have hj0:j=S.length:=by have:=of_decide_eq_false h;omega
    rw [hj0,List.drop_length] at hp
    have hp:o1=o++fitL S x kid k:=by rw [<-hp];exact (List.append_nil _).symm
    (repeat (first | refine cj_exit ?_ | refine nj_then_exit ?_ | refine nj_block_out ?_))
    refine nj_fend TT rfl fun β w' _ _=>?_
    rw [<-hp]
    exact ⟨rfl,po,pc,hpc,rfl⟩
  have hjl:j<S.length:=by have:=of_decide_eq_true h;omega
  have hzj:S[j]?=some S[j]:=List.getElem?_eq_getElem hjl
  have hzb:=hb S[j] (List.getElem_mem hjl)
  have hrow:=itRows_get hx
  rw [List.drop_eq_getElem_cons hjl,fitL_cons] at hp
  generalize S[j]=z at *
  (repeat (first | refine cj_seq ?_ | refine cjr TT rfl ?_ | refine cj_skip ?_ | refine cj_block ?_ | refine nj_then ?_))
  refine oj_arrAt 0 (E:=opE so sc S) rfl (by show 0<S.length;omega) fun g1 hg1=>?_
  have hg1:so=some ⟨g1,0,none⟩:=hg1
  subst hg1
  refine oj_indexAddr TT rfl rfl rfl rfl rfl rfl rfl rfl rfl ⟨by omega,by omega⟩ (oj_run TT rfl ?_)
  refine oj_ldAs 0 (off:=j*6) TT (opCells z) rfl rfl rfl rfl rfl ?_ rfl rfl rfl rfl rfl ?_ (opCells_lt _ _) (oj_run TT rfl ?_)
  · show some (SV.a (AT.v (.pointer (some (Addr.add ⟨g1,0,none⟩ (((j:Nat):Int).toNat*6))))))=_
    rw [add0,Int.toNat_natCast]
  · intro i c hi
    exact opXs_get hzj hi
  (repeat (first | refine cj_seq ?_ | refine oj_then ?_))
  refine cj_draw [(0,.pure),(1,.quiet),(2,.quiet),(3,.pure),(4,.pure),(5,.quiet),(6,.quiet),(7,.keep)] mixed (by kernel_rfl) (oj_run TT rfl ?_)
  refine oj_ldS (c:=.v (.slice bo d.length bc)) TT rfl rfl rfl rfl rfl rfl rfl rfl hgd trivial (oj_run TT rfl ?_)
  refine oj_idx TT rfl rfl rfl rfl rfl rfl rfl rfl rfl HD (by omega) hrow (oj_run TT rfl ?_)
  refine oj_ldS (c:=.b kid) TT rfl rfl rfl rfl rfl rfl rfl rfl hgp trivial (oj_run TT rfl ?_)
  refine oj_callP (ys:=[.agg (itCells z.1),.agg (itCells x),.a (.b kid)]) rfl rfl rfl rfl rfl Tryz.call87 ⟨itCells_lt 0 _,itCells_lt 0 _,trivial,trivial⟩ (fits_c σ z.1 x kid hzb) fun v hv=>⟨.a (.b (fitsI z.1 x kid)),trivial,hv.symm,?_⟩
  refine oj_run TT rfl ?_
  (repeat refine oj_then ?_)
  refine cj_if rfl (fun h=>?_) (fun h=>?_)
  · have h:fitsI z.1 x kid=true:=h
    rw [h,if_pos rfl] at hp
    (repeat refine cjr TT rfl ?_)
    refine oj_ldA 1 (c:=.v (.slice po o1.length pc)) TT rfl rfl rfl rfl rfl rfl rfl rfl rfl rfl rfl trivial (oj_run TT rfl ?_)
    refine oj_append_lit TT 2 rfl rfl rfl rfl rfl rfl rfl rfl rfl rfl rfl rfl rfl rfl rfl rfl rfl rfl (prCells_lt 0 (z.2,k)) rfl (by omega) (by show (o1.length+1)*16<=_;omega) fun po1 pc1 hpc1=>oj_run TT rfl ?_
    refine oj_stA 1 (A':=[opE (some ⟨g1,0,none⟩) sc S,outE go 67 po1 (o1.length+1) pc1,⟨po1,o1.length+1,pc1,73,2,prXs o1++(prCells (z.2,k)).map AT.val⟩]) TT rfl rfl rfl rfl rfl rfl rfl rfl rfl rfl (by show 0<1*1;omega) trivial rfl rfl (oj_run TT rfl ?_)
    rw [prXs_push]
    (repeat (first | refine cjr TT rfl ?_ | refine oj_nil ?_ | refine nj_then ?_ | refine nj_block ?_ | (refine oj_add rfl rfl rfl rfl rfl rfl (by omega) ?_;refine oj_run TT rfl ?_)))
    have hl1:(o1++[(z.2,k)]).length=o1.length+1:=by simp
    refine nj_again (⟨j+1,o1++[(z.2,k)],po1,pc1⟩:PrS) ⟨hjl,by dsimp only;rw [List.append_assoc];exact hp,by dsimp only;omega,by dsimp only;omega⟩ (by dsimp only;omega) rfl (by (repeat first | exact trivial | refine ⟨rfl,?_⟩)) (by (repeat first | exact trivial | refine ⟨rfl,?_⟩)) ?_ (by (repeat' (first | exact trivial | constructor))) (by (repeat' exact trivial))
    show [_,_,_]=[_,_,_]
    dsimp only
    unfold prE
    rw [hl1]
  · have h:fitsI z.1 x kid=false:=h
    rw [h,if_neg (by decide)] at hp
    (repeat (first | refine cjr TT rfl ?_ | refine oj_nil ?_ | refine cj_skip ?_ | refine nj_then ?_ | refine nj_block ?_ | (refine oj_add rfl rfl rfl rfl rfl rfl (by omega) ?_;refine oj_run TT rfl ?_)))
    refine nj_again (⟨j+1,o1,po,pc⟩:PrS) ⟨hjl,hp,hpc,by dsimp only;omega⟩ (by dsimp only;omega) rfl (by (repeat first | exact trivial | refine ⟨rfl,?_⟩)) (by (repeat first | exact trivial | refine ⟨rfl,?_⟩)) rfl (by (repeat' (first | exact trivial | constructor))) (by (repeat' exact trivial))
def pairsK (a d:List GItem) (kid:Bool) (k:Nat):List Pr:=(d.zipIdx.take k).flatMap fun x=>(a.zipIdx.filter fun z=>fitsI z.1 x.1 kid).map fun z=>(z.2,x.2)
theorem pairsK_all (a d:List GItem) (kid:Bool):pairsK a d kid d.length=pairsG a d kid:=by
  unfold pairsK pairsG
  rw [List.take_of_length_le (by rw [List.length_zipIdx];exact Nat.le_refl _)]
theorem pairsK_succ {a d:List GItem} {kid:Bool} {k:Nat} {x:GItem} (h:d[k]?=some x):pairsK a d kid (k+1)=pairsK a d kid k++fitL a.zipIdx x kid k:=by
  have hk:=(List.getElem?_eq_some_iff.1 h).1
  unfold pairsK
  rw [List.take_succ_eq_append_getElem (by rw [List.length_zipIdx];exact hk),List.flatMap_append]
  have h2:=zip_get h
  rw [List.getElem?_eq_getElem (by rw [List.length_zipIdx];exact hk)] at h2
  rw [Option.some.inj h2]
  simp [fitL]
theorem pairsK_len (a d:List GItem) (kid:Bool):∀ k:Nat,k<=d.length->(pairsK a d kid k).length<=k*a.length
  | 0,_=>by simp [pairsK]
  | k+1,h=>by
    have ih:=pairsK_len a d kid k (by omega)
    rw [pairsK_succ (List.getElem?_eq_getElem (show k<d.length by omega)),List.length_append]
    have:=fitL_len a.zipIdx (d[k]'(by omega)) kid k
    rw [List.length_zipIdx] at this
    rw [Nat.succ_mul]
    omega
structure PoS where
  o:List Pr
  po:Option Addr
  pc:Nat
set_option maxRecDepth 100000 in
set_option maxHeartbeats 4000000 in
theorem Pairs_c (σ:Snap) (a d:List GItem) (ha:a.length<=100000) (hd:d.length<=100000) (ao:Option Addr) (ac:Nat) (HA:SlAt σ ao a.length ac 5 (itRows a)) (bo:Option Addr) (bc:Nat) (HD:SlAt σ bo d.length bc 5 (itRows d))
    (hLa:Lam a) (hLd:Lam d) (hb:∀ z∈a,-1000000000000<=z.lv/\z.lv<=1000000000000) (kid:Bool) :
    PureS Tryz.prog 31 [.a (.v (.slice ao a.length ac)),.a (.v (.slice bo d.length bc)),.a (.b kid)] σ (fun v σ'=>∃ (po:Option Addr) (pc n:Nat),v=.tuple #[.slice po (pairsG a d kid).length pc,.int .i64 n]/\n<=a.length/\SlAt σ' po (pairsG a d kid).length pc 2 (prRows (pairsG a d kid))):=by
  refine enter_s Tryz.func31 rfl rfl (by (repeat' (first | exact trivial | constructor))) fun w=>?_
  (repeat (first | refine cj_seq ?_ | refine cjr TT rfl ?_ | refine oj_then ?_))
  refine oj_own 0 1 1 rfl (by (repeat' (first | exact trivial | refine AllLt.of ?_ | constructor))) rfl (by decide) fun gd=>?_
  refine oj_seal 0 rfl rfl rfl fun s1 hle1 hS1=>?_
  refine oj_own 1 1 1 rfl (by (repeat' (first | exact trivial | refine AllLt.of ?_ | constructor))) rfl (by decide) fun gp=>?_
  refine oj_seal 0 rfl rfl rfl fun s2 hle2 hS2=>?_
  have hgd:s2.cell ⟨gd,0,none⟩=some (.slice bo d.length bc):=hle2.cell (cell1_of hS1)
  have hgp:s2.cell ⟨gp,0,none⟩=some (.bool kid):=cell1_of hS2
  have HA:=HA.mono (Snap.le_trans hle1 hle2)
  have HD:=HD.mono (Snap.le_trans hle1 hle2)
  refine oj_callP rfl rfl rfl rfl rfl Tryz.call33 (by (repeat' (first | exact trivial | constructor))) (Sound20_c s2 a (by omega) ao ac HA) fun v hv=>⟨.a .tt,trivial,by rw [hv,lam_sound hLa];rfl,?_⟩
  refine oj_run TT rfl ?_
  refine oj_ldS (c:=.v (.slice bo d.length bc)) TT rfl rfl rfl rfl rfl rfl rfl rfl hgd trivial (oj_run TT rfl ?_)
  refine oj_callP rfl rfl rfl rfl rfl Tryz.call33 (by (repeat' (first | exact trivial | constructor))) (Sound20_c s2 d (by omega) bo bc HD) fun v hv=>⟨.a .tt,trivial,by rw [hv,lam_sound hLd];rfl,?_⟩
  refine oj_run TT rfl ?_
  (repeat (first | refine cj_seq ?_ | refine cjr TT rfl ?_ | refine oj_then ?_ | refine cj_if_f rfl ?_ | refine cj_skip ?_ | refine nj_then ?_))
  refine oj_ldS (c:=.v (.slice bo d.length bc)) TT rfl rfl rfl rfl rfl rfl rfl rfl hgd trivial (oj_run TT rfl ?_)
  refine oj_own 2 1 1 rfl (by (repeat' (first | exact trivial | refine AllLt.of ?_ | constructor))) rfl (by decide) fun go=>?_
  refine oj_nilarr 73 2 ?_
  have hfn:(SV.a (.fn (.func 86) [.val (.pointer (some ⟨gd,0,none⟩)),.val (.pointer (some ⟨gp,0,none⟩)),.val (.pointer (some ⟨go,0,none⟩))])).lt 0:=by
    intro p hp
    simp only [List.mem_cons,List.not_mem_nil,or_false] at hp
    rcases hp with rfl | rfl | rfl<;>trivial
  refine oj_callF [0,1] (A0:=[outE go 67 none 0 0,prE none 0 []]) (Ar:=[]) rfl rfl rfl rfl rfl rfl rfl Tryz.call85 ⟨trivial,trivial,hfn,trivial⟩
    (sweep_c s2 a d ha hd ao ac HA bo bc HD hLa hLd 86 [.val (.pointer (some ⟨gd,0,none⟩)),.val (.pointer (some ⟨gp,0,none⟩)),.val (.pointer (some ⟨go,0,none⟩))] ⟨trivial,trivial,trivial,trivial⟩ Tryz.call86 hfn
      (fun st:PoS=>outE go 67 st.po st.o.length st.pc) (fun st=>prE st.po st.pc st.o) (fun k st=>st.o=pairsK a d kid k/\st.o.length<=st.pc) ⟨[],none,0⟩ ⟨rfl,Nat.le_refl _⟩
      (fun σ' k i x st so sc hle hx ⟨hR1,hR2⟩ hn hoa hos=>by
        have hk:=(List.getElem?_eq_some_iff.1 hx).1
        have hlen:=pairsK_len a d kid k (by omega)
        have hm:k*a.length<=100000*100000:=Nat.mul_le_mul (by omega) ha
        have hof:=open_fits hn hLa (hLd.se x (List.mem_of_getElem? hx)) kid
        refine (Pairs1_c σ' gd gp go d bo bc (HD.mono hle) kid (hle.cell hgd) (hle.cell hgp) k x hx (openAt a i x) (by omega) (fun z hz=>?_) so sc st.o (by rw [hR1];omega) st.po st.pc hR2).mono fun v σ2 A2 _ ⟨hv,po',pc',hpc,hA⟩=>⟨hv,⟨st.o++fitL (openAt a i x) x kid k,po',pc'⟩,⟨?_,hpc⟩,hA⟩
        · obtain ⟨hz1,-⟩:=List.mem_filter.1 hz
          exact hb z.1 (List.mem_of_getElem? (mem_zip_take hz1).2)
        · show st.o++fitL (openAt a i x) x kid k=_
          rw [pairsK_succ hx,hR1]
          unfold fitL
          rw [hof]))
    fun v s3 A3 hle3 ⟨n,hv,hn,⟨o,po,pc⟩,⟨hR1,hR2⟩,hA⟩=>⟨.a (.v (.int .i64 n)),trivial,hv.symm,?_⟩
  subst hA
  dsimp only at hR1 hR2 ⊢
  rw [pairsK_all] at hR1
  subst hR1
  refine oj_run TT rfl ?_
  (repeat (first | refine cj_seq ?_ | refine cjr TT rfl ?_ | refine oj_then ?_))
  refine oj_ldA 0 (c:=.v (.slice po (pairsG a d kid).length pc)) TT rfl rfl rfl rfl rfl rfl rfl rfl rfl rfl rfl trivial (oj_run TT rfl ?_)
  (repeat (first | refine oj_then ?_ | refine cj_ret ?_))
  refine nj_seal 1 rfl rfl fun s4 hle4 hS4=>?_
  refine nj_ret TT rfl fun β w' _ _=>?_
  exact ⟨po,pc,n,rfl,hn,pr_sealed hS4 hR2⟩
end Go.Sy
namespace Go.Sy
open Go.Proofs
theorem allG_len_le0 (q:Nat->GLine->Bool):∀ (l:List GLine) (k:Nat),(allG q l k).length<=l.length
  | [],_=>Nat.le_refl _
  | x::l,k=>by
    have:=allG_len_le0 q l (k+1)
    unfold allG
    split
    · rw [List.length_cons,List.length_cons];omega
    · rw [List.length_cons];omega
set_option maxRecDepth 100000 in
set_option maxHeartbeats 1000000 in
theorem item_c (σ:Snap) (d:GDoc) (H:SlAt σ d.o d.L.length d.cap 11 (recRows d.L)) (i:Nat) (r:GRec) (hr:d.L[i]?=some r) :
    PlainS Tryz.prog 103 [.agg (doCells d),.a (.v (.int .i64 i))] σ (fun v=>v=(SV.agg (itCells (itemOf d.id r i))).den β0):=by
  have hrow:=recRows_get hr
  refine enter_p Tryz.func103 rfl rfl ⟨doCells_lt 0 d,trivial,trivial⟩ fun w=>?_
  (repeat (first | refine cj_seq ?_ | refine cjr TT rfl ?_ | refine oj_then ?_))
  refine oj_idx TT rfl rfl rfl rfl rfl rfl rfl rfl rfl H (by omega) hrow (oj_run TT rfl ?_)
  (repeat (first | refine cj_seq ?_ | refine cjr TT rfl ?_ | refine oj_then ?_ | refine cj_ret ?_))
  refine nj_ret TT rfl fun β w' _ _=>?_
  rfl
def onP (q:Int->Bool) (d:GDoc) (j:Nat):List GItem:=((((itemsD d.id d.L).zip d.ids).take j).filter fun x=>q x.2).map Prod.fst
theorem onP_all (q:Int->Bool) (d:GDoc) (h:d.ids.length=d.L.length):onP q d d.ids.length=onD q d:=by
  unfold onP onD
  rw [List.take_of_length_le (by rw [List.length_zip,itemsD_len];omega)]
theorem onP_succ {q:Int->Bool} {d:GDoc} {j:Nat} {k:Int} {r:GRec} (hk:d.ids[j]?=some k) (hr:d.L[j]?=some r):onP q d (j+1)=onP q d j++if q k then [itemOf d.id r j] else []:=by
  have h1:=itemsD_get (id:=d.id) hr
  have h2:((itemsD d.id d.L).zip d.ids)[j]?=some (itemOf d.id r j,k):=by
    rw [List.getElem?_zip_eq_some]
    exact ⟨h1,hk⟩
  obtain ⟨hj,he⟩:=List.getElem?_eq_some_iff.1 h2
  unfold onP
  rw [List.take_succ_eq_append_getElem hj,he,List.filter_append,List.map_append]
  congr 1
  rw [List.filter_cons]
  dsimp only
  split<;>rfl
theorem onP_len (q:Int->Bool) (d:GDoc) (j:Nat):(onP q d j).length<=j:=by
  unfold onP
  rw [List.length_map]
  refine Nat.le_trans (List.length_filter_le _ _) ?_
  rw [List.length_take]
  omega
theorem onG_succ {q:Int->Bool} {ds:List GDoc} {k:Nat} {d:GDoc} (h:ds[k]?=some d):onG q (ds.take (k+1))=onG q (ds.take k)++onD q d:=by
  obtain ⟨hk,he⟩:=List.getElem?_eq_some_iff.1 h
  unfold onG
  rw [List.take_succ_eq_append_getElem hk,he,List.flatMap_append]
  simp
structure OnS where
  k:Nat
  o:List GItem
  oo:Option Addr
  oc:Nat
set_option maxRecDepth 100000 in
set_option maxHeartbeats 4000000 in
theorem on_c (σ:Snap) (X:GIx) (IX:IxAt σ X) (hl:X.ds.length<=1000) (hd:∀ d∈X.ds,d.ids.length=d.L.length/\d.L.length<=100000) (f:FuncId) (caps:List PT) (hcap:LtAll (caps.map ptSV))
    (hcall:∀ args w,(callFunc f args).run Tryz.prog w=.ok (.enter f args) w) (hlt:(SV.a (.fn (.func f) caps)).lt 0) (q:Int->Bool) (hq:∀ k:Int,PlainS Tryz.prog f (.a (.v (.int .i64 k))::caps.map ptSV) σ (fun v=>v=.bool (q k))) :
    PureS Tryz.prog 83 [.agg (ixCells X),.a (.fn (.func f) caps)] σ (fun v σ'=>∃ oo oc,v=.slice oo (onG q X.ds).length oc/\SlAt σ' oo (onG q X.ds).length oc 5 (itRows (onG q X.ds))):=by
  have hlt1:=SV.lt_mono (Nat.zero_le 1) hlt
  have hlt3:=SV.lt_mono (Nat.zero_le 3) hlt
  refine enter_s Tryz.func83 rfl rfl ⟨ixCells_lt 0 X,hlt,trivial⟩ fun w=>?_
  (repeat (first | refine cj_seq ?_ | refine cjr TT rfl ?_ | refine oj_then ?_))
  refine oj_mm rfl rfl rfl rfl rfl rfl rfl (oj_run TT rfl ?_)
  refine oj_slice_to TT X.ds.length rfl rfl rfl rfl rfl rfl rfl rfl rfl (by show (if (X.ds.length:Int)<X.ds.length then _ else _)=_;split<;>rfl) IX.docs.ncap IX.docs.ncap (oj_run TT rfl ?_)
  refine oj_then ?_
  refine cj_nilarr 71 5 ?_
  (repeat refine cj_block ?_)
  refine cj_loop (fun (_:OnS)=>σ) (fun t=>[(1,.a (.fn (.func f) caps)),(2,.a (.p 0 0)),(5,.a (.v (.slice t.oo t.o.length t.oc))),(19,.a (.v (.slice X.o X.ds.length X.c))),(20,.a (.v (.int .i64 X.ds.length))),(21,.a (.v (.int .i64 (t.k:Nat))))])
    (fun _=>[(0,.loc 60,ixCells X)]) (fun t=>[itE t.oo t.oc t.o]) 1 (fun t=>t.k<=X.ds.length/\t.o=onG q (X.ds.take t.k)/\t.o.length<=t.oc/\t.o.length<=t.k*100000) (fun t=>X.ds.length - t.k) ⟨0,[],none,0⟩
    ⟨Nat.zero_le _,rfl,Nat.le_refl _,Nat.zero_le _⟩ rfl (by (repeat first | exact trivial | refine ⟨rfl,?_⟩)) (by (repeat first | exact trivial | refine ⟨rfl,?_⟩)) rfl ⟨hlt1,Nat.zero_lt_one,trivial,trivial,trivial,trivial,trivial⟩ (by exact ⟨⟨Nat.zero_lt_one,ixCells_lt 1 X⟩,trivial⟩) fun ⟨k,o,oo,oc⟩ ⟨hk,ho,hoc,hol⟩=>?_
  dsimp only at hk ho hoc hol ⊢
  (repeat (first | refine cj_seq ?_ | refine cjr TT rfl ?_ | refine oj_then ?_))
  refine cj_if rfl (fun h=>?_) (fun h=>?_)
  rotate_left
  · have hk0:k=X.ds.length:=by have:=of_decide_eq_false h;omega
    rw [hk0,List.take_length] at ho
    subst ho
    (repeat (first | refine cj_seq ?_ | refine cjr TT rfl ?_ | refine oj_then ?_ | refine cj_exit ?_ | refine cj_ret ?_ | refine nj_then ?_ | refine nj_then_exit ?_ | refine nj_block_out ?_))
    refine nj_seal 0 rfl rfl fun σ' hle' hS=>?_
    refine nj_ret TT rfl fun β w' _ _=>?_
    exact ⟨oo,oc,rfl,it_sealed hS hoc⟩
  have hkl:k<X.ds.length:=by have:=of_decide_eq_true h;omega
  have hdk:=List.getElem?_eq_getElem hkl
  have hrow:=doRows_get hdk
  have hrow2:=liRows_get hdk
  have hdm:=hd X.ds[k] (List.getElem_mem hkl)
  have hdd:=IX.doc X.ds[k] (List.getElem_mem hkl)
  have hnext:=onG_succ (q:=q) hdk
  rw [<-ho] at hnext
  generalize X.ds[k]=d at *
  obtain ⟨hdi,hdl⟩:=hdm
  (repeat (first | refine cj_seq ?_ | refine cjr TT rfl ?_ | refine cj_skip ?_ | refine cj_block ?_ | refine nj_then ?_))
  refine oj_idx TT rfl rfl rfl rfl rfl rfl rfl rfl rfl IX.docs (by omega) hrow (oj_run TT rfl ?_)
  (repeat (first | refine cj_seq ?_ | refine cjr TT rfl ?_ | refine oj_then ?_))
  refine oj_idx TT rfl rfl rfl rfl rfl rfl rfl rfl rfl IX.lines (by omega) hrow2 (oj_run TT rfl ?_)
  (repeat (first | refine oj_then ?_ | refine cj_block ?_))
  refine cj_loop (fun (_:OnS)=>σ) (fun t=>[(1,.a (.fn (.func f) caps)),(2,.a (.p 0 0)),(5,.a (.v (.slice t.oo t.o.length t.oc))),(7,.a (.p 2 0)),(19,.a (.v (.slice X.o X.ds.length X.c))),(20,.a (.v (.int .i64 X.ds.length))),(21,.a (.v (.int .i64 k))),(30,.a (.v (.slice d.lo d.ids.length d.lcap))),(31,.a (.v (.int .i64 d.ids.length))),(32,.a (.v (.int .i64 (t.k:Nat))))])
    (fun _=>[(0,.loc 60,ixCells X),(2,.loc 90,doCells d)]) (fun t=>[itE t.oo t.oc t.o]) 3 (fun t=>t.k<=d.ids.length/\t.o=o++onP q d t.k/\t.o.length<=t.oc) (fun t=>d.ids.length - t.k) ⟨0,o,oo,oc⟩
    ⟨Nat.zero_le _,(List.append_nil o).symm,hoc⟩ rfl (by (repeat first | exact trivial | refine ⟨rfl,?_⟩)) (by (repeat first | exact trivial | refine ⟨rfl,?_⟩)) rfl ⟨hlt3,by show 0<3;omega,trivial,by show 2<3;omega,trivial,trivial,trivial,trivial,trivial,trivial,trivial⟩ (by exact ⟨⟨by omega,ixCells_lt 3 X⟩,⟨by omega,doCells_lt 3 d⟩,trivial⟩) fun ⟨j,o1,oo,oc⟩ ⟨hj,ho1,hoc⟩=>?_
  dsimp only at hj ho1 hoc ⊢
  have hpl:=onP_len q d j
  have hlen1:o1.length=o.length+(onP q d j).length:=by rw [ho1,List.length_append]
  (repeat (first | refine cj_seq ?_ | refine cjr TT rfl ?_ | refine oj_then ?_))
  refine cj_if rfl (fun h=>?_) (fun h=>?_)
  rotate_left
  · have hj0:j=d.ids.length:=by have:=of_decide_eq_false h;omega
    subst hj0
    rw [onP_all q d hdi] at ho1
    (repeat (first | refine cjr TT rfl ?_ | refine oj_nil ?_ | refine cj_exit ?_ | refine nj_then ?_ | refine nj_then_exit ?_ | refine nj_block ?_ | refine nj_block_out ?_ | (refine oj_add rfl rfl rfl rfl rfl rfl (by omega) ?_;refine oj_run TT rfl ?_)))
    refine nj_again (⟨k+1,o1,oo,oc⟩:OnS) ⟨hkl,by dsimp only;rw [hnext,ho1],hoc,by dsimp only;rw [Nat.succ_mul];omega⟩ (by dsimp only;omega) rfl (by (repeat first | exact trivial | refine ⟨rfl,?_⟩)) (by (repeat first | exact trivial | refine ⟨rfl,?_⟩)) rfl ⟨hlt1,Nat.zero_lt_one,trivial,trivial,trivial,trivial,trivial⟩ (by exact ⟨⟨Nat.zero_lt_one,ixCells_lt 1 X⟩,trivial⟩)
  have hjl:j<d.ids.length:=by have:=of_decide_eq_true h;omega
  have hkj:=List.getElem?_eq_getElem hjl
  have hrj:d.L[j]?=some (d.L[j]'(by omega)):=List.getElem?_eq_getElem (by omega)
  have hrow3:=idRows_get hkj
  have hit:=item_c σ d hdd.1 j _ hrj
  have hsucc:=onP_succ (q:=q) hkj hrj
  generalize d.ids[j]=x at *
  generalize d.L[j]'(by omega)=r at *
  (repeat (first | refine cj_seq ?_ | refine cjr TT rfl ?_ | refine cj_skip ?_ | refine cj_block ?_ | refine nj_then ?_))
  refine oj_idx TT rfl rfl rfl rfl rfl rfl rfl rfl rfl hdd.2 (by omega) hrow3 (oj_run TT rfl ?_)
  (repeat (first | refine cj_seq ?_ | refine cjr TT rfl ?_ | refine oj_then ?_))
  refine oj_split 42 rfl (fun _=>?_) (fun h=>absurd (of_decide_eq_false (show decide ((j:Int)<d.L.length)=false from h)) (by omega))
  refine oj_run TT rfl ?_
  refine oj_callP (ys:=.a (.v (.int .i64 x))::caps.map ptSV) rfl rfl rfl rfl rfl hcall ⟨trivial,hcap⟩ (hq x) fun v hv=>⟨.a (.b (q x)),trivial,hv.symm,?_⟩
  refine oj_run TT rfl ?_
  (repeat refine oj_then ?_)
  refine cj_if rfl (fun h=>?_) (fun h=>?_)
  · have h:q x=true:=h
    rw [h,if_pos rfl] at hsucc
    (repeat refine cjr TT rfl ?_)
    refine oj_set 48 (.agg (doCells d)) rfl (doCells_lt _ _) (fun _=>rfl) ?_
    refine oj_callP (ys:=[.agg (doCells d),.a (.v (.int .i64 j))]) rfl rfl rfl rfl rfl Tryz.call103 ⟨doCells_lt 0 d,trivial,trivial⟩ hit fun v hv=>⟨.agg (itCells (itemOf d.id r j)),itCells_lt _ _,hv.symm,?_⟩
    refine oj_run TT rfl ?_
    refine oj_append_lit TT 0 rfl rfl rfl rfl rfl rfl rfl rfl rfl rfl rfl rfl rfl rfl rfl rfl rfl rfl (itCells_lt 0 _) rfl (by omega) (by show (o1.length+1)*40<=_;omega) fun oo' oc' hoc'=>oj_run TT rfl ?_
    (repeat (first | refine cjr TT rfl ?_ | refine oj_nil ?_ | refine nj_then ?_ | refine nj_block ?_ | (refine oj_add rfl rfl rfl rfl rfl rfl (by omega) ?_;refine oj_run TT rfl ?_)))
    have hl1:(o1++[itemOf d.id r j]).length=o1.length+1:=by simp
    refine nj_again (⟨j+1,o1++[itemOf d.id r j],oo',oc'⟩:OnS) ⟨hjl,by dsimp only;rw [hsucc,ho1,List.append_assoc],by dsimp only;omega⟩ (by dsimp only;omega) rfl ?_ (by (repeat first | exact trivial | refine ⟨rfl,?_⟩)) ?_ ⟨hlt3,by show 0<3;omega,trivial,by show 2<3;omega,trivial,trivial,trivial,trivial,trivial,trivial,trivial⟩ (by exact ⟨⟨by omega,ixCells_lt 3 X⟩,⟨by omega,doCells_lt 3 d⟩,trivial⟩)
    · dsimp only
      rw [hl1]
      (repeat first | exact trivial | refine ⟨rfl,?_⟩)
    · show [_]=[_]
      dsimp only
      unfold itE
      rw [hl1,<-itXs_push]
      rfl
  · have h:q x=false:=h
    rw [h,if_neg (by decide),List.append_nil] at hsucc
    (repeat (first | refine cjr TT rfl ?_ | refine oj_nil ?_ | refine cj_skip ?_ | refine nj_then ?_ | refine nj_block ?_ | (refine oj_add rfl rfl rfl rfl rfl rfl (by omega) ?_;refine oj_run TT rfl ?_)))
    refine nj_again (⟨j+1,o1,oo,oc⟩:OnS) ⟨hjl,by dsimp only;rw [hsucc];exact ho1,hoc⟩ (by dsimp only;omega) rfl (by (repeat first | exact trivial | refine ⟨rfl,?_⟩)) (by (repeat first | exact trivial | refine ⟨rfl,?_⟩)) rfl ⟨hlt3,by show 0<3;omega,trivial,by show 2<3;omega,trivial,trivial,trivial,trivial,trivial,trivial,trivial⟩ (by exact ⟨⟨by omega,ixCells_lt 3 X⟩,⟨by omega,doCells_lt 3 d⟩,trivial⟩)
theorem mix_val {κ:Type} [DecidableEq κ]:∀ (l:List (κ×Value)) (k:κ) (i j:Nat),(mix l k i).map (·.2)=(mix l k j).map (·.2)
  | [],_,_,_=>rfl
  | p::l,k,i,j=>by
    unfold mix
    split
    · rfl
    · exact mix_val l k _ _
theorem mlook_cons {κ:Type} [DecidableEq κ] (p:κ×Value) (l:List (κ×Value)) (k:κ):mlook (p::l) k=if p.1=k then some p.2 else mlook l k:=by
  have e:mix (p::l) k 0=if p.1=k then some (0,p.2) else mix l k 1:=rfl
  unfold mlook
  rw [e]
  split
  · rfl
  · exact mix_val l k 1 0
theorem mlook_mput {κ:Type} [DecidableEq κ] (k k':κ) (v:Value):∀ l:List (κ×Value),mlook (mput l k v) k'=if k=k' then some v else mlook l k'
  | []=>by
    unfold mput
    rw [mlook_cons]
  | p::l=>by
    unfold mput
    split
    · rename_i h
      rw [mlook_cons,mlook_cons]
      dsimp only
      split
      · rfl
      · rename_i h2
        rw [if_neg (by rw [h];exact h2)]
    · rename_i h
      rw [mlook_cons,mlook_cons,mlook_mput k k' v l]
      split
      · rename_i h2
        rw [if_neg (by intro e;exact h (by rw [h2,e]))]
      · rfl
def putIds (l:List Int):List (Int×Value):=l.foldl (fun m k=>mput m k (.bool true)) []
theorem putIds_snoc (l:List Int) (k:Int):putIds (l++[k])=mput (putIds l) k (.bool true):=by
  unfold putIds
  rw [List.foldl_append]
  rfl
theorem mlook_ids (k:Int) (l:List Int):mlook (putIds l) k=if k∈l then some (.bool true) else none:=by
  induction l using snocRec with
  | nil=>rfl
  | snoc l x ih =>
    rw [putIds_snoc,mlook_mput,ih]
    by_cases h:x=k
    · rw [if_pos h,if_pos (by simp [h])]
    · rw [if_neg h]
      by_cases h2:k∈l
      · rw [if_pos h2,if_pos (List.mem_append_left _ h2)]
      · rw [if_neg h2,if_neg (by simp [h2,eq_comm (a:=k),h])]
theorem und162:Tryz.prog.underlying 162=some (.map 3 4):=by kernel_rfl
set_option maxRecDepth 100000 in
set_option maxHeartbeats 1000000 in
theorem Match1_c (σ:Snap) (g b:Nat) (ids:List Int) (hg:σ.cell ⟨g,0,none⟩=some (.map (some b))) (hM:MapAt (Value.int .i64) σ b (putIds ids)) (k:Int) :
    PlainS Tryz.prog 84 [.a (.v (.int .i64 k)),.a (.v (.pointer (some ⟨g,0,none⟩)))] σ (fun v=>v=.bool (decide (k∈ids))):=by
  refine enter_p Tryz.func84 rfl rfl (by (repeat' (first | exact trivial | constructor))) fun w=>?_
  (repeat (first | refine cj_seq ?_ | refine cjr TT rfl ?_ | refine oj_then ?_))
  refine oj_ldS (c:=.v (.map (some b))) TT rfl rfl rfl rfl rfl rfl rfl rfl hg trivial (oj_run TT rfl ?_)
  refine oj_lookup (y:=.a (.b (decide (k∈ids)))) (kk:=k) (z:=.bool false) (int_key .i64 rfl) und162 und3 zero4 rfl rfl rfl rfl rfl rfl ⟨_,rfl,fun _=>rfl⟩ hM trivial ?_ (oj_run TT rfl ?_)
  · rw [mlook_ids]
    by_cases h:k∈ids
    · rw [if_pos h,decide_eq_true h]
      rfl
    · rw [if_neg h,decide_eq_false h]
      rfl
  (repeat (first | refine oj_then ?_ | refine cj_ret ?_))
  refine nj_ret TT rfl fun β w' _ _=>?_
  rfl
theorem IxAt.monoC {σ σ':Snap} {X:GIx} (h:IxAt σ X) (hle:σ.cle σ'):IxAt σ' X :=
  ⟨h.docs.monoC hle,h.lines.monoC hle,h.gl.monoC hle,fun x hx=>⟨(h.ok x hx).1,(h.ok x hx).2.monoC hle⟩,fun d hd=>⟨(h.doc d hd).1.monoC hle,(h.doc d hd).2.monoC hle⟩⟩
set_option maxRecDepth 100000 in
set_option maxHeartbeats 4000000 in
theorem IxMatch_c (σ:Snap) (X:GIx) (IX:IxAt σ X) (hl:X.ds.length<=1000) (hd:∀ d∈X.ds,d.ids.length=d.L.length/\d.L.length<=100000) (hxl:X.xs.length<=1000000)
    (ps:List GPat) (hpl:ps.length<=1000000) (po:Option Addr) (pc:Nat) (P:SlAt σ po ps.length pc 2 (ptRows ps)) :
    PureS Tryz.prog 30 [.agg (ixCells X),.a (.v (.slice po ps.length pc))] σ (fun v σ'=>∃ oo oc,v=.slice oo (onG (fun k=>decide (k∈matchIds X.xs ps)) X.ds).length oc/\SlAt σ' oo (onG (fun k=>decide (k∈matchIds X.xs ps)) X.ds).length oc 5 (itRows (onG (fun k=>decide (k∈matchIds X.xs ps)) X.ds))):=by
  refine enter_s Tryz.func30 rfl rfl ⟨ixCells_lt 0 X,trivial,trivial⟩ fun w=>?_
  (repeat (first | refine cj_seq ?_ | refine cjr TT rfl ?_ | refine oj_then ?_))
  refine oj_makeMap (Value.int .i64) rfl rfl rfl rfl rfl fun b σ1 hb hle hM=>oj_run TT rfl ?_
  (repeat (first | refine cj_seq ?_ | refine cjr TT rfl ?_ | refine oj_then ?_))
  refine oj_callS rfl rfl rfl rfl rfl Tryz.call82 (by (repeat' (first | exact trivial | refine AllLt.of ?_ | constructor))) (Match_c σ1 X.xs hxl X.go X.gc X.next (IX.gl.mono hle) (fun x hx=>(IX.ok x hx).mono hle) ps hpl po pc (P.mono hle)) fun v σ2 hle2 ⟨mo,mc,hv,HI⟩=>⟨.a (.v (.slice mo (matchIds X.xs ps).length mc)),trivial,hv.symm,?_⟩
  have hM:=MapAt.mono (Value.int .i64) hM hle2
  have IX:=IX.mono (Snap.le_trans hle hle2)
  have hml:(matchIds X.xs ps).length<=1000000:=Nat.le_trans (allG_len_le0 _ X.xs 0) hxl
  generalize matchIds X.xs ps=ids at *
  refine oj_run TT rfl ?_
  (repeat (first | refine oj_then ?_ | refine cj_block ?_))
  refine cj_cutB (fun (s:Snap)=>s) (fun _=>[(2,.a (.p 0 0)),(5,.a (.p 1 0))]) (fun _=>[(0,.loc 60,ixCells X),(1,.loc 162,[.v (.map (some b))])]) (fun _=>[]) 2 (fun s=>σ2.cle s/\MapAt (Value.int .i64) s b (putIds ids)) ?_ (fun s ⟨hs,hM⟩=>?_)
  · refine cj_loop2 (fun (s:Snap) (_:Nat)=>s) (fun _ (k:Nat)=>[(2,.a (.p 0 0)),(5,.a (.p 1 0)),(12,.a (.v (.slice mo ids.length mc))),(13,.a (.v (.int .i64 ids.length))),(14,.a (.v (.int .i64 k)))]) (fun _ _=>[(0,.loc 60,ixCells X),(1,.loc 162,[.v (.map (some b))])]) (fun _ _=>[]) 2
      (fun s k=>k<=ids.length/\σ2.cle s/\MapAt (Value.int .i64) s b (putIds (ids.take k))) (fun _ k=>ids.length - k) σ2 0 ⟨Nat.zero_le _,Snap.cle_refl _,hM⟩ rfl (by (repeat first | exact trivial | refine ⟨rfl,?_⟩)) (by (repeat first | exact trivial | refine ⟨rfl,?_⟩)) rfl ⟨by show 0<2;omega,by show 1<2;omega,trivial,trivial,trivial,trivial⟩ (by exact ⟨⟨by omega,ixCells_lt 2 X⟩,⟨by omega,fun c hc=>by rw [List.mem_singleton] at hc;subst hc;trivial⟩,trivial⟩) fun s k ⟨hk,hs,hM⟩=>?_
    (repeat (first | refine cj_seq ?_ | refine cjr TT rfl ?_ | refine oj_then ?_))
    refine cj_if rfl (fun h=>?_) (fun h=>?_)
    rotate_left
    · have hk0:k=ids.length:=by have:=of_decide_eq_false h;omega
      rw [hk0,List.take_length] at hM
      (repeat (first | refine cj_exit ?_ | refine nj_then_exit ?_ | refine nj_block_out ?_))
      refine nj_again s ⟨hs,hM⟩ Nat.zero_lt_one rfl (by (repeat first | exact trivial | refine ⟨rfl,?_⟩)) (by (repeat first | exact trivial | refine ⟨rfl,?_⟩)) rfl ⟨by show 0<2;omega,by show 1<2;omega,trivial⟩ (by exact ⟨⟨by omega,ixCells_lt 2 X⟩,⟨by omega,fun c hc=>by rw [List.mem_singleton] at hc;subst hc;trivial⟩,trivial⟩)
    have hkl:k<ids.length:=by have:=of_decide_eq_true h;omega
    have hrow:=idRows_get (List.getElem?_eq_getElem hkl)
    have htake:ids.take (k+1)=ids.take k++[ids[k]]:=List.take_succ_eq_append_getElem hkl
    generalize ids[k]=x at *
    (repeat (first | refine cj_seq ?_ | refine cjr TT rfl ?_ | refine cj_skip ?_ | refine cj_block ?_ | refine nj_then ?_))
    refine oj_idx TT rfl rfl rfl rfl rfl rfl rfl rfl rfl (HI.monoC hs) (by omega) hrow (oj_run TT rfl ?_)
    (repeat (first | refine cjr TT rfl ?_ | refine oj_then ?_))
    refine oj_mapUpdate (kk:=x) (vv:=.bool true) (int_key .i64 rfl) und162 und3 rfl rfl rfl rfl rfl ⟨_,rfl,fun _=>rfl⟩ ⟨_,rfl,fun _=>rfl⟩ hM (Snap.none_of_le (Snap.le_refl _) hb) fun s' hs' _ hM'=>oj_run TT rfl ?_
    (repeat (first | refine cjr TT rfl ?_ | refine oj_nil ?_ | refine nj_then ?_ | refine nj_block ?_ | (refine oj_add rfl rfl rfl rfl rfl rfl (by omega) ?_;refine oj_run TT rfl ?_)))
    rw [<-putIds_snoc,<-htake] at hM'
    refine nj_again (s',k+1) ⟨hkl,Snap.cle_trans hs hs',hM'⟩ (by dsimp only;omega) rfl (by (repeat first | exact trivial | refine ⟨rfl,?_⟩)) (by (repeat first | exact trivial | refine ⟨rfl,?_⟩)) rfl ⟨by show 0<2;omega,by show 1<2;omega,trivial,trivial,trivial,trivial⟩ (by exact ⟨⟨by omega,ixCells_lt 2 X⟩,⟨by omega,fun c hc=>by rw [List.mem_singleton] at hc;subst hc;trivial⟩,trivial⟩)
  have IX:=IX.monoC hs
  refine cj_own 1 1 1 rfl (by (repeat' (first | exact trivial | refine AllLt.of ?_ | constructor))) rfl (by decide) fun g=>?_
  refine cj_seal 0 rfl rfl fun s1 hle1 hS=>?_
  have hg:=cell1_of hS
  have hM:=MapAt.mono (Value.int .i64) hM hle1
  have IX:=IX.mono hle1
  (repeat (first | refine cj_seq ?_ | refine cjr TT rfl ?_))
  refine oj_set 21 (.agg (ixCells X)) rfl (ixCells_lt _ _) (fun _=>rfl) ?_
  refine oj_callS rfl rfl rfl rfl rfl Tryz.call83 ⟨ixCells_lt 0 X,fnLt1 84 g,trivial⟩ (on_c s1 X IX hl hd 84 [.val (.pointer (some ⟨g,0,none⟩))] ⟨trivial,trivial⟩ Tryz.call84 (fnLt1 84 g) (fun k=>decide (k∈ids)) fun k=>Match1_c s1 g b ids hg hM k) fun v s2 hle2 ⟨oo,oc,hv,HO⟩=>⟨.a (.v (.slice oo (onG (fun k=>decide (k∈ids)) X.ds).length oc)),trivial,hv.symm,?_⟩
  refine oj_run TT rfl ?_
  (repeat (first | refine oj_then ?_ | refine cj_ret ?_))
  refine nj_ret TT rfl fun β w' _ _=>?_
  exact ⟨oo,oc,rfl,HO⟩
end Go.Sy
namespace Go.Sy
open Go.Proofs
theorem shred_facts {σ:Snap} {g:GVal} {r:List AT} (hr:RepV σ g r) {gap:Int} (hg:1<=gap) (hg2:gap<=1000) (hw:g.weight<=4000) (hs:sane g=0) {L:List GRec} (hL:L=(shredV gap g 0 false emptyS 0).1) :
    L.length=cntV g/\L.length<=g.weight/\0<L.length/\soundG L=true/\RecsOk L/\buildR L=(g,0):=by
  subst hL
  have hcnt:=shredV_cnt gap g 0 false emptyS 0 hr.wf
  obtain ⟨hlen1,hlen2⟩:=shredV_len gap g 0 false emptyS 0
  have hfit:=shredV_fit gap g _ 0 false emptyS 0 hr (by decide)
  have hpos:=cntV_pos g
  have hnow:=(shredV_now (gap:=gap) g 0 false emptyS 0 (by omega) hg2).2
  have hbd:buildR (shredV gap g 0 false emptyS 0).1=(g,0):=by
    have:=buildR_shred (φ:=fun x=>x) (fun a b _ h=>h) (gap:=gap) (by omega) (by omega) g hr.wf hs (by omega) (by omega)
    rw [stE_id,List.map_id] at this
    exact this
  have hBG:buildG (shredV gap g 0 false emptyS 0).1=(g,[]):=by
    have:=build_shred (fun x=>x) gap g false emptyS 0 hr.wf
    rw [stE_id,List.map_id] at this
    exact this
  have hsound:soundG (shredV gap g 0 false emptyS 0).1=true:=by
    unfold soundG
    rw [hbd]
    rfl
  exact ⟨hcnt,hlen1,by omega,hsound,⟨by simp only [mostLen];omega,hfit,fun _=>by rw [hBG];show g.weight<=_;omega⟩,hbd⟩
end Go.Sy
namespace Go.Sy
open Go.Proofs
theorem sound_all {L:List GRec} (h:soundG L=true):L.length<=4096/\nestedG L=true/\namedG L=true/\((L.head?.map GRec.en).getD 0)<=1099511627776/\sane (buildG L).1=0:=by
  unfold soundG at h
  have h:=of_decide_eq_true h
  unfold buildR at h
  split at h
  · exact absurd h (by decide)
  · rename_i h1
    split at h
    · exact absurd h (by decide)
    · rename_i h2
      refine ⟨?_,?_,?_,?_,?_⟩
      · exact Nat.not_lt.1 fun hc=>h1 (.inl (by omega))
      · cases hn:nestedG L with
        | true=>rfl
        | false=>exact absurd (.inr (.inl hn)) h1
      · cases hn:namedG L with
        | true=>rfl
        | false=>exact absurd (.inr (.inr (.inl hn))) h1
      · exact Int.not_lt.1 fun hc=>h1 (.inr (.inr (.inr (by omega))))
      · simpa using h2
theorem levels_bd:∀ (L:List GRec) (m:Nat),levelsOk m L->∀ r∈L,0<=r.lv/\r.lv<=m+L.length
  | [],_,_,r,hr=>by cases hr
  | x::l,m,⟨h1,h2,h3⟩,r,hr=>by
    rw [List.length_cons]
    rcases List.mem_cons.1 hr with rfl | hr
    · exact ⟨h1,by omega⟩
    · have:=levels_bd l _ h3 r hr
      omega
theorem sound_levels {L:List GRec} (h:soundG L=true):∀ r∈L,0<=r.lv/\r.lv<=L.length:=by
  have h1:=(sound_all h).2.1
  unfold nestedG at h1
  rw [Bool.and_eq_true] at h1
  have:=levels_bd L 0 (nest_levels L 0 [] (-1) h1.1)
  intro r hr
  have:=this r hr
  omega
end Go.Sy
namespace Go.Sy
open Go.Proofs
set_option maxRecDepth 100000 in
set_option maxHeartbeats 2000000 in
theorem small_c (σ:Snap) (gs:List GVal) (rows:List (List AT)) (hR:RepL σ gs rows) (hl:gs.length<=140737488355328) (lo:Option Addr) (lc:Nat) (H:SlAt σ lo gs.length lc 8 rows) :
    PlainS Tryz.prog 28 [.a (.v (.slice lo gs.length lc))] σ (fun v=>∃ fb:Bool,v=.bool fb/\(fb=true->gs.length<=6/\∀ g∈gs,g.weight<=300)):=by
  refine enter_p Tryz.func28 rfl rfl (by (repeat' (first | exact trivial | constructor))) fun w=>?_
  (repeat (first | refine cj_seq ?_ | refine cjr TT rfl ?_ | refine oj_then ?_))
  refine cj_if rfl (fun h=>?_) (fun h=>?_)
  · (repeat (first | refine cj_seq ?_ | refine cjr TT rfl ?_ | refine oj_then ?_ | refine cj_ret ?_ | refine nj_then_ret ?_))
    refine nj_ret TT rfl fun β w' _ _=>?_
    exact ⟨false,rfl,fun h=>(by cases h)⟩
  have h6:gs.length<=6:=by have:=of_decide_eq_false h;omega
  (repeat (first | refine cj_seq ?_ | refine cjr TT rfl ?_ | refine oj_then ?_ | refine cj_skip ?_ | refine cj_block ?_ | refine nj_then ?_))
  refine cj_loop (fun (_:Nat)=>σ) (fun k=>[(0,.a (.v (.slice lo gs.length lc))),(3,.a (.v (.int .i64 k)))]) (fun _=>[]) (fun _=>[]) 0 (fun k=>k<=gs.length/\∀ g∈gs.take k,g.weight<=300) (fun k=>gs.length - k) 0 ⟨Nat.zero_le _,fun g h=>(by cases h)⟩ rfl (by (repeat first | exact trivial | refine ⟨rfl,?_⟩)) (by (repeat first | exact trivial | refine ⟨rfl,?_⟩)) rfl (by (repeat' (first | exact trivial | constructor))) (by (repeat' exact trivial)) fun k ⟨hk,hw⟩=>?_
  (repeat (first | refine cj_seq ?_ | refine cjr TT rfl ?_ | refine oj_then ?_))
  refine cj_if rfl (fun h=>?_) (fun h=>?_)
  rotate_left
  · have hk0:k=gs.length:=by have:=of_decide_eq_false h;omega
    rw [hk0,List.take_length] at hw
    (repeat (first | refine cj_seq ?_ | refine cjr TT rfl ?_ | refine oj_then ?_ | refine cj_exit ?_ | refine cj_ret ?_ | refine nj_then ?_ | refine nj_then_exit ?_ | refine nj_block_out ?_))
    refine nj_ret TT rfl fun β w' _ _=>?_
    exact ⟨true,rfl,fun _=>⟨h6,hw⟩⟩
  have hkl:k<gs.length:=by have:=of_decide_eq_true h;omega
  obtain ⟨r,hr1,hr2⟩:=hR.get (List.getElem?_eq_getElem hkl)
  have htk:gs.take (k+1)=gs.take k++[gs[k]]:=List.take_succ_eq_append_getElem hkl
  generalize gs[k]=g at *
  obtain ⟨la,lc',lrows,ma,mc,vrows,rfl,V⟩:=hr2.open
  (repeat (first | refine cj_seq ?_ | refine cjr TT rfl ?_ | refine cj_skip ?_ | refine cj_block ?_ | refine nj_then ?_))
  refine oj_idx TT rfl rfl rfl rfl rfl rfl rfl rfl rfl H (by omega) hr1 (oj_run TT rfl ?_)
  refine oj_callP rfl rfl rfl rfl rfl Tryz.call13 (by (repeat' (first | exact trivial | exact vCells_lt _ _ _ _ _ _ | constructor))) (Few_c σ g _ 300 V.rep (by omega) (by omega)) fun v ⟨fb,hv,hfew⟩=>⟨.a (.b fb),trivial,hv.symm,?_⟩
  refine oj_run TT rfl ?_
  (repeat refine oj_then ?_)
  refine cj_if rfl (fun h=>?_) (fun h=>?_)
  · (repeat (first | refine cj_seq ?_ | refine cjr TT rfl ?_ | refine oj_then ?_ | refine cj_ret ?_ | refine nj_then_ret ?_ | refine nj_block_ret ?_))
    refine nj_ret TT rfl fun β w' _ _=>?_
    exact ⟨false,rfl,fun h=>(by cases h)⟩
  have hwg:g.weight<=300:=by
    have:=hfew (by simpa using h)
    omega
  (repeat (first | refine cjr TT rfl ?_ | refine oj_nil ?_ | refine cj_skip ?_ | refine nj_then ?_ | refine nj_block ?_ | (refine oj_add rfl rfl rfl rfl rfl rfl (by omega) ?_;refine oj_run TT rfl ?_)))
  refine nj_again (k+1) ⟨hkl,fun x hx=>?_⟩ (by omega) rfl (by (repeat first | exact trivial | refine ⟨rfl,?_⟩)) (by (repeat first | exact trivial | refine ⟨rfl,?_⟩)) rfl (by (repeat' (first | exact trivial | constructor))) (by (repeat' exact trivial))
  rw [htk] at hx
  rcases List.mem_append.1 hx with hx | hx
  · exact hw x hx
  · rw [List.mem_singleton] at hx
    subst hx
    exact hwg
structure MadeOk (gap:Int) (X:GIx) (k:Nat):Prop where
  idx:IdxP X.ds X.xs X.next
  doc:∀ d∈X.ds,∃ g:GVal,g.wf/\sane g=0/\g.weight<=300/\d.L=(shredV gap g 0 false emptyS 0).1/\soundG d.L=true/\RecsOk d.L/\d.L.length<=300
  id:∀ d∈X.ds,0<=d.id/\d.id<k
  num:X.ds.length<=k
  fit:GFit (k*300) ⟨X.xs,X.next,[]⟩
theorem made0 (gap:Int):MadeOk gap ix0 0:=⟨IdxP.nil,fun _ h=>(by cases h),fun _ h=>(by cases h),Nat.le_refl _,⟨Nat.le_refl _,Nat.le_refl _,by decide,fun _ h=>(by cases h)⟩⟩
theorem MadeOk.skip {gap:Int} {X:GIx} {k:Nat} (h:MadeOk gap X k):MadeOk gap X (k+1) :=
  ⟨h.idx,h.doc,fun d hd=>by have:=h.id d hd;omega,by have:=h.num;omega,h.fit.mono (by omega)⟩
theorem MadeOk.shr {gap:Int} (hg:0<gap) {X:GIx} {k:Nat} (h:MadeOk gap X k):∀ d∈X.ds,ShrD d:=fun d hd=>by
  obtain ⟨g,hw,-,-,e,-⟩:=h.doc d hd
  exact ⟨gap,g,hg,hw,e⟩
theorem shred_levels {gap:Int} (hg:0<gap) (g:GVal):levelsOk 0 (shredV gap g 0 false emptyS 0).1:=by
  have:=nested_shred (φ:=fun x=>x) (fun a b _ h=>h) (gap:=gap) hg g false emptyS (by omega)
  rw [stE_id,List.map_id] at this
  unfold nestedG at this
  simp only [Bool.and_eq_true] at this
  exact nest_levels _ 0 [] (-1) this.1
set_option maxRecDepth 100000 in
set_option maxHeartbeats 4000000 in
theorem made_c (σ:Snap) (gs:List GVal) (rows:List (List AT)) (hR:RepL σ gs rows) (h6:gs.length<=6) (hw:∀ g∈gs,g.weight<=300) (lo:Option Addr) (lc:Nat) (H:SlAt σ lo gs.length lc 8 rows) :
    PureS Tryz.prog 29 [.a (.v (.slice lo gs.length lc))] σ (fun v σ'=>∃ X:GIx,v=(SV.agg (ixCells X)).den β0/\IxAt σ' X/\MadeOk 1 X gs.length):=by
  refine enter_s Tryz.func29 rfl rfl (by (repeat' (first | exact trivial | constructor))) fun w=>?_
  (repeat (first | refine cj_seq ?_ | refine cjr TT rfl ?_ | refine oj_then ?_))
  refine oj_callP rfl rfl rfl rfl rfl Tryz.call38 (by (repeat' exact trivial)) (New_c σ) fun v hv=>⟨.agg (ixCells ix0),ixCells_lt _ _,hv.symm,?_⟩
  refine oj_run TT rfl ?_
  (repeat (first | refine cj_seq ?_ | refine cjr TT rfl ?_ | refine oj_then ?_ | refine cj_block ?_))
  refine cj_loop2 (fun (s:Snap) (_:Nat×GIx)=>s) (fun _ t=>[(0,.a (.v (.slice lo gs.length lc))),(2,.a (.p 0 0)),(3,.a (.p 1 0)),(4,.a (.v (.int .i64 (t.1:Nat))))]) (fun _ t=>[(0,.loc 60,ixCells ix0),(1,.loc 60,ixCells t.2)]) (fun _ _=>[]) 2
    (fun s t=>σ.le s/\t.1<=gs.length/\IxAt s t.2/\MadeOk 1 t.2 t.1) (fun _ t=>gs.length - t.1) σ (0,ix0) ⟨Snap.le_refl _,Nat.zero_le _,ix0_at σ,made0 1⟩ rfl (by (repeat first | exact trivial | refine ⟨rfl,?_⟩)) (by (repeat first | exact trivial | refine ⟨rfl,?_⟩)) rfl ⟨trivial,by show 0<2;omega,by show 1<2;omega,trivial,trivial⟩
    (by exact ⟨⟨by omega,ixCells_lt 2 _⟩,⟨by omega,ixCells_lt 2 _⟩,trivial⟩) fun s ⟨k,X⟩ ⟨hle,hk,IX,M⟩=>?_
  dsimp only at hk IX M ⊢
  have H:=H.mono hle
  (repeat (first | refine cj_seq ?_ | refine cjr TT rfl ?_ | refine oj_then ?_))
  refine cj_if rfl (fun h=>?_) (fun h=>?_)
  rotate_left
  · have hk0:k=gs.length:=by have:=of_decide_eq_false h;omega
    subst hk0
    (repeat (first | refine cj_seq ?_ | refine cjr TT rfl ?_ | refine oj_then ?_ | refine cj_exit ?_ | refine cj_ret ?_ | refine nj_then ?_ | refine nj_then_exit ?_ | refine nj_block_out ?_))
    refine nj_ret TT rfl fun β w' _ _=>?_
    exact ⟨X,rfl,IX,M⟩
  have hkl:k<gs.length:=by have:=of_decide_eq_true h;omega
  obtain ⟨r,hr1,hr2⟩:=hR.get (List.getElem?_eq_getElem hkl)
  have hwg:=hw gs[k] (List.getElem_mem hkl)
  generalize gs[k]=g at *
  have hr2:=hr2.mono hle
  obtain ⟨la,lc',lrows,ma,mc,vrows,rfl,V⟩:=hr2.open
  (repeat (first | refine cj_seq ?_ | refine cjr TT rfl ?_ | refine cj_skip ?_ | refine cj_block ?_ | refine nj_then ?_))
  refine oj_idx TT rfl rfl rfl rfl rfl rfl rfl rfl rfl H (by omega) hr1 (oj_run TT rfl ?_)
  refine oj_callS rfl rfl rfl rfl rfl Tryz.call39 ⟨vCells_lt _ _ _ _ _ _,trivial,trivial⟩ (Shred_s s g _ 1 V.rep (by omega)) fun v s1 hle1 ⟨ao,cap,hv,HL⟩=>⟨.tup [.a (.v (.slice ao (shredG g 1).1.length cap)),.a (.v (.int .i64 (shredG g 1).2))],(by (repeat' (first | exact trivial | refine SV.lt_tup ?_ | constructor))),hv.symm,?_⟩
  rw [shredG_k (by omega) (by omega)] at HL ⊢
  have IX:=IX.mono hle1
  by_cases hs:sane g≠0
  · rw [if_pos hs] at HL ⊢
    dsimp only at HL ⊢
    refine oj_run TT rfl ?_
    (repeat (first | refine cj_seq ?_ | refine cjr TT rfl ?_ | refine oj_then ?_))
    refine cj_if rfl (fun h=>?_) (fun h=>absurd (by simpa using h) hs)
    (repeat (first | refine cjr TT rfl ?_ | refine oj_nil ?_ | refine cj_exit ?_ | refine nj_then ?_ | refine nj_then_exit ?_ | refine nj_block_out ?_ | (refine oj_add rfl rfl rfl rfl rfl rfl (by omega) ?_;refine oj_run TT rfl ?_)))
    refine nj_again (s1,(k+1,X)) ⟨Snap.le_trans hle hle1,hkl,IX,M.skip⟩ (by dsimp only;omega) rfl (by (repeat first | exact trivial | refine ⟨rfl,?_⟩)) (by (repeat first | exact trivial | refine ⟨rfl,?_⟩)) rfl ⟨trivial,by show 0<2;omega,by show 1<2;omega,trivial,trivial⟩ (by exact ⟨⟨by omega,ixCells_lt 2 _⟩,⟨by omega,ixCells_lt 2 _⟩,trivial⟩)
  have hs:sane g=0:=by simpa using hs
  rw [if_neg (by simp [hs])] at HL ⊢
  dsimp only at HL ⊢
  obtain ⟨hc1,hc2,hc3,hsound,R,-⟩:=shred_facts V.rep (gap:=1) (by omega) (by omega) (by omega) hs rfl
  have hlev:=shred_levels (gap:=1) (by omega) g
  have hwf:=V.rep.wf
  generalize hLdef:(shredV 1 g 0 false emptyS 0).1=L at *
  refine oj_run TT rfl ?_
  (repeat (first | refine cj_seq ?_ | refine cjr TT rfl ?_ | refine oj_then ?_))
  refine cj_if rfl (fun h=>absurd h (by decide)) (fun _=>?_)
  (repeat (first | refine cj_seq ?_ | refine cjr TT rfl ?_ | refine cj_skip ?_ | refine nj_then ?_))
  have hnum:=M.num
  have hadd:=IxAdd_c s1 X IX M.idx k L R (by omega) hsound hlev ao cap HL (fun d hd=>(M.id d hd).2) (by omega) (k*300) M.fit (by omega)
  refine oj_set 27 (.agg (ixCells X)) rfl (ixCells_lt _ _) (fun _=>rfl) ?_
  refine oj_callS rfl rfl rfl rfl rfl Tryz.call40 ⟨ixCells_lt 0 X,(by (repeat' (first | exact trivial | refine AllLt.of ?_ | constructor))),trivial⟩ hadd fun v s2 hle2 ⟨X',hv,IX',hP',⟨lo',lc2,ids,hds⟩,hfit⟩=>⟨.tup [.agg (ixCells X'),.a (.v (.int .i64 0))],(by intro x hx;simp only [List.mem_cons,List.not_mem_nil,or_false] at hx;rcases hx with rfl | rfl;exact ixCells_lt 0 X';trivial),hv.symm,?_⟩
  refine oj_run TT rfl ?_
  (repeat (first | refine cj_seq ?_ | refine cjr TT rfl ?_ | refine oj_then ?_))
  refine cj_if rfl (fun _=>?_) (fun h=>absurd h (by decide))
  (repeat (first | refine cjr TT rfl ?_ | refine oj_nil ?_ | refine nj_then ?_ | refine nj_block ?_ | (refine oj_add rfl rfl rfl rfl rfl rfl (by omega) ?_;refine oj_run TT rfl ?_)))
  have M':MadeOk 1 X' (k+1):=by
    refine ⟨hP',fun d hd=>?_,fun d hd=>?_,?_,hfit.mono (by omega)⟩
    · rw [hds] at hd
      rcases List.mem_append.1 hd with hd | hd
      · exact M.doc d hd
      · rw [List.mem_singleton] at hd
        subst hd
        exact ⟨g,hwf,hs,hwg,hLdef.symm,hsound,R,by show L.length<=300;omega⟩
    · rw [hds] at hd
      rcases List.mem_append.1 hd with hd | hd
      · have:=M.id d hd
        omega
      · rw [List.mem_singleton] at hd
        subst hd
        show 0<=(k:Int)/\(k:Int)<((k+1:Nat):Int)
        omega
    · rw [hds,List.length_append,List.length_singleton]
      omega
  refine nj_again (s2,(k+1,X')) ⟨Snap.le_trans hle (Snap.le_trans hle1 hle2),hkl,IX',M'⟩ (by dsimp only;omega) rfl (by (repeat first | exact trivial | refine ⟨rfl,?_⟩)) (by (repeat first | exact trivial | refine ⟨rfl,?_⟩)) rfl ⟨trivial,by show 0<2;omega,by show 1<2;omega,trivial,trivial⟩ (by exact ⟨⟨by omega,ixCells_lt 2 _⟩,⟨by omega,ixCells_lt 2 _⟩,trivial⟩)
end Go.Sy
namespace Go.Sy
open Go.Proofs
def awA:List GItem:=[⟨0,0,1,10,0⟩,⟨0,0,2,9,1⟩]
def awD:List GItem:=[⟨0,0,2,9,1⟩,⟨0,0,3,4,2⟩]
theorem awA_lam:Lam awA:=⟨by decide,by decide⟩
theorem awD_lam:Lam awD:=⟨by decide,by decide⟩
theorem aw_pairs:pairsG awA awD false=[(0,0),(0,1),(1,1)]:=by decide
set_option maxRecDepth 100000 in
set_option maxHeartbeats 2000000 in
theorem awake20_c (σ:Snap):PureS Tryz.prog 27 [] σ (fun v _=>v=.bool true):=by
  refine enter_s Tryz.func27 rfl rfl (by (repeat' exact trivial)) fun w=>?_
  (repeat (first | refine cj_seq ?_ | refine cjr TT rfl ?_ | refine oj_then ?_))
  refine oj_own 0 2 5 rfl (by (repeat' (first | exact trivial | refine AllLt.of ?_ | constructor))) rfl (by decide) fun ga=>?_
  refine oj_seal 0 rfl rfl rfl fun s1 hle1 hS1=>?_
  refine oj_own 1 2 5 rfl (by (repeat' (first | exact trivial | refine AllLt.of ?_ | constructor))) rfl (by decide) fun gd=>?_
  refine oj_seal 0 rfl rfl rfl fun s2 hle2 hS2=>?_
  have HA:SlAt s2 (some ⟨ga,0,none⟩) awA.length 2 5 (itRows awA):=(it_sealed (l:=awA) hS1 (by decide)).mono hle2
  have HD:SlAt s2 (some ⟨gd,0,none⟩) awD.length 2 5 (itRows awD):=it_sealed (l:=awD) hS2 (by decide)
  refine oj_callS rfl rfl rfl rfl rfl Tryz.call31 ⟨trivial,trivial,trivial,trivial⟩ (show PureS Tryz.prog 31 [.a (.v (.slice (some ⟨ga,0,none⟩) 2 2)),.a (.v (.slice (some ⟨gd,0,none⟩) 2 2)),.a .ff] s2 _ from Pairs_c s2 awA awD (by decide) (by decide) _ _ HA _ _ HD awA_lam awD_lam (by decide) false)
    fun v s3 hle3 ⟨po,pc,n,hv,hn,HP⟩=>⟨.tup [.a (.v (.slice po 3 pc)),.a (.v (.int .i64 n))],(by (repeat' (first | exact trivial | refine SV.lt_tup ?_ | constructor))),by rw [hv,aw_pairs];rfl,?_⟩
  rw [aw_pairs] at HP
  have hn:n<=2:=hn
  have HA:=HA.mono hle3
  refine oj_run TT rfl ?_
  (repeat (first | refine cj_seq ?_ | refine cjr TT rfl ?_ | refine oj_then ?_))
  refine oj_split 20 rfl (fun _=>?_) (fun h=>absurd h (by decide))
  refine oj_run TT rfl ?_
  refine oj_split 24 rfl (fun _=>?_) (fun h=>absurd (of_decide_eq_false (show decide ((0:Int)<=n)=false from h)) (by omega))
  refine oj_run TT rfl ?_
  refine oj_split 28 rfl (fun _=>?_) (fun h=>absurd (of_decide_eq_false (show decide ((n:Int)<=2)=false from h)) (by omega))
  refine oj_run TT rfl ?_
  refine oj_callP rfl rfl rfl rfl rfl Tryz.call33 (by (repeat' (first | exact trivial | constructor))) (Sound20_c s3 awA (by decide) _ _ HA) fun v hv=>⟨.a .tt,trivial,by rw [hv,lam_sound awA_lam];rfl,?_⟩
  refine oj_run TT rfl ?_
  refine oj_idx TT rfl rfl rfl rfl rfl rfl rfl rfl rfl HP (by decide) (r:=prCells (1,1)) rfl (oj_run TT rfl ?_)
  refine oj_split 39 rfl (fun _=>?_) (fun h=>absurd h (by decide))
  refine oj_run TT rfl ?_
  refine oj_idx TT rfl rfl rfl rfl rfl rfl rfl rfl rfl HP (by decide) (r:=prCells (1,1)) rfl (oj_run TT rfl ?_)
  (repeat (first | refine oj_then ?_ | refine cj_ret ?_))
  refine nj_ret TT rfl fun β w' _ _=>?_
  rfl
def allOf (X:GIx):List GItem:=X.ds.flatMap fun d=>itemsD d.id d.L
theorem allOf_len {gap:Int} {X:GIx} {k:Nat} (M:MadeOk gap X k):(allOf X).length<=k*300:=by
  have h1:=M.num
  have h2:∀ d∈X.ds,d.L.length<=300:=fun d hd=>by obtain ⟨_,_,_,_,_,_,_,h⟩:=M.doc d hd;exact h
  have:∀ (ds:List GDoc),(∀ d∈ds,d.L.length<=300)->(ds.flatMap fun d=>itemsD d.id d.L).length<=ds.length*300:=by
    intro ds
    induction ds with
    | nil=>intro _;exact Nat.le_refl _
    | cons d ds ih =>
      intro h
      have e1:=ih fun x hx=>h x (List.mem_cons_of_mem d hx)
      have e2:=h d List.mem_cons_self
      rw [List.flatMap_cons,List.length_append,itemsD_len,List.length_cons,Nat.succ_mul]
      omega
  have h3:=this X.ds h2
  have h4:X.ds.length*300<=k*300:=Nat.mul_le_mul_right _ h1
  exact Nat.le_trans h3 h4
theorem allOf_lv {gap:Int} {X:GIx} {k:Nat} (M:MadeOk gap X k):∀ x∈allOf X,0<=x.lv/\x.lv<=300:=by
  intro x hx
  obtain ⟨d,hd,hx⟩:=List.mem_flatMap.1 hx
  obtain ⟨y,hy,rfl⟩:=List.mem_map.1 hx
  obtain ⟨_,_,_,_,_,hs,_,hl⟩:=M.doc d hd
  have hy:y.1∈d.L:=by
    have:=List.mem_map_of_mem (f:=Prod.fst) hy
    rw [List.zipIdx_map_fst] at this
    exact this
  have:=sound_levels hs y.1 hy
  show 0<=y.1.lv/\y.1.lv<=300
  omega
theorem allOf_lam {gap:Int} (hg:0<gap) {X:GIx} {k:Nat} (M:MadeOk gap X k):Lam (allOf X):=lam_idx M.idx.ord (M.shr hg)
end Go.Sy
namespace Go.Sy
open Go.Proofs
def upto (n:Nat):List Int:=(List.range n).map Int.ofNat
theorem upto_len (n:Nat):(upto n).length=n:=by simp [upto]
theorem upto_get {n k:Nat} (h:k<n):(upto n)[k]?=some (k:Int):=by
  unfold upto
  rw [List.getElem?_map,List.getElem?_range h]
  rfl
theorem upto_succ (n:Nat):upto (n+1)=upto n++[(n:Int)]:=by
  unfold upto
  rw [List.range_succ,List.map_append]
  rfl
set_option maxRecDepth 100000 in
set_option maxHeartbeats 2000000 in
theorem kept_c (σ:Snap) (a:List GItem) (ha:a.length<=100000) (ao:Option Addr) (ac:Nat) (HA:SlAt σ ao a.length ac 5 (itRows a)) (po:Option Addr) (pc:Nat) (HP:SlAt σ po a.length pc 1 (idRows (upto a.length))) :
    PureS Tryz.prog 90 [.a (.v (.slice ao a.length ac)),.a (.v (.slice po a.length pc))] σ (fun v σ'=>∃ oo oc,v=.slice oo a.length oc/\SlAt σ' oo a.length oc 5 (itRows a)):=by
  refine enter_s Tryz.func90 rfl rfl (by (repeat' (first | exact trivial | constructor))) fun w=>?_
  (repeat (first | refine cj_seq ?_ | refine cjr TT rfl ?_ | refine oj_then ?_ | refine cj_block ?_))
  refine cj_nilarr 71 5 ?_
  skip
  refine cj_loop (fun (_:OnS)=>σ) (fun t=>[(0,.a (.v (.slice ao a.length ac))),(5,.a (.v (.slice t.oo t.o.length t.oc))),(8,.a (.v (.slice po a.length pc))),(9,.a (.v (.int .i64 a.length))),(10,.a (.v (.int .i64 (t.k:Nat))))]) (fun _=>[]) (fun t=>[itE t.oo t.oc t.o]) 0
    (fun t=>t.k<=a.length/\t.o=a.take t.k/\t.o.length<=t.oc) (fun t=>a.length - t.k) ⟨0,[],none,0⟩ ⟨Nat.zero_le _,rfl,Nat.le_refl _⟩ rfl (by (repeat first | exact trivial | refine ⟨rfl,?_⟩)) (by (repeat first | exact trivial | refine ⟨rfl,?_⟩)) rfl (by (repeat' (first | exact trivial | constructor))) (by (repeat' exact trivial)) fun ⟨k,o,oo,oc⟩ ⟨hk,ho,hoc⟩=>?_
  dsimp only at hk ho hoc ⊢
  (repeat (first | refine cj_seq ?_ | refine cjr TT rfl ?_ | refine oj_then ?_))
  refine cj_if rfl (fun h=>?_) (fun h=>?_)
  rotate_left
  · have hk0:k=a.length:=by have:=of_decide_eq_false h;omega
    rw [hk0,List.take_length] at ho
    subst ho
    (repeat (first | refine cj_seq ?_ | refine cjr TT rfl ?_ | refine oj_then ?_ | refine cj_exit ?_ | refine cj_ret ?_ | refine nj_then ?_ | refine nj_then_exit ?_ | refine nj_block_out ?_))
    refine nj_seal 0 rfl rfl fun σ' hle' hS=>?_
    refine nj_ret TT rfl fun β w' _ _=>?_
    exact ⟨oo,oc,rfl,it_sealed hS hoc⟩
  have hkl:k<a.length:=by have:=of_decide_eq_true h;omega
  have hrow:=itRows_get (List.getElem?_eq_getElem hkl)
  have hrow2:=idRows_get (upto_get hkl)
  have htk:a.take (k+1)=a.take k++[a[k]]:=List.take_succ_eq_append_getElem hkl
  have hol:o.length<=k:=by rw [ho,List.length_take];omega
  generalize a[k]=x at *
  (repeat (first | refine cj_seq ?_ | refine cjr TT rfl ?_ | refine cj_skip ?_ | refine cj_block ?_ | refine nj_then ?_))
  refine oj_idx TT rfl rfl rfl rfl rfl rfl rfl rfl rfl HP (by omega) hrow2 (oj_run TT rfl ?_)
  (repeat (first | refine cjr TT rfl ?_ | refine oj_then ?_))
  refine oj_idx TT rfl rfl rfl rfl rfl rfl rfl rfl rfl HA (by omega) hrow (oj_run TT rfl ?_)
  refine oj_append_lit TT 0 rfl rfl rfl rfl rfl rfl rfl rfl rfl rfl rfl rfl rfl rfl rfl rfl rfl rfl (itCells_lt 0 _) rfl (by omega) (by show (o.length+1)*40<=_;omega) fun oo' oc' hoc'=>oj_run TT rfl ?_
  (repeat (first | refine cjr TT rfl ?_ | refine oj_nil ?_ | refine nj_then ?_ | refine nj_block ?_ | (refine oj_add rfl rfl rfl rfl rfl rfl (by omega) ?_;refine oj_run TT rfl ?_)))
  have hl1:(o++[x]).length=o.length+1:=by simp
  refine nj_again (⟨k+1,o++[x],oo',oc'⟩:OnS) ⟨hkl,by dsimp only;rw [htk,ho],by dsimp only;omega⟩ (by dsimp only;omega) rfl ?_ (by (repeat first | exact trivial | refine ⟨rfl,?_⟩)) ?_ (by (repeat' (first | exact trivial | constructor))) (by (repeat' exact trivial))
  · dsimp only
    rw [hl1]
    (repeat first | exact trivial | refine ⟨rfl,?_⟩)
  · show [_]=[_]
    dsimp only
    unfold itE
    rw [hl1,<-itXs_push]
    rfl
structure GLL where
  o:Option Addr
  c:Nat
  l:List GItem
def llCells (x:GLL):List AT:=[.v (.slice x.o x.l.length x.c)]
theorem llCells_lt (n:Nat) (x:GLL):∀ c∈llCells x,c.lt n:=by simp [llCells,AT.lt]
def llRows (ls:List GLL):List (List AT):=ls.map llCells
theorem llRows_get {ls:List GLL} {i:Nat} {x:GLL} (h:ls[i]?=some x):(llRows ls)[i]?=some (llCells x):=by unfold llRows;rw [List.getElem?_map,h];rfl
structure LLOk (σ:Snap) (x:GLL):Prop where
  at_:SlAt σ x.o x.l.length x.c 5 (itRows x.l)
  len:x.l.length<=100000
  lam:Lam x.l
  lv:∀ z∈x.l,-1000000000000<=z.lv/\z.lv<=1000000000000
theorem LLOk.mono {σ σ':Snap} {x:GLL} (h:LLOk σ x) (hle:σ.le σ'):LLOk σ' x:=⟨h.at_.mono hle,h.len,h.lam,h.lv⟩
set_option maxRecDepth 100000 in
set_option maxHeartbeats 1000000 in
theorem Chain1_c (σ:Snap) (x:GLL) (h:LLOk σ x):PlainS Tryz.prog 89 [.a (.v (.slice x.o x.l.length x.c))] σ (fun v=>v=.bool false):=by
  have hlen:=h.len
  refine enter_p Tryz.func89 rfl rfl (by (repeat' (first | exact trivial | constructor))) fun w=>?_
  (repeat (first | refine cj_seq ?_ | refine cjr TT rfl ?_ | refine oj_then ?_))
  refine oj_callP rfl rfl rfl rfl rfl Tryz.call33 (by (repeat' (first | exact trivial | constructor))) (Sound20_c σ x.l (by omega) x.o x.c h.at_) fun v hv=>⟨.a .tt,trivial,by rw [hv,lam_sound h.lam];rfl,?_⟩
  refine oj_run TT rfl ?_
  (repeat (first | refine oj_then ?_ | refine cj_ret ?_))
  refine nj_ret TT rfl fun β w' _ _=>?_
  rfl
set_option maxRecDepth 100000 in
set_option maxHeartbeats 1000000 in
theorem IndexLL_c (σ:Snap) (ls:List GLL) (hl:ls.length<=1000) (hok:∀ x∈ls,LLOk σ x) (ao:Option Addr) (ac:Nat) (H:SlAt σ ao ls.length ac 1 (llRows ls)) :
    PlainS Tryz.prog 163 [.a (.v (.slice ao ls.length ac)),.a (.fn (.func 89) [])] σ (fun v=>v=.int .i64 (-1)):=by
  refine enter_p Tryz.func163 rfl rfl (by (repeat' (first | exact trivial | exact SV.lt_fn0 | constructor))) fun w=>?_
  (repeat (first | refine cj_seq ?_ | refine cjr TT rfl ?_ | refine oj_then ?_ | refine cj_block ?_))
  refine cj_loop (fun (_:Nat)=>σ) (fun k=>[(0,.a (.v (.slice ao ls.length ac))),(1,.a (.fn (.func 89) [])),(7,.a (.v (.int .i64 ls.length))),(8,.a (.v (.int .i64 k)))]) (fun _=>[]) (fun _=>[]) 0 (fun k=>k<=ls.length) (fun k=>ls.length - k) 0 (Nat.zero_le _) rfl (by (repeat first | exact trivial | refine ⟨rfl,?_⟩)) (by (repeat first | exact trivial | refine ⟨rfl,?_⟩)) rfl (by (repeat' (first | exact trivial | exact SV.lt_fn0 | constructor))) (by (repeat' exact trivial)) fun k hk=>?_
  (repeat (first | refine cj_seq ?_ | refine cjr TT rfl ?_ | refine oj_then ?_))
  refine cj_if rfl (fun h=>?_) (fun h=>?_)
  rotate_left
  · (repeat (first | refine cj_seq ?_ | refine cjr TT rfl ?_ | refine oj_then ?_ | refine cj_exit ?_ | refine cj_ret ?_ | refine nj_then ?_ | refine nj_then_exit ?_ | refine nj_block_out ?_))
    refine nj_ret TT rfl fun β w' _ _=>?_
    rfl
  have hkl:k<ls.length:=by have:=of_decide_eq_true h;omega
  have hrow:=llRows_get (List.getElem?_eq_getElem hkl)
  have hx:=hok ls[k] (List.getElem_mem hkl)
  generalize ls[k]=x at *
  (repeat (first | refine cj_seq ?_ | refine cjr TT rfl ?_ | refine oj_then ?_ | refine cj_skip ?_ | refine cj_block ?_ | refine nj_then ?_))
  refine oj_idx TT rfl rfl rfl rfl rfl rfl rfl rfl rfl H (by omega) hrow (oj_run TT rfl ?_)
  refine oj_callP rfl rfl rfl rfl rfl Tryz.call89 (by (repeat' (first | exact trivial | constructor))) (Chain1_c σ x hx) fun v hv=>⟨.a .ff,trivial,hv.symm,?_⟩
  refine oj_run TT rfl ?_
  (repeat (first | refine cjr TT rfl ?_ | refine oj_then ?_ | refine oj_nil ?_ | refine cj_if_f rfl ?_ | refine cj_skip ?_ | refine nj_then ?_ | refine nj_block ?_ | (refine oj_add rfl rfl rfl rfl rfl rfl (by omega) ?_;refine oj_run TT rfl ?_)))
  refine nj_again (k+1) (show k+1<=ls.length from hkl) (by omega) rfl (by (repeat first | exact trivial | refine ⟨rfl,?_⟩)) (by (repeat first | exact trivial | refine ⟨rfl,?_⟩)) rfl (by (repeat' (first | exact trivial | exact SV.lt_fn0 | constructor))) (by (repeat' exact trivial))
set_option maxRecDepth 100000 in
set_option maxHeartbeats 1000000 in
theorem ContainsLL_c (σ:Snap) (ls:List GLL) (hl:ls.length<=1000) (hok:∀ x∈ls,LLOk σ x) (ao:Option Addr) (ac:Nat) (H:SlAt σ ao ls.length ac 1 (llRows ls)) :
    PlainS Tryz.prog 88 [.a (.v (.slice ao ls.length ac)),.a (.fn (.func 89) [])] σ (fun v=>v=.bool false):=by
  refine enter_p Tryz.func88 rfl rfl (by (repeat' (first | exact trivial | exact SV.lt_fn0 | constructor))) fun w=>?_
  (repeat (first | refine cj_seq ?_ | refine cjr TT rfl ?_ | refine oj_then ?_))
  refine oj_callP rfl rfl rfl rfl rfl Tryz.call163 (by (repeat' (first | exact trivial | exact SV.lt_fn0 | constructor))) (IndexLL_c σ ls hl hok ao ac H) fun v hv=>⟨.a (.v (.int .i64 (-1))),trivial,hv.symm,?_⟩
  refine oj_run TT rfl ?_
  (repeat (first | refine oj_then ?_ | refine cj_ret ?_))
  refine nj_ret TT rfl fun β w' _ _=>?_
  rfl
set_option maxRecDepth 100000 in
set_option maxHeartbeats 1000000 in
theorem IndexOp_c (σ:Snap) (S:List OI) (hl:S.length<=1000000) (so:Option Addr) (sc:Nat) (H:SlAt σ so S.length sc 6 (opRows S)) (f:FuncId) (caps:List PT) (hcap:LtAll (caps.map ptSV))
    (hcall:∀ args w,(callFunc f args).run Tryz.prog w=.ok (.enter f args) w) (hlt:(SV.a (.fn (.func f) caps)).lt 0) (q:OI->Bool) (hq:∀ z∈S,PlainS Tryz.prog f (.agg (opCells z)::caps.map ptSV) σ (fun v=>v=.bool (q z))) :
    PlainS Tryz.prog 164 [.a (.v (.slice so S.length sc)),.a (.fn (.func f) caps)] σ (fun v=>∃ i:Int,v=.int .i64 i/\decide (0<=i)=S.any q):=by
  refine enter_p Tryz.func164 rfl rfl ⟨trivial,hlt,trivial⟩ fun w=>?_
  (repeat (first | refine cj_seq ?_ | refine cjr TT rfl ?_ | refine oj_then ?_ | refine cj_block ?_))
  refine cj_loop (fun (_:Nat)=>σ) (fun k=>[(0,.a (.v (.slice so S.length sc))),(1,.a (.fn (.func f) caps)),(7,.a (.v (.int .i64 S.length))),(8,.a (.v (.int .i64 k)))]) (fun _=>[]) (fun _=>[]) 0 (fun k=>k<=S.length/\(S.take k).any q=false) (fun k=>S.length - k) 0 ⟨Nat.zero_le _,rfl⟩ rfl (by (repeat first | exact trivial | refine ⟨rfl,?_⟩)) (by (repeat first | exact trivial | refine ⟨rfl,?_⟩)) rfl ⟨trivial,hlt,trivial,trivial,trivial⟩ trivial fun k ⟨hk,hp⟩=>?_
  (repeat (first | refine cj_seq ?_ | refine cjr TT rfl ?_ | refine oj_then ?_))
  refine cj_if rfl (fun h=>?_) (fun h=>?_)
  rotate_left
  · have hk0:k=S.length:=by have:=of_decide_eq_false h;omega
    rw [hk0,List.take_length] at hp
    (repeat (first | refine cj_seq ?_ | refine cjr TT rfl ?_ | refine oj_then ?_ | refine cj_exit ?_ | refine cj_ret ?_ | refine nj_then ?_ | refine nj_then_exit ?_ | refine nj_block_out ?_))
    refine nj_ret TT rfl fun β w' _ _=>?_
    exact ⟨-1,rfl,by rw [hp];rfl⟩
  have hkl:k<S.length:=by have:=of_decide_eq_true h;omega
  have hrow:=opRows_get (List.getElem?_eq_getElem hkl)
  have hz:=List.getElem_mem hkl
  have hqz:=hq S[k] hz
  have htk:S.take (k+1)=S.take k++[S[k]]:=List.take_succ_eq_append_getElem hkl
  generalize S[k]=z at *
  (repeat (first | refine cj_seq ?_ | refine cjr TT rfl ?_ | refine oj_then ?_ | refine cj_skip ?_ | refine cj_block ?_ | refine nj_then ?_))
  refine oj_idx TT rfl rfl rfl rfl rfl rfl rfl rfl rfl H (by omega) hrow (oj_run TT rfl ?_)
  refine oj_callP (ys:=.agg (opCells z)::caps.map ptSV) rfl rfl rfl rfl rfl hcall ⟨opCells_lt 0 z,hcap⟩ hqz fun v hv=>⟨.a (.b (q z)),trivial,hv.symm,?_⟩
  refine oj_run TT rfl ?_
  (repeat refine oj_then ?_)
  refine cj_if rfl (fun h=>?_) (fun h=>?_)
  · have h:q z=true:=h
    (repeat (first | refine cj_seq ?_ | refine cjr TT rfl ?_ | refine oj_then ?_ | refine cj_ret ?_ | refine nj_then_ret ?_ | refine nj_block_ret ?_))
    refine nj_ret TT rfl fun β w' _ _=>?_
    refine ⟨(k:Int),rfl,?_⟩
    rw [decide_eq_true (by omega)]
    symm
    rw [List.any_eq_true]
    exact ⟨z,hz,h⟩
  · have h:q z=false:=h
    (repeat (first | refine cjr TT rfl ?_ | refine oj_nil ?_ | refine cj_skip ?_ | refine nj_then ?_ | refine nj_block ?_ | (refine oj_add rfl rfl rfl rfl rfl rfl (by omega) ?_;refine oj_run TT rfl ?_)))
    refine nj_again (k+1) ⟨hkl,by rw [htk,List.any_append,hp,List.any_cons,h];rfl⟩ (by omega) rfl (by (repeat first | exact trivial | refine ⟨rfl,?_⟩)) (by (repeat first | exact trivial | refine ⟨rfl,?_⟩)) rfl ⟨trivial,hlt,trivial,trivial,trivial⟩ trivial
set_option maxRecDepth 100000 in
set_option maxHeartbeats 1000000 in
theorem ContainsOp_c (σ:Snap) (S:List OI) (hl:S.length<=1000000) (so:Option Addr) (sc:Nat) (H:SlAt σ so S.length sc 6 (opRows S)) (f:FuncId) (caps:List PT) (hcap:LtAll (caps.map ptSV))
    (hcall:∀ args w,(callFunc f args).run Tryz.prog w=.ok (.enter f args) w) (hlt:(SV.a (.fn (.func f) caps)).lt 0) (q:OI->Bool) (hq:∀ z∈S,PlainS Tryz.prog f (.agg (opCells z)::caps.map ptSV) σ (fun v=>v=.bool (q z))) :
    PlainS Tryz.prog 92 [.a (.v (.slice so S.length sc)),.a (.fn (.func f) caps)] σ (fun v=>v=.bool (S.any q)):=by
  refine enter_p Tryz.func92 rfl rfl ⟨trivial,hlt,trivial⟩ fun w=>?_
  (repeat (first | refine cj_seq ?_ | refine cjr TT rfl ?_ | refine oj_then ?_))
  refine oj_callP rfl rfl rfl rfl rfl Tryz.call164 ⟨trivial,hlt,trivial⟩ (IndexOp_c σ S hl so sc H f caps hcap hcall hlt q hq) fun v ⟨i,hv,hi⟩=>⟨.a (.v (.int .i64 i)),trivial,hv.symm,?_⟩
  refine oj_run TT rfl ?_
  (repeat (first | refine oj_then ?_ | refine cj_ret ?_))
  refine nj_ret TT rfl fun β w' _ _=>?_
  exact congrArg Value.bool hi
set_option maxRecDepth 100000 in
set_option maxHeartbeats 1000000 in
theorem Chain3_c (σ:Snap) (gl gn g6 gk:Nat) (lo:Option Addr) (lc:Nat) (ls:List GLL) (HL:SlAt σ lo ls.length lc 1 (llRows ls)) (n:Nat) (d:GLL) (hd:ls[n]?=some d) (hok:LLOk σ d) (k:Nat) (x:GItem) (hx:d.l[k]?=some x) (kid:Bool)
    (h1:σ.cell ⟨gl,0,none⟩=some (.slice lo ls.length lc)) (h2:σ.cell ⟨gn,0,none⟩=some (.int .i64 n)) (h3:σ.cell ⟨g6,0,none⟩=some (.int .i64 k)) (h4:σ.cell ⟨gk,0,none⟩=some (.bool kid)) (z:OI) (hz:-1000000000000<=z.1.lv/\z.1.lv<=1000000000000) :
    PlainS Tryz.prog 93 [.agg (opCells z),.a (.v (.pointer (some ⟨gl,0,none⟩))),.a (.v (.pointer (some ⟨gn,0,none⟩))),.a (.v (.pointer (some ⟨g6,0,none⟩))),.a (.v (.pointer (some ⟨gk,0,none⟩)))] σ (fun v=>v=.bool (fitsI z.1 x kid)):=by
  have hrow1:=llRows_get hd
  have hrow2:=itRows_get hx
  refine enter_p Tryz.func93 rfl rfl ⟨opCells_lt 0 z,trivial,trivial,trivial,trivial,trivial⟩ fun w=>?_
  (repeat (first | refine cj_seq ?_ | refine cjr TT rfl ?_ | refine oj_then ?_))
  refine cj_draw [(0,.pure),(1,.quiet),(2,.quiet),(3,.quiet),(4,.pure),(5,.quiet),(6,.quiet),(7,.pure),(8,.quiet),(9,.quiet),(10,.keep),(11,.pure)] mixed (by kernel_rfl) (oj_run TT rfl ?_)
  refine oj_ldS (c:=.v (.slice lo ls.length lc)) TT rfl rfl rfl rfl rfl rfl rfl rfl h1 trivial (oj_run TT rfl ?_)
  refine oj_ldS (c:=.v (.int .i64 n)) TT rfl rfl rfl rfl rfl rfl rfl rfl h2 trivial (oj_run TT rfl ?_)
  refine oj_idx TT rfl rfl rfl rfl rfl rfl rfl rfl rfl HL (by omega) hrow1 (oj_run TT rfl ?_)
  refine oj_ldS (c:=.v (.int .i64 k)) TT rfl rfl rfl rfl rfl rfl rfl rfl h3 trivial (oj_run TT rfl ?_)
  refine oj_idx TT rfl rfl rfl rfl rfl rfl rfl rfl rfl hok.at_ (by omega) hrow2 (oj_run TT rfl ?_)
  refine oj_ldS (c:=.b kid) TT rfl rfl rfl rfl rfl rfl rfl rfl h4 trivial (oj_run TT rfl ?_)
  refine oj_callP (ys:=[.agg (itCells z.1),.agg (itCells x),.a (.b kid)]) rfl rfl rfl rfl rfl Tryz.call87 ⟨itCells_lt 0 _,itCells_lt 0 _,trivial,trivial⟩ (fits_c σ z.1 x kid hz) fun v hv=>⟨.a (.b (fitsI z.1 x kid)),trivial,hv.symm,?_⟩
  refine oj_run TT rfl ?_
  (repeat (first | refine oj_then ?_ | refine cj_ret ?_))
  refine nj_ret TT rfl fun β w' _ _=>?_
  rfl
theorem fnLt4 (f:FuncId) (g1 g2 g3 g4:Nat):(SV.a (.fn (.func f) [.val (.pointer (some ⟨g1,0,none⟩)),.val (.pointer (some ⟨g2,0,none⟩)),.val (.pointer (some ⟨g3,0,none⟩)),.val (.pointer (some ⟨g4,0,none⟩))])).lt 0:=by
  intro p hp
  simp only [List.mem_cons,List.not_mem_nil,or_false] at hp
  rcases hp with rfl | rfl | rfl | rfl<;>trivial
set_option maxRecDepth 100000 in
set_option maxHeartbeats 2000000 in
theorem Chain2_c (σ:Snap) (gl gn gk go:Nat) (lo:Option Addr) (lc:Nat) (ls:List GLL) (HL:SlAt σ lo ls.length lc 1 (llRows ls)) (n:Nat) (d:GLL) (hd:ls[n]?=some d) (hok:LLOk σ d) (k:Nat) (x:GItem) (hx:d.l[k]?=some x) (kid:Bool)
    (h1:σ.cell ⟨gl,0,none⟩=some (.slice lo ls.length lc)) (h2:σ.cell ⟨gn,0,none⟩=some (.int .i64 n)) (h4:σ.cell ⟨gk,0,none⟩=some (.bool kid)) (S:List OI) (hS:S.length<=100000) (hSl:∀ z∈S,-1000000000000<=z.1.lv/\z.1.lv<=1000000000000) (so:Option Addr) (sc:Nat) (hsc:S.length<=sc)
    (o:List Int) (ho:o.length<=1000000) (po:Option Addr) (pc:Nat) (hpc:o.length<=pc) :
    FnS Tryz.prog 91 [.a (.v (.int .i64 k)),.a (.v (.slice so S.length sc)),.a (.v (.pointer (some ⟨gl,0,none⟩))),.a (.v (.pointer (some ⟨gn,0,none⟩))),.a (.v (.pointer (some ⟨gk,0,none⟩))),.a (.v (.pointer (some ⟨go,0,none⟩)))] σ [opE so sc S,outE go 74 po o.length pc,idE po pc o]
      (fun v _ A'=>v=.tuple #[]/\∃ po' pc',(o++if S.any (fun z=>fitsI z.1 x kid) then [(k:Int)] else []).length<=pc'/\A'=[opE so sc S,outE go 74 po' (o++if S.any (fun z=>fitsI z.1 x kid) then [(k:Int)] else []).length pc',idE po' pc' (o++if S.any (fun z=>fitsI z.1 x kid) then [(k:Int)] else [])]):=by
  refine enter_f Tryz.func91 rfl rfl (by (repeat' (first | exact trivial | constructor))) fun w=>?_
  (repeat (first | refine cj_seq ?_ | refine cjr TT rfl ?_ | refine oj_then ?_))
  refine oj_own 0 1 1 rfl (by (repeat' (first | exact trivial | refine AllLt.of ?_ | constructor))) rfl (by decide) fun g6=>?_
  refine oj_seal 3 rfl rfl rfl fun s1 hle1 hS1=>?_
  have h3:=cell1_of hS1
  refine oj_peekP rfl rfl rfl rfl rfl Tryz.call92 ⟨trivial,fnLt4 93 gl gn g6 gk,trivial⟩ (fun s2 hle2 hA=>ContainsOp_c s2 S (by omega) so sc (op_sealed (hA 0 _ rfl) hsc) 93 [.val (.pointer (some ⟨gl,0,none⟩)),.val (.pointer (some ⟨gn,0,none⟩)),.val (.pointer (some ⟨g6,0,none⟩)),.val (.pointer (some ⟨gk,0,none⟩))] ⟨trivial,trivial,trivial,trivial,trivial⟩ Tryz.call93 (fnLt4 93 gl gn g6 gk) (fun z=>fitsI z.1 x kid)
    fun z hz=>Chain3_c s2 gl gn g6 gk lo lc ls ((HL.mono hle1).mono hle2) n d hd ((hok.mono hle1).mono hle2) k x hx kid (hle2.cell (hle1.cell h1)) (hle2.cell (hle1.cell h2)) (hle2.cell h3) (hle2.cell (hle1.cell h4)) z (hSl z hz)) fun v hv=>⟨.a (.b (S.any fun z=>fitsI z.1 x kid)),trivial,hv.symm,?_⟩
  refine oj_run TT rfl ?_
  (repeat refine oj_then ?_)
  refine cj_if rfl (fun h=>?_) (fun h=>?_)
  · have h:(S.any fun z=>fitsI z.1 x kid)=true:=h
    rw [h,if_pos rfl]
    (repeat refine cjr TT rfl ?_)
    refine oj_ldA 1 (c:=.v (.slice po o.length pc)) TT rfl rfl rfl rfl rfl rfl rfl rfl rfl rfl rfl trivial (oj_run TT rfl ?_)
    refine oj_ldS (c:=.v (.int .i64 k)) TT rfl rfl rfl rfl rfl rfl rfl rfl h3 trivial (oj_run TT rfl ?_)
    refine oj_append_lit TT 2 rfl rfl rfl rfl rfl rfl rfl rfl rfl rfl rfl rfl rfl rfl rfl rfl rfl rfl (by (repeat' (first | exact trivial | refine AllLt.of ?_ | constructor))) rfl (by omega) (by show (o.length+1)*8<=_;omega) fun po1 pc1 hpc1=>oj_run TT rfl ?_
    refine oj_stA 1 (A':=[opE so sc S,outE go 74 po1 (o.length+1) pc1,⟨po1,o.length+1,pc1,3,1,idXs o++[.int .i64 k]⟩]) TT rfl rfl rfl rfl rfl rfl rfl rfl rfl rfl (by show 0<1*1;omega) trivial rfl rfl (oj_run TT rfl ?_)
    (repeat refine oj_nil ?_)
    refine nj_fend TT rfl fun β w' _ _=>?_
    have hl1:(o++[(k:Int)]).length=o.length+1:=by simp
    rw [hl1]
    refine ⟨rfl,po1,pc1,hpc1,?_⟩
    unfold idE idXs
    rw [hl1,List.map_append]
    rfl
  · have h:(S.any fun z=>fitsI z.1 x kid)=false:=h
    rw [h,if_neg (by decide),List.append_nil]
    (repeat refine cj_skip ?_)
    refine nj_fend TT rfl fun β w' _ _=>?_
    exact ⟨rfl,po,pc,hpc,rfl⟩
end Go.Sy
