/- Parts of the proof of CStreamsUp: S2, S3, S4, Je, S5, S6, XCl, XRow, CFacts, SFacts, Cv. No conditions. -/
import Derived.Test.YtlonlnagmfdlbaaGreatDoorM10
import Derived.Carry
import Derived.RowKit
import Derived.ChangeStays
import Derived.ChangeSame
import Derived.ReadAgain
import Derived.SizedLaws
import Derived.Deep.DeepHandedRow
import Derived.ProofKit
import Derived.OpenShut
import Derived.Lay
import Derived.SevenTiedAt
import Derived.Stop.Joined
import Derived.Test.YtlonlnagmfdlbaaGreatDoorCards
import Derived.Test.YtlonlnagmfdlbaaGreatDoorTie
import Derived.Shelf.Vars
namespace Go.Sy
open Go.Proofs
set_option maxRecDepth 100000 in
set_option maxHeartbeats 4000000 in
theorem on_f (σ:Snap) (X:GIx) (IX:IxAt σ X) (hl:X.ds.length<=1000) (hd:∀ d∈X.ds,d.ids.length=d.L.length/\d.L.length<=100000) (f:FuncId) (caps:List PT) (hcap:LtAll (caps.map ptSV))
    (hcall:∀ args w,(callFunc f args).run Tryz.prog w=.ok (.enter f args) w) (hlt:(SV.a (.fn (.func f) caps)).lt 0) (q:Int->Bool) (hq:∀ k:Int,PlainS Tryz.prog f (.a (.v (.int .i64 k))::caps.map ptSV) σ (fun v=>v=.bool (q k))) :
    FnS Tryz.prog 83 [.agg (ixCells X),.a (.fn (.func f) caps)] σ [] (fun v _ A'=>∃ oo oc,v=.slice oo (onG q X.ds).length oc/\(onG q X.ds).length<=oc/\A'=[itE oo oc (onG q X.ds)]):=by
  have hlt1:=SV.lt_mono (Nat.zero_le 1) hlt
  have hlt3:=SV.lt_mono (Nat.zero_le 3) hlt
  refine enter_f Tryz.func83 rfl rfl ⟨ixCells_lt 0 X,hlt,trivial⟩ fun w=>?_
  (repeat (first | refine cj_seq ?_ | refine cjr TT rfl ?_ | refine oj_then ?_))
  refine oj_mm rfl rfl rfl rfl rfl rfl rfl (oj_run TT rfl ?_)
  refine oj_slice_to TT X.ds.length rfl rfl rfl rfl rfl rfl rfl rfl rfl (by show (if (X.ds.length:Int)<X.ds.length then _ else _)=_;split<;>rfl) IX.docs.ncap IX.docs.ncap (oj_run TT rfl ?_)
  refine oj_then ?_
  refine cj_nilarr 71 5 ?_
  (repeat refine cj_block ?_)
  refine cj_loop (fun (_:OnS)=>σ) (fun t=>[(1,.a (.fn (.func f) caps)),(2,.a (.p 0 0)),(5,.a (.v (.slice t.oo t.o.length t.oc))),(19,.a (.v (.slice X.o X.ds.length X.c))),(20,.a (.v (.int .i64 X.ds.length))),(21,.a (.v (.int .i64 (t.k:Nat))))])
    (fun _=>[(0,.loc 60,ixCells X)]) (fun t=>[itE t.oo t.oc t.o]) 1 (fun t=>t.k<=X.ds.length/\t.o=onG q (X.ds.take t.k)/\t.o.length<=t.oc/\t.o.length<=t.k*100000) (fun t=>X.ds.length - t.k) ⟨0,[],none,0⟩
    ⟨Nat.zero_le _,rfl,Nat.le_refl _,Nat.zero_le _⟩ rfl (by (repeat first | exact trivial | refine ⟨rfl,?_⟩)) (by (repeat first | exact trivial | refine ⟨rfl,?_⟩)) rfl ⟨hlt1,Nat.zero_lt_one,trivial,trivial,trivial,trivial,trivial⟩ (by exact ⟨⟨Nat.zero_lt_one,ixCells_lt 1 X⟩,trivial⟩) fun ⟨k,o,oo,oc⟩ ⟨hk,ho,hoc,hol⟩=>?_
  dsimp only at hk ho hoc hol ⊢
  (repeat (first | refine cj_seq ?_ | refine cjr TT rfl ?_ | refine oj_then ?_))
  refine cj_if rfl (fun h=>?_) (fun h=>?_)
  rotate_left
  · have hk0:k=X.ds.length:=by have:=of_decide_eq_false h;omega
    rw [hk0,List.take_length] at ho
    subst ho
    (repeat (first | refine cj_seq ?_ | refine cjr TT rfl ?_ | refine oj_then ?_ | refine cj_exit ?_ | refine cj_ret ?_ | refine nj_then ?_ | refine nj_then_exit ?_ | refine nj_block_out ?_))
    refine nj_fret TT rfl fun β w' _ _=>?_
    exact ⟨oo,oc,rfl,hoc,rfl⟩
  have hkl:k<X.ds.length:=by have:=of_decide_eq_true h;omega
  have hdk:=List.getElem?_eq_getElem hkl
  have hrow:=doRows_get hdk
  have hrow2:=liRows_get hdk
  have hdm:=hd X.ds[k] (List.getElem_mem hkl)
  have hdd:=IX.doc X.ds[k] (List.getElem_mem hkl)
  have hnext:=onG_succ (q:=q) hdk
  rw [<-ho] at hnext
  generalize X.ds[k]=d at *
  obtain ⟨hdi,hdl⟩:=hdm
  (repeat (first | refine cj_seq ?_ | refine cjr TT rfl ?_ | refine cj_skip ?_ | refine cj_block ?_ | refine nj_then ?_))
  refine oj_idx TT rfl rfl rfl rfl rfl rfl rfl rfl rfl IX.docs (by omega) hrow (oj_run TT rfl ?_)
  (repeat (first | refine cj_seq ?_ | refine cjr TT rfl ?_ | refine oj_then ?_))
  refine oj_idx TT rfl rfl rfl rfl rfl rfl rfl rfl rfl IX.lines (by omega) hrow2 (oj_run TT rfl ?_)
  (repeat (first | refine oj_then ?_ | refine cj_block ?_))
  refine cj_loop (fun (_:OnS)=>σ) (fun t=>[(1,.a (.fn (.func f) caps)),(2,.a (.p 0 0)),(5,.a (.v (.slice t.oo t.o.length t.oc))),(7,.a (.p 2 0)),(19,.a (.v (.slice X.o X.ds.length X.c))),(20,.a (.v (.int .i64 X.ds.length))),(21,.a (.v (.int .i64 k))),(30,.a (.v (.slice d.lo d.ids.length d.lcap))),(31,.a (.v (.int .i64 d.ids.length))),(32,.a (.v (.int .i64 (t.k:Nat))))])
    (fun _=>[(0,.loc 60,ixCells X),(2,.loc 90,doCells d)]) (fun t=>[itE t.oo t.oc t.o]) 3 (fun t=>t.k<=d.ids.length/\t.o=o++onP q d t.k/\t.o.length<=t.oc) (fun t=>d.ids.length - t.k) ⟨0,o,oo,oc⟩
    ⟨Nat.zero_le _,(List.append_nil o).symm,hoc⟩ rfl (by (repeat first | exact trivial | refine ⟨rfl,?_⟩)) (by (repeat first | exact trivial | refine ⟨rfl,?_⟩)) rfl ⟨hlt3,by show 0<3;omega,trivial,by show 2<3;omega,trivial,trivial,trivial,trivial,trivial,trivial,trivial⟩ (by exact ⟨⟨by omega,ixCells_lt 3 X⟩,⟨by omega,doCells_lt 3 d⟩,trivial⟩) fun ⟨j,o1,oo,oc⟩ ⟨hj,ho1,hoc⟩=>?_
  dsimp only at hj ho1 hoc ⊢
  have hpl:=onP_len q d j
  have hlen1:o1.length=o.length+(onP q d j).length:=by rw [ho1,List.length_append]
  (repeat (first | refine cj_seq ?_ | refine cjr TT rfl ?_ | refine oj_then ?_))
  refine cj_if rfl (fun h=>?_) (fun h=>?_)
  rotate_left
  · have hj0:j=d.ids.length:=by have:=of_decide_eq_false h;omega
    subst hj0
    rw [onP_all q d hdi] at ho1
    (repeat (first | refine cjr TT rfl ?_ | refine oj_nil ?_ | refine cj_exit ?_ | refine nj_then ?_ | refine nj_then_exit ?_ | refine nj_block ?_ | refine nj_block_out ?_ | (refine oj_add rfl rfl rfl rfl rfl rfl (by omega) ?_;refine oj_run TT rfl ?_)))
    refine nj_again (⟨k+1,o1,oo,oc⟩:OnS) ⟨hkl,by dsimp only;rw [hnext,ho1],hoc,by dsimp only;rw [Nat.succ_mul];omega⟩ (by dsimp only;omega) rfl (by (repeat first | exact trivial | refine ⟨rfl,?_⟩)) (by (repeat first | exact trivial | refine ⟨rfl,?_⟩)) rfl ⟨hlt1,Nat.zero_lt_one,trivial,trivial,trivial,trivial,trivial⟩ (by exact ⟨⟨Nat.zero_lt_one,ixCells_lt 1 X⟩,trivial⟩)
  have hjl:j<d.ids.length:=by have:=of_decide_eq_true h;omega
  have hkj:=List.getElem?_eq_getElem hjl
  have hrj:d.L[j]?=some (d.L[j]'(by omega)):=List.getElem?_eq_getElem (by omega)
  have hrow3:=idRows_get hkj
  have hit:=item_c σ d hdd.1 j _ hrj
  have hsucc:=onP_succ (q:=q) hkj hrj
  generalize d.ids[j]=x at *
  generalize d.L[j]'(by omega)=r at *
  (repeat (first | refine cj_seq ?_ | refine cjr TT rfl ?_ | refine cj_skip ?_ | refine cj_block ?_ | refine nj_then ?_))
  refine oj_idx TT rfl rfl rfl rfl rfl rfl rfl rfl rfl hdd.2 (by omega) hrow3 (oj_run TT rfl ?_)
  (repeat (first | refine cj_seq ?_ | refine cjr TT rfl ?_ | refine oj_then ?_))
  refine oj_split 42 rfl (fun _=>?_) (fun h=>absurd (of_decide_eq_false (show decide ((j:Int)<d.L.length)=false from h)) (by omega))
  refine oj_run TT rfl ?_
  refine oj_callP (ys:=.a (.v (.int .i64 x))::caps.map ptSV) rfl rfl rfl rfl rfl hcall ⟨trivial,hcap⟩ (hq x) fun v hv=>⟨.a (.b (q x)),trivial,hv.symm,?_⟩
  refine oj_run TT rfl ?_
  (repeat refine oj_then ?_)
  refine cj_if rfl (fun h=>?_) (fun h=>?_)
  · have h:q x=true:=h
    rw [h,if_pos rfl] at hsucc
    (repeat refine cjr TT rfl ?_)
    refine oj_set 48 (.agg (doCells d)) rfl (doCells_lt _ _) (fun _=>rfl) ?_
    refine oj_callP (ys:=[.agg (doCells d),.a (.v (.int .i64 j))]) rfl rfl rfl rfl rfl Tryz.call103 ⟨doCells_lt 0 d,trivial,trivial⟩ hit fun v hv=>⟨.agg (itCells (itemOf d.id r j)),itCells_lt _ _,hv.symm,?_⟩
    refine oj_run TT rfl ?_
    refine oj_append_lit TT 0 rfl rfl rfl rfl rfl rfl rfl rfl rfl rfl rfl rfl rfl rfl rfl rfl rfl rfl (itCells_lt 0 _) rfl (by omega) (by show (o1.length+1)*40<=_;omega) fun oo' oc' hoc'=>oj_run TT rfl ?_
    (repeat (first | refine cjr TT rfl ?_ | refine oj_nil ?_ | refine nj_then ?_ | refine nj_block ?_ | (refine oj_add rfl rfl rfl rfl rfl rfl (by omega) ?_;refine oj_run TT rfl ?_)))
    have hl1:(o1++[itemOf d.id r j]).length=o1.length+1:=by simp
    refine nj_again (⟨j+1,o1++[itemOf d.id r j],oo',oc'⟩:OnS) ⟨hjl,by dsimp only;rw [hsucc,ho1,List.append_assoc],by dsimp only;omega⟩ (by dsimp only;omega) rfl ?_ (by (repeat first | exact trivial | refine ⟨rfl,?_⟩)) ?_ ⟨hlt3,by show 0<3;omega,trivial,by show 2<3;omega,trivial,trivial,trivial,trivial,trivial,trivial,trivial⟩ (by exact ⟨⟨by omega,ixCells_lt 3 X⟩,⟨by omega,doCells_lt 3 d⟩,trivial⟩)
    · dsimp only
      rw [hl1]
      (repeat first | exact trivial | refine ⟨rfl,?_⟩)
    · show [_]=[_]
      dsimp only
      unfold itE
      rw [hl1,<-itXs_push]
      rfl
  · have h:q x=false:=h
    rw [h,if_neg (by decide),List.append_nil] at hsucc
    (repeat (first | refine cjr TT rfl ?_ | refine oj_nil ?_ | refine cj_skip ?_ | refine nj_then ?_ | refine nj_block ?_ | (refine oj_add rfl rfl rfl rfl rfl rfl (by omega) ?_;refine oj_run TT rfl ?_)))
    refine nj_again (⟨j+1,o1,oo,oc⟩:OnS) ⟨hjl,by dsimp only;rw [hsucc];exact ho1,hoc⟩ (by dsimp only;omega) rfl (by (repeat first | exact trivial | refine ⟨rfl,?_⟩)) (by (repeat first | exact trivial | refine ⟨rfl,?_⟩)) rfl ⟨hlt3,by show 0<3;omega,trivial,by show 2<3;omega,trivial,trivial,trivial,trivial,trivial,trivial,trivial⟩ (by exact ⟨⟨by omega,ixCells_lt 3 X⟩,⟨by omega,doCells_lt 3 d⟩,trivial⟩)
set_option maxRecDepth 100000 in
set_option maxHeartbeats 1000000 in
theorem Of1_c (σ:Snap) (g:Nat) (line:Int) (hg:σ.cell ⟨g,0,none⟩=some (.int .i64 line)) (k:Int) :
    PlainS Tryz.prog 165 [.a (.v (.int .i64 k)),.a (.v (.pointer (some ⟨g,0,none⟩)))] σ (fun v=>v=.bool (decide (k=line))):=by
  refine enter_p Tryz.func165 rfl rfl (by (repeat' (first | exact trivial | constructor))) fun w=>?_
  (repeat (first | refine cj_seq ?_ | refine cjr TT rfl ?_ | refine oj_then ?_))
  refine oj_ldS (c:=.v (.int .i64 line)) TT rfl rfl rfl rfl rfl rfl rfl rfl hg trivial (oj_run TT rfl ?_)
  (repeat (first | refine oj_then ?_ | refine cj_ret ?_))
  refine nj_ret TT rfl fun β w' _ _=>?_
  rfl
set_option maxRecDepth 100000 in
set_option maxHeartbeats 2000000 in
theorem Of_f (σ:Snap) (X:GIx) (IX:IxAt σ X) (hl:X.ds.length<=1000) (hd:∀ d∈X.ds,d.ids.length=d.L.length/\d.L.length<=100000) (line:Int) :
    FnS Tryz.prog 100 [.agg (ixCells X),.a (.v (.int .i64 line))] σ [] (fun v _ A'=>∃ oo oc,v=.slice oo (onG (fun k=>decide (k=line)) X.ds).length oc/\(onG (fun k=>decide (k=line)) X.ds).length<=oc/\A'=[itE oo oc (onG (fun k=>decide (k=line)) X.ds)]):=by
  refine enter_f Tryz.func100 rfl rfl ⟨ixCells_lt 0 X,trivial,trivial⟩ fun w=>?_
  (repeat (first | refine cj_seq ?_ | refine cjr TT rfl ?_ | refine oj_then ?_))
  refine oj_own 1 1 1 rfl (by (repeat' (first | exact trivial | refine AllLt.of ?_ | constructor))) rfl (by decide) fun g=>?_
  refine oj_seal 0 rfl rfl rfl fun s1 hle1 hS=>?_
  have hg:=cell1_of hS
  have IX:=IX.mono hle1
  refine oj_set 5 (.agg (ixCells X)) rfl (ixCells_lt _ _) (fun _=>rfl) ?_
  refine oj_callF [] (A0:=[]) (Ar:=[]) (ys:=[.agg (ixCells X),.a (.fn (.func 165) [.val (.pointer (some ⟨g,0,none⟩))])]) rfl rfl rfl rfl rfl rfl rfl Tryz.call83 ⟨ixCells_lt 0 X,fnLt1 165 g,trivial⟩ (on_f s1 X IX hl hd 165 [.val (.pointer (some ⟨g,0,none⟩))] ⟨trivial,trivial⟩ Tryz.call165 (fnLt1 165 g) (fun k=>decide (k=line)) fun k=>Of1_c s1 g line hg k) fun v s2 A' hle2 ⟨oo,oc,hv,hoc,hA⟩=>⟨.a (.v (.slice oo (onG (fun k=>decide (k=line)) X.ds).length oc)),trivial,hv.symm,?_⟩
  subst hA
  refine oj_run TT rfl ?_
  (repeat (first | refine oj_then ?_ | refine cj_ret ?_))
  refine nj_fret TT rfl fun β w' _ _=>?_
  exact ⟨oo,oc,rfl,hoc,rfl⟩
def FirstAt (q:GItem->Bool) (l:List GItem) (i:Int):Prop:=(i = -1/\∀ y∈l,q y=false)\/∃ (n:Nat) (x:GItem),i=n/\l[n]?=some x/\q x=true/\∀ y∈l.take n,q y=false
set_option maxRecDepth 100000 in
set_option maxHeartbeats 1000000 in
theorem IndexFuncIt_c (σ:Snap) (S:List GItem) (hl:S.length<=100000000) (so:Option Addr) (sc:Nat) (H:SlAt σ so S.length sc 5 (itRows S)) (f:FuncId) (caps:List PT) (hcap:LtAll (caps.map ptSV))
    (hcall:∀ args w,(callFunc f args).run Tryz.prog w=.ok (.enter f args) w) (hlt:(SV.a (.fn (.func f) caps)).lt 0) (q:GItem->Bool) (hq:∀ z∈S,PlainS Tryz.prog f (.agg (itCells z)::caps.map ptSV) σ (fun v=>v=.bool (q z))) :
    PlainS Tryz.prog 183 [.a (.v (.slice so S.length sc)),.a (.fn (.func f) caps)] σ (fun v=>∃ i:Int,v=.int .i64 i/\FirstAt q S i):=by
  refine enter_p Tryz.func183 rfl rfl ⟨trivial,hlt,trivial⟩ fun w=>?_
  (repeat (first | refine cj_seq ?_ | refine cjr TT rfl ?_ | refine oj_then ?_ | refine cj_block ?_))
  refine cj_loop (fun (_:Nat)=>σ) (fun k=>[(0,.a (.v (.slice so S.length sc))),(1,.a (.fn (.func f) caps)),(7,.a (.v (.int .i64 S.length))),(8,.a (.v (.int .i64 k)))]) (fun _=>[]) (fun _=>[]) 0 (fun k=>k<=S.length/\∀ y∈S.take k,q y=false) (fun k=>S.length - k) 0 ⟨Nat.zero_le _,fun y hy=>(by cases hy)⟩ rfl (by (repeat first | exact trivial | refine ⟨rfl,?_⟩)) (by (repeat first | exact trivial | refine ⟨rfl,?_⟩)) rfl ⟨trivial,hlt,trivial,trivial,trivial⟩ trivial fun k ⟨hk,hp⟩=>?_
  (repeat (first | refine cj_seq ?_ | refine cjr TT rfl ?_ | refine oj_then ?_))
  refine cj_if rfl (fun h=>?_) (fun h=>?_)
  rotate_left
  · have hk0:k=S.length:=by have:=of_decide_eq_false h;omega
    rw [hk0,List.take_length] at hp
    (repeat (first | refine cj_seq ?_ | refine cjr TT rfl ?_ | refine oj_then ?_ | refine cj_exit ?_ | refine cj_ret ?_ | refine nj_then ?_ | refine nj_then_exit ?_ | refine nj_block_out ?_))
    refine nj_ret TT rfl fun β w' _ _=>?_
    exact ⟨-1,rfl,.inl ⟨rfl,hp⟩⟩
  have hkl:k<S.length:=by have:=of_decide_eq_true h;omega
  have hx:=List.getElem?_eq_getElem hkl
  have hrow:=itRows_get hx
  have hqz:=hq S[k] (List.getElem_mem hkl)
  have htk:S.take (k+1)=S.take k++[S[k]]:=List.take_succ_eq_append_getElem hkl
  generalize S[k]=z at *
  (repeat (first | refine cj_seq ?_ | refine cjr TT rfl ?_ | refine oj_then ?_ | refine cj_skip ?_ | refine cj_block ?_ | refine nj_then ?_))
  refine oj_idx TT rfl rfl rfl rfl rfl rfl rfl rfl rfl H (by omega) hrow (oj_run TT rfl ?_)
  refine oj_callP (ys:=.agg (itCells z)::caps.map ptSV) rfl rfl rfl rfl rfl hcall ⟨itCells_lt 0 z,hcap⟩ hqz fun v hv=>⟨.a (.b (q z)),trivial,hv.symm,?_⟩
  refine oj_run TT rfl ?_
  (repeat refine oj_then ?_)
  refine cj_if rfl (fun h=>?_) (fun h=>?_)
  · have h:q z=true:=h
    (repeat (first | refine cj_seq ?_ | refine cjr TT rfl ?_ | refine oj_then ?_ | refine cj_ret ?_ | refine nj_then_ret ?_ | refine nj_block_ret ?_))
    refine nj_ret TT rfl fun β w' _ _=>?_
    exact ⟨(k:Int),rfl,.inr ⟨k,z,rfl,hx,h,hp⟩⟩
  · have h:q z=false:=h
    (repeat (first | refine cjr TT rfl ?_ | refine oj_nil ?_ | refine cj_skip ?_ | refine nj_then ?_ | refine nj_block ?_ | (refine oj_add rfl rfl rfl rfl rfl rfl (by omega) ?_;refine oj_run TT rfl ?_)))
    refine nj_again (k+1) ⟨hkl,fun y hy=>?_⟩ (by omega) rfl (by (repeat first | exact trivial | refine ⟨rfl,?_⟩)) (by (repeat first | exact trivial | refine ⟨rfl,?_⟩)) rfl ⟨trivial,hlt,trivial,trivial,trivial⟩ trivial
    rw [htk] at hy
    rcases List.mem_append.1 hy with hy | hy
    · exact hp y hy
    · rw [List.mem_singleton] at hy
      rw [hy]
      exact h
theorem itXs_cons (x:GItem) (l:List GItem):itXs (x::l)=(itCells x).map AT.val++itXs l:=by simp [itXs,itRows]
theorem itXs_set:∀ {l:List GItem} {i:Nat} (x:GItem),i<l.length->(itXs l).take (i*5)++(itCells x).map AT.val++(itXs l).drop (i*5+5)=itXs (l.set i x)
  | [],_,_,h=>by simp at h
  | y::l,0,x,_=>by
    rw [List.set_cons_zero,itXs_cons,itXs_cons]
    rfl
  | y::l,i+1,x,h=>by
    have ih:=itXs_set (l:=l) (i:=i) x (by simpa using h)
    rw [List.set_cons_succ,itXs_cons,itXs_cons,<-ih]
    have e1:(i+1)*5=(List.map AT.val (itCells y)).length+i*5:=by simp [itCells];omega
    rw [e1,Nat.add_assoc,List.take_length_add_append,List.drop_length_add_append]
    simp only [List.append_assoc]
structure DfAt (p:GItem->Bool) (l cur:List GItem) (i j:Nat):Prop where
  ij:i<j
  jl:j<=l.length
  len:cur.length=l.length
  kept:cur.take i=(l.take j).filter p
  rest:cur.drop j=l.drop j
theorem DfAt.start {q:GItem->Bool} {l:List GItem} {n:Nat} {x:GItem} (hx:l[n]?=some x) (hq:q x=true) (h:∀ y∈l.take n,q y=false):DfAt (fun x=>!q x) l l n (n+1):=by
  obtain ⟨hn,he⟩:=List.getElem?_eq_some_iff.1 hx
  refine ⟨Nat.lt_succ_self n,hn,rfl,?_,rfl⟩
  rw [List.take_succ_eq_append_getElem hn,he,List.filter_append,List.filter_eq_self.2 (fun y hy=>by simp [h y hy])]
  simp [hq]
theorem DfAt.get {p:GItem->Bool} {l cur:List GItem} {i j:Nat} {x:GItem} (h:DfAt p l cur i j) (hx:l[j]?=some x):cur[j]?=some x:=by
  have:=congrArg (·[0]?) h.rest
  simpa [List.getElem?_drop,hx] using this
theorem DfAt.skip {p:GItem->Bool} {l cur:List GItem} {i j:Nat} {x:GItem} (h:DfAt p l cur i j) (hx:l[j]?=some x) (hp:p x=false):DfAt p l cur i (j+1):=by
  obtain ⟨hj,he⟩:=List.getElem?_eq_some_iff.1 hx
  refine ⟨by have:=h.ij;omega,hj,h.len,?_,?_⟩
  · rw [h.kept,List.take_succ_eq_append_getElem hj,he,List.filter_append]
    simp [hp]
  · have:=congrArg List.tail h.rest
    rwa [List.tail_drop,List.tail_drop] at this
theorem DfAt.keep {p:GItem->Bool} {l cur:List GItem} {i j:Nat} {x:GItem} (h:DfAt p l cur i j) (hx:l[j]?=some x) (hp:p x=true):DfAt p l (cur.set i x) (i+1) (j+1):=by
  obtain ⟨hj,he⟩:=List.getElem?_eq_some_iff.1 hx
  have hij:=h.ij
  have hl:=h.len
  refine ⟨by omega,hj,by rw [List.length_set,hl],?_,?_⟩
  · have hi:i<(cur.set i x).length:=by rw [List.length_set];omega
    rw [List.take_succ_eq_append_getElem hi,List.getElem_set_self,List.take_set_of_le (Nat.le_refl i),h.kept,List.take_succ_eq_append_getElem hj,he,List.filter_append]
    simp [hp]
  · rw [List.drop_set_of_lt (by omega)]
    have:=congrArg List.tail h.rest
    rwa [List.tail_drop,List.tail_drop] at this
structure DfS where
  i:Nat
  j:Nat
  cur:List GItem
set_option maxRecDepth 100000 in
set_option maxHeartbeats 4000000 in
theorem DeleteFunc_c (σ:Snap) (l:List GItem) (hl:l.length<=100000000) (so:Option Addr) (sc:Nat) (hsc:l.length<=sc) (f:FuncId) (caps:List PT) (hcap:LtAll (caps.map ptSV))
    (hcall:∀ args w,(callFunc f args).run Tryz.prog w=.ok (.enter f args) w) (hlt:(SV.a (.fn (.func f) caps)).lt 0) (q:GItem->Bool) (hq:∀ s,σ.le s->∀ z,PlainS Tryz.prog f (.agg (itCells z)::caps.map ptSV) s (fun v=>v=.bool (q z))) :
    FnS Tryz.prog 118 [.a (.v (.slice so l.length sc)),.a (.fn (.func f) caps)] σ [itE so sc l] (fun v _ A'=>∃ to tc,v=.slice to (l.filter fun x=>!q x).length tc/\(l.filter fun x=>!q x).length<=tc/\A'=[itE to tc (l.filter fun x=>!q x)]):=by
  refine enter_f Tryz.func118 rfl rfl ⟨trivial,hlt,trivial⟩ fun w=>?_
  (repeat (first | refine cj_seq ?_ | refine cjr TT rfl ?_ | refine oj_then ?_))
  refine oj_peekP rfl rfl rfl rfl rfl Tryz.call183 ⟨trivial,hlt,trivial⟩ (fun σ' hle hA=>IndexFuncIt_c σ' l hl so sc (it_sealed (hA 0 _ rfl) hsc) f caps hcap hcall hlt q fun z _=>hq σ' hle z) fun v ⟨r,hv,hr⟩=>⟨.a (.v (.int .i64 r)),trivial,hv.symm,?_⟩
  refine oj_run TT rfl ?_
  (repeat (first | refine cj_seq ?_ | refine cjr TT rfl ?_ | refine oj_then ?_))
  refine cj_if rfl (fun h=>?_) (fun h=>?_)
  · have h:r = -1:=of_decide_eq_true h
    have hall:∀ y∈l,q y=false:=by
      rcases hr with ⟨-,h2⟩ | ⟨n,x,h2,-⟩
      · exact h2
      · omega
    rw [List.filter_eq_self.2 (fun y hy=>by simp [hall y hy])]
    (repeat (first | refine cj_seq ?_ | refine cjr TT rfl ?_ | refine oj_then ?_ | refine cj_ret ?_ | refine nj_then_ret ?_))
    refine nj_fret TT rfl fun β w' _ _=>?_
    exact ⟨so,sc,rfl,hsc,rfl⟩
  have h:¬ r = -1:=of_decide_eq_false h
  obtain ⟨n,x,rfl,hx,hqx,hn⟩:∃ (n:Nat) (x:GItem),r=n/\l[n]?=some x/\q x=true/\∀ y∈l.take n,q y=false:=by
    rcases hr with ⟨h2,-⟩ | h2
    · exact absurd h2 h
    · exact h2
  have D0:=DfAt.start hx hqx hn
  have hnl:=(List.getElem?_eq_some_iff.1 hx).1
  refine cj_arrAt 0 (E:=itE so sc l) rfl (show 0<l.length by omega) fun gb hgb=>?_
  have hgb:so=some ⟨gb,0,none⟩:=hgb
  subst hgb
  (repeat (first | refine cj_seq ?_ | refine cjr TT rfl ?_ | refine oj_then ?_ | refine cj_skip ?_ | refine cj_block ?_ | refine nj_then ?_ | (refine oj_add rfl rfl rfl rfl rfl rfl (by omega) ?_;refine oj_run TT rfl ?_)))
  refine cj_loop (fun (_:DfS)=>σ) (fun t=>[(0,.a (.v (.slice (some ⟨gb,0,none⟩) l.length sc))),(1,.a (.fn (.func f) caps)),(5,.a (.v (.int .i64 (t.i:Nat)))),(6,.a (.v (.int .i64 (t.j:Nat))))]) (fun _=>[]) (fun t=>[⟨some ⟨gb,0,none⟩,l.length,sc,71,5,itXs t.cur⟩]) 0
    (fun t=>DfAt (fun x=>!q x) l t.cur t.i t.j) (fun t=>l.length - t.j) ⟨n,n+1,l⟩ D0 rfl (by (repeat first | exact trivial | refine ⟨rfl,?_⟩)) (by (repeat first | exact trivial | refine ⟨rfl,?_⟩)) rfl ⟨trivial,hlt,trivial,trivial,trivial⟩ trivial fun ⟨i,j,cur⟩ D=>?_
  dsimp only at D ⊢
  have hij:=D.ij
  have hjl:=D.jl
  have hcl:=D.len
  (repeat (first | refine cj_seq ?_ | refine cjr TT rfl ?_ | refine oj_then ?_))
  refine cj_if rfl (fun h=>?_) (fun h=>?_)
  rotate_left
  · have hj0:j=l.length:=by have:=of_decide_eq_false h;omega
    have hk:=D.kept
    rw [hj0,List.take_length] at hk
    have hkl:(l.filter fun x=>!q x).length=i:=by rw [<-hk,List.length_take];omega
    have hcut:(⟨some ⟨gb,0,none⟩,l.length,sc,71,5,itXs cur⟩:AE).cut i=itE (some ⟨gb,0,none⟩) sc (l.filter fun x=>!q x):=by
      unfold AE.cut itE
      dsimp only
      rw [itXs_take,hk,hkl]
    (repeat (first | refine cj_seq ?_ | refine cjr TT rfl ?_ | refine cj_exit ?_ | refine nj_then ?_ | refine nj_then_exit ?_ | refine nj_block_out ?_))
    refine oj_slice TT i l.length rfl rfl rfl rfl rfl rfl rfl rfl rfl rfl (.inr ⟨_,_,rfl,rfl⟩) (.inl ⟨rfl,rfl⟩) (by omega) hsc hsc (oj_run TT rfl ?_)
    refine oj_cutArr 0 i rfl rfl (by show i<=l.length;omega) (congrArg (fun x=>[x]) hcut) ?_
    refine oj_clear_tail TT 0 (g:=gb) (q:=i) rfl rfl rfl rfl rfl rfl rfl rfl (Nat.le_of_eq hkl) (by show i+(l.length - i)<=sc;omega) (by
      by_cases h0:l.length - i=0
      · exact .inl h0
      · right
        rw [if_neg (by omega)]
        show some (Addr.add ⟨gb,0,none⟩ (i*5))=_
        rw [add0]) rfl rfl rfl rfl rfl rfl (oj_run TT rfl ?_)
    (repeat (first | refine cj_seq ?_ | refine cjr TT rfl ?_ | refine oj_then ?_))
    refine oj_slice_to TT i rfl rfl rfl rfl rfl rfl rfl rfl rfl rfl (by omega) hsc (oj_run TT rfl ?_)
    (repeat (first | refine oj_then ?_ | refine cj_ret ?_))
    refine nj_fret TT rfl fun β w' _ _=>?_
    exact ⟨some ⟨gb,0,none⟩,sc,by rw [hkl];rfl,by rw [hkl];omega,rfl⟩
  have hjl2:j<l.length:=by have:=of_decide_eq_true h;omega
  have hx:=List.getElem?_eq_getElem hjl2
  have hgj:=D.get hx
  generalize l[j]=y at *
  have had:∀ q:Nat,some (SV.a (AT.v (.pointer (some (Addr.add ⟨gb,0,none⟩ ((q:Int).toNat*5))))))=some (SV.a (AT.v (.pointer (some ⟨gb,q*5,none⟩)))):=fun q=>by
    rw [Int.toNat_natCast,add0]
  (repeat (first | refine cj_seq ?_ | refine cjr TT rfl ?_ | refine cj_skip ?_ | refine cj_block ?_ | refine nj_then ?_))
  refine oj_indexAddr TT rfl rfl rfl rfl rfl rfl rfl rfl rfl ⟨by omega,by omega⟩ (oj_run TT rfl ?_)
  refine oj_ldAs 0 (off:=j*5) TT (itCells y) rfl rfl rfl rfl rfl (had j) rfl rfl rfl rfl rfl (fun q c hc=>itXs_get hgj hc) (itCells_lt 0 y) (oj_run TT rfl ?_)
  (repeat (first | refine cj_seq ?_ | refine cjr TT rfl ?_ | refine oj_then ?_))
  refine oj_callP (ys:=.agg (itCells y)::caps.map ptSV) rfl rfl rfl rfl rfl hcall ⟨itCells_lt 0 y,hcap⟩ (hq σ (Snap.le_refl _) y) fun v hv=>⟨.a (.b (q y)),trivial,hv.symm,?_⟩
  refine oj_run TT rfl ?_
  (repeat refine oj_then ?_)
  refine cj_if rfl (fun h=>?_) (fun h=>?_)
  · have h:(!q y)=true:=h
    have D':=D.keep hx h
    (repeat (first | refine cj_seq ?_ | refine cjr TT rfl ?_))
    refine oj_indexAddr TT rfl rfl rfl rfl rfl rfl rfl rfl rfl ⟨by omega,by omega⟩ (oj_run TT rfl ?_)
    refine oj_stAs 0 (off:=i*5) (cs:=itCells y) (A':=[⟨some ⟨gb,0,none⟩,l.length,sc,71,5,itXs (cur.set i y)⟩]) TT rfl rfl rfl rfl (had i) rfl rfl rfl rfl rfl (by show i*5+5<=l.length*5;omega) (itCells_lt 0 y) rfl ?_ (oj_run TT rfl ?_)
    · show [_]=[_]
      rw [<-itXs_set y (by omega)]
      rfl
    (repeat (first | refine cjr TT rfl ?_ | refine oj_then ?_ | refine oj_nil ?_ | refine nj_then ?_ | refine nj_block ?_ | (refine oj_add rfl rfl rfl rfl rfl rfl (by omega) ?_;refine oj_run TT rfl ?_)))
    refine nj_again (⟨i+1,j+1,cur.set i y⟩:DfS) D' (by dsimp only;omega) rfl (by (repeat first | exact trivial | refine ⟨rfl,?_⟩)) (by (repeat first | exact trivial | refine ⟨rfl,?_⟩)) rfl ⟨trivial,hlt,trivial,trivial,trivial⟩ trivial
  · have h:(!q y)=false:=h
    have D':=D.skip hx h
    (repeat (first | refine cjr TT rfl ?_ | refine oj_nil ?_ | refine cj_skip ?_ | refine nj_then ?_ | refine nj_block ?_ | (refine oj_add rfl rfl rfl rfl rfl rfl (by omega) ?_;refine oj_run TT rfl ?_)))
    refine nj_again (⟨i,j+1,cur⟩:DfS) D' (by dsimp only;omega) rfl (by (repeat first | exact trivial | refine ⟨rfl,?_⟩)) (by (repeat first | exact trivial | refine ⟨rfl,?_⟩)) rfl ⟨trivial,hlt,trivial,trivial,trivial⟩ trivial
end Go.Sy
namespace Go.Sy
open Go.Proofs
theorem SlAt.adOf {σ:Snap} {ao:Option Addr} {n cap sz:Nat} {rows:List (List AT)} (H:SlAt σ ao n cap sz rows) (h:0<n):∃ ad,ao=some ad:=by
  rcases H.at_ with h0 | ⟨ad,h1,_⟩
  · omega
  · exact ⟨ad,h1⟩
set_option maxRecDepth 100000 in
set_option maxHeartbeats 1000000 in
theorem bytesEqual_c (σ:Snap) (a b:List UInt8) (ao:Option Addr) (ac:Nat) (HA:SlAt σ ao a.length ac 1 (u8Rows a)) (bo:Option Addr) (bc:Nat) (HB:SlAt σ bo b.length bc 1 (u8Rows b)) :
    PlainS Tryz.prog 120 [.a (.v (.slice ao a.length ac)),.a (.v (.slice bo b.length bc))] σ (fun v=>v=.bool (decide (a=b))):=by
  refine enter_p Tryz.func120 rfl rfl (by (repeat' (first | exact trivial | constructor))) fun w=>?_
  (repeat (first | refine cj_seq ?_ | refine cjr TT rfl ?_ | refine oj_then ?_))
  refine oj_strOf TT rfl rfl rfl rfl rfl rfl rfl rfl rfl rfl rfl rfl HA (oj_run TT rfl ?_)
  refine oj_strOf TT rfl rfl rfl rfl rfl rfl rfl rfl rfl rfl rfl rfl HB (oj_run TT rfl ?_)
  (repeat (first | refine oj_then ?_ | refine cj_ret ?_))
  refine nj_ret TT rfl fun β w' _ _=>?_
  show Value.bool (decide ((⟨a.toArray⟩:ByteArray)=⟨b.toArray⟩))=.bool (decide (a=b))
  congr 1
  rw [Bool.eq_iff_iff,decide_eq_true_eq,decide_eq_true_eq]
  exact ⟨fun h=>mkB_inj h,fun h=>by rw [h]⟩
set_option maxRecDepth 100000 in
set_option maxHeartbeats 2000000 in
theorem Equal1_c (σ:Snap) (m:Int) (hm:σ.cell ⟨0,0,none⟩=some (.int .i64 m)) (X:GIx) (IX:IxAt σ X) (hl:X.ds.length<=1000000) (ho:X.ds.Pairwise fun x y=>x.id<y.id) (hF:FitIx X)
    (g1:Nat) (hg1:∀ (j:Nat) c,(ixCells X)[j]?=some c->σ.cell ((⟨g1,0,none⟩:Addr).add j)=some (c.den β0)) (g2:Nat) (want:List UInt8) (wo:Option Addr) (wc:Nat) (hg2:σ.cell ⟨g2,0,none⟩=some (.slice wo want.length wc)) (HW:SlAt σ wo want.length wc 1 (u8Rows want)) (it:GItem) :
    PlainS Tryz.prog 119 [.agg (itCells it),.a (.v (.pointer (some ⟨g1,0,none⟩))),.a (.v (.pointer (some ⟨g2,0,none⟩)))] σ (fun v=>v=.bool (!decide (ixB X.ds it=want))):=by
  have hB:=ixBytes_c σ m hm X IX hl ho hF it
  generalize ixB X.ds it=z at *
  refine enter_p Tryz.func119 rfl rfl ⟨itCells_lt 0 it,trivial,trivial,trivial⟩ fun w=>?_
  (repeat (first | refine cj_seq ?_ | refine cjr TT rfl ?_ | refine oj_then ?_))
  refine cj_draw [(0,.quiet),(1,.quiet),(3,.quiet),(2,.keep),(4,.keep),(5,.pure),(6,.pure)] mixed (by kernel_rfl) (oj_run TT rfl ?_)
  refine oj_row 1 (ixCells X) rfl (ixCells_lt 0 X) hg1 (oj_run TT rfl ?_)
  refine oj_ldS (c:=.v (.slice wo want.length wc)) TT rfl rfl rfl rfl rfl rfl rfl rfl hg2 trivial (oj_run TT rfl ?_)
  refine oj_set 5 (.agg (ixCells X)) rfl (ixCells_lt _ _) (fun _=>rfl) ?_
  refine oj_set 6 (.agg (itCells it)) rfl (itCells_lt _ _) (fun _=>rfl) ?_
  refine oj_callS (ys:=[.agg (ixCells X),.agg (itCells it)]) rfl rfl rfl rfl rfl Tryz.call121 ⟨ixCells_lt 0 X,itCells_lt 0 it,trivial⟩ hB fun v s1 hle1 ⟨ao,cap,hv,HZ,hn⟩=>⟨.a (.v (.slice ao z.length cap)),trivial,hv.symm,?_⟩
  refine oj_run TT rfl ?_
  refine oj_callP rfl rfl rfl rfl rfl Tryz.call120 (by (repeat' (first | exact trivial | constructor))) (bytesEqual_c s1 z want ao cap HZ wo wc (HW.mono hle1)) fun v hv=>⟨.a (.b (decide (z=want))),trivial,hv.symm,?_⟩
  refine oj_run TT rfl ?_
  (repeat (first | refine oj_then ?_ | refine cj_ret ?_))
  refine nj_ret TT rfl fun β w' _ _=>?_
  rfl
def eqG (ds:List GDoc) (line:Int) (p:GPart):List GItem:=if rightG p then (onG (fun k=>decide (k=line)) ds).filter fun x=>decide (ixB ds x=pbytes p) else []
theorem onG_len {q:Int->Bool} {ds:List GDoc} {n k:Nat} (h:∀ d∈ds,d.L.length<=n) (hk:ds.length<=k):(onG q ds).length<=k*n:=by
  have:(onG q ds).length<=ds.length*n:=by
    clear hk
    induction ds with
    | nil=>exact Nat.zero_le _
    | cons d ds ih =>
      have h1:=ih fun x hx=>h x (List.mem_cons_of_mem d hx)
      have h2:=h d List.mem_cons_self
      have h3:(onD q d).length<=d.L.length:=by
        unfold onD
        rw [List.length_map]
        refine Nat.le_trans (List.length_filter_le _ _) ?_
        rw [List.length_zip,itemsD_len]
        omega
      have e:onG q (d::ds)=onD q d++onG q ds:=by unfold onG;rw [List.flatMap_cons]
      rw [e,List.length_append,List.length_cons,Nat.succ_mul]
      omega
  exact Nat.le_trans this (Nat.mul_le_mul_right _ hk)
theorem row_of {σ:Snap} {g e sz:Nat} {cs:List AT} (hlen:cs.length=sz) (hlt:∀ c∈cs,c.lt 0) (hS:ArrSealed σ ⟨some ⟨g,0,none⟩,1,1,e,sz,cs.map AT.val⟩):∀ (j:Nat) c,cs[j]?=some c->σ.cell ((⟨g,0,none⟩:Addr).add j)=some (c.den β0):=by
  have H:SlAt σ (some ⟨g,0,none⟩) 1 1 sz [cs]:=hS.sl (by simp) (fun r hr=>by rw [List.mem_singleton] at hr;subst hr;exact ⟨hlen,hlt⟩) rfl rfl (Nat.le_refl _)
  intro j c hc
  rcases H.at_ with h | ⟨ad,h1,h2⟩
  · cases h
  · injection h1 with h1
    subst h1
    have:=h2 0 cs j c rfl hc
    rw [Nat.zero_mul,Nat.zero_add] at this
    exact this
set_option maxRecDepth 100000 in
set_option maxHeartbeats 4000000 in
theorem EqualIx_c (σ:Snap) (m:Int) (hm:σ.cell ⟨0,0,none⟩=some (.int .i64 m)) (X:GIx) (IX:IxAt σ X) (hl:X.ds.length<=1000) (hd:∀ d∈X.ds,d.ids.length=d.L.length/\d.L.length<=100000) (ho:X.ds.Pairwise fun x y=>x.id<y.id) (hF:FitIx X) (line:Int) (p:GPart) (hp:p.n.dg.size<=mostLen/\p.s.size<=1000000) :
    PureS Tryz.prog 46 [.agg (ixCells X),.a (.v (.int .i64 line)),.agg (paCells p)] σ (fun v σ'=>∃ oo oc,v=.slice oo (eqG X.ds line p).length oc/\SlAt σ' oo (eqG X.ds line p).length oc 5 (itRows (eqG X.ds line p))):=by
  refine enter_s Tryz.func46 rfl rfl ⟨ixCells_lt 0 X,trivial,paCells_lt 0 p,trivial⟩ fun w=>?_
  (repeat (first | refine cj_seq ?_ | refine cjr TT rfl ?_ | refine oj_then ?_))
  refine oj_set 8 (.agg (paCells p)) rfl (paCells_lt _ _) (fun _=>rfl) ?_
  refine oj_callS (ys:=[.agg (paCells p)]) rfl rfl rfl rfl rfl Tryz.call117 ⟨paCells_lt 0 p,trivial⟩ (part_c σ m hm p hp) fun v s1 hle1 ⟨wo,wc,hv,HW,hn⟩=>⟨.a (.v (.slice wo (pbytes p).length wc)),trivial,hv.symm,?_⟩
  have IX:=IX.mono hle1
  have hm:=hle1.cell hm
  refine oj_run TT rfl ?_
  (repeat (first | refine cj_seq ?_ | refine cjr TT rfl ?_ | refine oj_then ?_ | (refine oj_slnil TT rfl rfl rfl rfl rfl rfl rfl rfl ?_;refine oj_run TT rfl ?_)))
  by_cases h:rightG p=true
  rotate_left
  · have h:rightG p=false:=by simpa using h
    have e:eqG X.ds line p=[]:=by unfold eqG;rw [h];rfl
    rw [e]
    rw [hn (pbytes_nil.2 h)]
    refine cj_if rfl (fun _=>?_) (fun h=>absurd h (by simp))
    (repeat (first | refine cj_seq ?_ | refine cjr TT rfl ?_ | refine oj_then ?_ | refine cj_ret ?_ | refine nj_then_ret ?_))
    refine nj_ret TT rfl fun β w' _ _=>?_
    exact ⟨none,0,rfl,SlAt.nil _ none 0 5⟩
  have hne:=pbytes_ne h
  have hpos:0<(pbytes p).length:=List.length_pos_iff.2 hne
  have e:eqG X.ds line p=(onG (fun k=>decide (k=line)) X.ds).filter fun x=>decide (ixB X.ds x=pbytes p):=by unfold eqG;rw [if_pos h]
  obtain ⟨wa,rfl⟩:=HW.adOf hpos
  have hlen:=onG_len (q:=fun k=>decide (k=line)) (n:=100000) (k:=1000) (fun d h=>(hd d h).2) hl
  refine cj_if rfl (fun h=>absurd h (by simp)) (fun _=>?_)
  (repeat (first | refine cj_seq ?_ | refine cjr TT rfl ?_ | refine cj_skip ?_ | refine nj_then ?_))
  refine oj_own 0 1 4 rfl (ixCells_lt 0 X) rfl (by decide) fun g1=>?_
  refine oj_own 2 1 1 rfl (by (repeat' (first | exact trivial | refine AllLt.of ?_ | constructor))) rfl (by decide) fun g2=>?_
  refine oj_seal 0 rfl rfl rfl fun s2 hle2 hS1=>?_
  refine oj_seal 0 rfl rfl rfl fun s3 hle3 hS2=>?_
  have hg1:=row_of (sz:=4) rfl (ixCells_lt 0 X) hS1
  have hg2:=cell1_of hS2
  have hg1:∀ (j:Nat) c,(ixCells X)[j]?=some c->s3.cell ((⟨g1,0,none⟩:Addr).add j)=some (c.den β0):=fun j c h=>hle3.cell (hg1 j c h)
  have hle:=Snap.le_trans hle2 hle3
  have IX:=IX.mono hle
  have hm:=hle.cell hm
  have HW:=HW.mono hle
  refine oj_set 12 (.agg (ixCells X)) rfl (ixCells_lt _ _) (fun _=>rfl) ?_
  refine oj_callF [] (A0:=[]) (Ar:=[]) (ys:=[.agg (ixCells X),.a (.v (.int .i64 line))]) rfl rfl rfl rfl rfl rfl rfl Tryz.call100 ⟨ixCells_lt 0 X,trivial,trivial⟩ (Of_f s3 X IX hl hd line) fun v s4 A' hle4 ⟨oo,oc,hv,hoc,hA⟩=>⟨.a (.v (.slice oo (onG (fun k=>decide (k=line)) X.ds).length oc)),trivial,hv.symm,?_⟩
  subst hA
  generalize onG (fun k=>decide (k=line)) X.ds=L at *
  have ef:(L.filter fun x=>!(!decide (ixB X.ds x=pbytes p)))=eqG X.ds line p:=by
    rw [e]
    simp only [Bool.not_not]
  have hfl:(SV.a (.fn (.func 119) [.val (.pointer (some ⟨g1,0,none⟩)),.val (.pointer (some ⟨g2,0,none⟩))])).lt 0:=fun x hx=>by
    simp only [List.mem_cons,List.not_mem_nil,or_false] at hx
    rcases hx with rfl | rfl<;>trivial
  refine oj_run TT rfl ?_
  refine oj_callF [0] (A0:=[itE oo oc L]) (Ar:=[]) (ys:=[.a (.v (.slice oo L.length oc)),.a (.fn (.func 119) [.val (.pointer (some ⟨g1,0,none⟩)),.val (.pointer (some ⟨g2,0,none⟩))])]) rfl rfl rfl rfl rfl rfl rfl Tryz.call118 ⟨trivial,hfl,trivial⟩
    (DeleteFunc_c s4 L (by omega) oo oc hoc 119 [.val (.pointer (some ⟨g1,0,none⟩)),.val (.pointer (some ⟨g2,0,none⟩))] ⟨trivial,trivial,trivial⟩ Tryz.call119 hfl (fun x=>!decide (ixB X.ds x=pbytes p)) fun s hs z=>Equal1_c s m ((Snap.le_trans hle4 hs).cell hm) X (IX.mono (Snap.le_trans hle4 hs)) (by omega) ho hF g1 (fun j c h=>(Snap.le_trans hle4 hs).cell (hg1 j c h)) g2 (pbytes p) (some wa) wc ((Snap.le_trans hle4 hs).cell hg2) (HW.mono (Snap.le_trans hle4 hs)) z)
    fun v s5 A' hle5 ⟨to,tc,hv,htc,hA⟩=>⟨.a (.v (.slice to (L.filter fun x=>!(!decide (ixB X.ds x=pbytes p))).length tc)),trivial,hv.symm,?_⟩
  subst hA
  rw [ef] at htc ⊢
  refine oj_run TT rfl ?_
  (repeat (first | refine oj_then ?_ | refine cj_ret ?_))
  refine nj_seal 0 rfl rfl fun s6 hle6 hS=>?_
  refine nj_ret TT rfl fun β w' _ _=>?_
  exact ⟨to,tc,rfl,it_sealed hS htc⟩
def numV (c:UInt8):GVal:=.mk 2 false ⟨false,mkB [c],0⟩ emptyS [] [] []
def aw19 (c:UInt8):GVal:=.mk 5 false dec0 emptyS [] [⟨#[97]⟩] [numV c]
theorem numV_rep (σ:Snap) (c:UInt8):RepV σ (numV c) (vCells (numV c) none 0 none 0):=by
  simp only [numV,RepV]
  exact ⟨none,0,[],none,0,[],rfl,SlAt.nil _ _ _ _,rfl,rfl,SlAt.nil _ _ _ _,rfl,(by rw [mkB_size];show 1<=mostLen;decide),by decide,by decide,by decide,fun k h=>(by cases h)⟩
def aw19L (c:UInt8):List GRec:=[⟨1,4,0,5,false,emptyS,false,dec0,emptyS⟩,⟨2,3,1,2,true,⟨#[97]⟩,false,⟨false,mkB [c],0⟩,emptyS⟩]
theorem aw19_shred1:shredG (aw19 49) 1=(aw19L 49,0):=by decide
theorem aw19_shred2:shredG (aw19 50) 1=(aw19L 50,0):=by decide
theorem aw19_sound1:soundG (aw19L 49)=true:=by decide
theorem aw19_sound2:soundG (aw19L 50)=true:=by decide
theorem aw19_ok1:RecsOk (aw19L 49):=⟨by decide,fun r hr=>by simp only [aw19L,List.mem_cons,List.not_mem_nil,or_false] at hr;rcases hr with rfl | rfl<;>exact ⟨by decide,by decide,by decide⟩,fun _=>by decide⟩
theorem aw19_ok2:RecsOk (aw19L 50):=⟨by decide,fun r hr=>by simp only [aw19L,List.mem_cons,List.not_mem_nil,or_false] at hr;rcases hr with rfl | rfl<;>exact ⟨by decide,by decide,by decide⟩,fun _=>by decide⟩
theorem aw19_levels (c:UInt8):levelsOk 0 (aw19L c):=by
  refine ⟨by decide,by decide,?_⟩
  exact ⟨by show (0:Int)<=1;decide,by show (1:Int)<=(((0:Int).toNat+1:Nat):Int);decide,trivial⟩
theorem aw19_paths1:pathsG (aw19L 49)=[[],[aS]]:=by decide
theorem aw19_paths2:pathsG (aw19L 50)=[[],[aS]]:=by decide
theorem aw19_list {ps:List SRow} (h:ps.map SRow.ss=[[],[aS]]):∃ a0 c0 a1 c1,ps=[⟨a0,c0,[]⟩,⟨a1,c1,[aS]⟩]:=by
  match ps,h with
  | [⟨a0,c0,s0⟩,⟨a1,c1,s1⟩],h =>
    simp only [List.map_cons,List.map_nil,List.cons.injEq,and_true] at h
    obtain ⟨rfl,rfl⟩:=h
    exact ⟨a0,c0,a1,c1,rfl⟩
theorem aw19_add2 (a0:Option Addr) (c0:Nat) (a1:Option Addr) (c1:Nat) (b0:Option Addr) (d0:Nat) (b1:Option Addr) (d1:Nat):addAll ⟨[⟨0,a0,c0,[],1⟩,⟨1,a1,c1,[aS],1⟩],2,[]⟩ [⟨b0,d0,[]⟩,⟨b1,d1,[aS]⟩]=⟨[⟨0,a0,c0,[],2⟩,⟨1,a1,c1,[aS],2⟩],2,[0,1]⟩:=rfl
def two19:GPart:=⟨2,false,⟨false,mkB [50],0⟩,emptyB,0⟩
theorem aw19_of (o1:Option Addr) (c1:Nat) (l1:Option Addr) (k1:Nat) (o2:Option Addr) (c2:Nat) (l2:Option Addr) (k2:Nat) :
    onG (fun k=>decide (k=1)) [⟨1,o1,c1,aw19L 49,l1,k1,[0,1]⟩,⟨2,o2,c2,aw19L 50,l2,k2,[0,1]⟩]=[⟨1,1,2,3,1⟩,⟨2,1,2,3,1⟩]:=rfl
theorem aw19_eq (o1:Option Addr) (c1:Nat) (l1:Option Addr) (k1:Nat) (o2:Option Addr) (c2:Nat) (l2:Option Addr) (k2:Nat) :
    eqG [⟨1,o1,c1,aw19L 49,l1,k1,[0,1]⟩,⟨2,o2,c2,aw19L 50,l2,k2,[0,1]⟩] 1 two19=[⟨2,1,2,3,1⟩]:=by
  have h1:ixB [⟨1,o1,c1,aw19L 49,l1,k1,[0,1]⟩,⟨2,o2,c2,aw19L 50,l2,k2,[0,1]⟩] ⟨1,1,2,3,1⟩=pbytes ⟨2,false,⟨false,mkB [49],0⟩,emptyB,0⟩:=rfl
  have h2:ixB [⟨1,o1,c1,aw19L 49,l1,k1,[0,1]⟩,⟨2,o2,c2,aw19L 50,l2,k2,[0,1]⟩] ⟨2,1,2,3,1⟩=pbytes two19:=rfl
  unfold eqG
  rw [aw19_of,if_pos (by decide),List.filter_cons,h1,if_neg (by decide),List.filter_cons,h2,if_pos (by decide)]
  rfl
end Go.Sy
namespace Go.Sy
open Go.Proofs
set_option maxRecDepth 100000 in
set_option maxHeartbeats 4000000 in
theorem awake19_c (σ:Snap) (m:Int) (hm:σ.cell ⟨0,0,none⟩=some (.int .i64 m)):PureS Tryz.prog 35 [] σ (fun v _=>v=.bool true):=by
  refine enter_s Tryz.func35 rfl rfl (by (repeat' exact trivial)) fun w=>?_
  (repeat (first | refine cj_seq ?_ | refine cjr TT rfl ?_ | refine oj_then ?_))
  refine oj_own 2 1 9 rfl (by (repeat' (first | exact trivial | refine AllLt.of ?_ | constructor))) rfl (by decide) fun g1=>?_
  refine oj_seal 0 rfl rfl rfl fun s1 hle1 hS=>?_
  have H1:SlAt s1 (some ⟨g1,0,none⟩) 1 1 9 (keyRows [⟨#[97]⟩] [vCells (numV 49) none 0 none 0]):=hS.sl (rows:=keyRows [⟨#[97]⟩] [vCells (numV 49) none 0 none 0]) rfl (fun r hr=>by
    simp only [keyRows,List.mem_singleton] at hr
    subst hr
    exact ⟨rfl,by (repeat' (first | exact trivial | refine AllLt.of ?_ | constructor))⟩) rfl rfl (Nat.le_refl _)
  have R1:RepV s1 (aw19 49) (vCells (aw19 49) none 0 (some ⟨g1,0,none⟩) 1):=by
    simp only [aw19,RepV]
    exact ⟨none,0,[],some ⟨g1,0,none⟩,1,_,rfl,SlAt.nil _ _ _ _,rfl,rfl,H1,⟨_,_,rfl,numV_rep s1 49,rfl⟩,by decide,by decide,by decide,by decide,fun k h=>(by rw [List.mem_singleton.1 h];decide)⟩
  refine oj_run TT rfl ?_
  refine oj_set 19 (.agg (vCells (aw19 49) none 0 (some ⟨g1,0,none⟩) 1)) rfl (vCells_lt _ _ _ _ _ _) (fun _=>rfl) ?_
  refine oj_callS rfl rfl rfl rfl rfl Tryz.call39 ⟨vCells_lt _ _ _ _ _ _,trivial,trivial⟩ (Shred_s s1 (aw19 49) _ 1 R1 (by decide)) fun v s2 hle2 ⟨ao,cap,hv,HA⟩=>⟨.tup [.a (.v (.slice ao 2 cap)),.a (.v (.int .i64 0))],(by (repeat' (first | exact trivial | refine SV.lt_tup ?_ | constructor))),(by rw [hv,aw19_shred1];rfl),?_⟩
  rw [aw19_shred1] at HA
  have HA:SlAt s2 ao 2 cap 11 (recRows (aw19L 49)):=HA
  refine oj_run TT rfl ?_
  (repeat (first | refine cj_seq ?_ | refine cjr TT rfl ?_ | refine oj_then ?_))
  refine oj_own 3 1 9 rfl (by (repeat' (first | exact trivial | refine AllLt.of ?_ | constructor))) rfl (by decide) fun g2=>?_
  refine oj_seal 0 rfl rfl rfl fun s3 hle3 hS=>?_
  have H2:SlAt s3 (some ⟨g2,0,none⟩) 1 1 9 (keyRows [⟨#[97]⟩] [vCells (numV 50) none 0 none 0]):=hS.sl (rows:=keyRows [⟨#[97]⟩] [vCells (numV 50) none 0 none 0]) rfl (fun r hr=>by
    simp only [keyRows,List.mem_singleton] at hr
    subst hr
    exact ⟨rfl,by (repeat' (first | exact trivial | refine AllLt.of ?_ | constructor))⟩) rfl rfl (Nat.le_refl _)
  have R2:RepV s3 (aw19 50) (vCells (aw19 50) none 0 (some ⟨g2,0,none⟩) 1):=by
    simp only [aw19,RepV]
    exact ⟨none,0,[],some ⟨g2,0,none⟩,1,_,rfl,SlAt.nil _ _ _ _,rfl,rfl,H2,⟨_,_,rfl,numV_rep s3 50,rfl⟩,by decide,by decide,by decide,by decide,fun k h=>(by rw [List.mem_singleton.1 h];decide)⟩
  have HA:=HA.mono hle3
  refine oj_run TT rfl ?_
  refine oj_set 27 (.agg (vCells (aw19 50) none 0 (some ⟨g2,0,none⟩) 1)) rfl (vCells_lt _ _ _ _ _ _) (fun _=>rfl) ?_
  refine oj_callS rfl rfl rfl rfl rfl Tryz.call39 ⟨vCells_lt _ _ _ _ _ _,trivial,trivial⟩ (Shred_s s3 (aw19 50) _ 1 R2 (by decide)) fun v s4 hle4 ⟨bo,bc,hv,HB⟩=>⟨.tup [.a (.v (.slice bo 2 bc)),.a (.v (.int .i64 0))],(by (repeat' (first | exact trivial | refine SV.lt_tup ?_ | constructor))),(by rw [hv,aw19_shred2];rfl),?_⟩
  rw [aw19_shred2] at HB
  have HB:SlAt s4 bo 2 bc 11 (recRows (aw19L 50)):=HB
  have HA:=HA.mono hle4
  refine oj_run TT rfl ?_
  (repeat (first | refine cj_seq ?_ | refine cjr TT rfl ?_ | refine oj_then ?_))
  refine oj_callP rfl rfl rfl rfl rfl Tryz.call38 (by (repeat' exact trivial)) (New_c s4) fun v hv=>⟨.agg (ixCells ix0),ixCells_lt _ _,hv.symm,?_⟩
  refine oj_run TT rfl ?_
  refine oj_callS (ys:=[.agg (ixCells ix0),.agg [.v (.int .i64 1),.v (.slice ao 2 cap)]]) rfl rfl rfl rfl rfl Tryz.call40 ⟨ixCells_lt 0 ix0,(by (repeat' (first | exact trivial | refine AllLt.of ?_ | constructor))),trivial⟩
    (IxAdd_x s4 ix0 (ix0_at s4) IdxP.nil 1 (aw19L 49) aw19_ok1 (by decide) aw19_sound1 (aw19_levels 49) ao cap HA (fun d h=>by cases h) (by decide) 0 ⟨Nat.le_refl _,Nat.le_refl _,by decide,fun _ h=>(by cases h)⟩ (by decide))
    fun v s5 hle5 ⟨X1,hv,I1,P1,_,F1,lo1,lc1,ps1,hps1,hds1,hxs1,hnx1⟩=>⟨.tup [.agg (ixCells X1),.a (.v (.int .i64 0))],(by intro x hx;simp only [List.mem_cons,List.not_mem_nil,or_false] at hx;rcases hx with rfl | rfl;exact ixCells_lt 0 X1;trivial),hv.symm,?_⟩
  rw [aw19_paths1] at hps1
  obtain ⟨a0,c0,a1,c1,rfl⟩:=aw19_list hps1
  have hds1:X1.ds=[⟨1,ao,cap,aw19L 49,lo1,lc1,[0,1]⟩]:=hds1
  have hxs1:X1.xs=[⟨0,a0,c0,[],1⟩,⟨1,a1,c1,[aS],1⟩]:=hxs1
  have hnx1:X1.next=2:=hnx1
  have HB:=HB.mono hle5
  refine oj_run TT rfl ?_
  (repeat (first | refine cj_seq ?_ | refine cjr TT rfl ?_ | refine oj_then ?_))
  refine oj_set 39 (.agg (ixCells X1)) rfl (ixCells_lt _ _) (fun _=>rfl) ?_
  refine oj_callS (ys:=[.agg (ixCells X1),.agg [.v (.int .i64 2),.v (.slice bo 2 bc)]]) rfl rfl rfl rfl rfl Tryz.call40 ⟨ixCells_lt 0 X1,(by (repeat' (first | exact trivial | refine AllLt.of ?_ | constructor))),trivial⟩
    (IxAdd_x s5 X1 I1 P1 2 (aw19L 50) aw19_ok2 (by decide) aw19_sound2 (aw19_levels 50) bo bc HB (fun d h=>by rw [hds1,List.mem_singleton] at h;subst h;show (1:Int)<2;decide) (by rw [hds1];show 1<=1000;decide) _ F1 (by decide))
    fun v s6 hle6 ⟨X,hv,IX,PX,_,FX,lo2,lc2,ps2,hps2,hds2,_,_⟩=>⟨.tup [.agg (ixCells X),.a (.v (.int .i64 0))],(by intro x hx;simp only [List.mem_cons,List.not_mem_nil,or_false] at hx;rcases hx with rfl | rfl;exact ixCells_lt 0 X;trivial),hv.symm,?_⟩
  rw [aw19_paths2] at hps2
  obtain ⟨b0,d0,b1,d1,rfl⟩:=aw19_list hps2
  rw [hxs1,hnx1,aw19_add2,hds1] at hds2
  have hds:X.ds=[⟨1,ao,cap,aw19L 49,lo1,lc1,[0,1]⟩,⟨2,bo,bc,aw19L 50,lo2,lc2,[0,1]⟩]:=hds2
  have hd:∀ d∈X.ds,d.ids.length=d.L.length/\d.L.length<=100000:=fun d h=>by
    rw [hds] at h
    simp only [List.mem_cons,List.not_mem_nil,or_false] at h
    rcases h with rfl | rfl<;>exact ⟨rfl,by show 2<=_;omega⟩
  have hlen:X.ds.length=2:=by rw [hds];rfl
  have hF:FitIx X:=fun d h r hr=>by
    rw [hds] at h
    simp only [List.mem_cons,List.not_mem_nil,or_false] at h
    rcases h with rfl | rfl<;>(simp only [aw19L,List.mem_cons,List.not_mem_nil,or_false] at hr;rcases hr with rfl | rfl<;>exact ⟨by decide,by decide⟩)
  have hO:=aw19_of ao cap lo1 lc1 bo bc lo2 lc2
  have hQ:=aw19_eq ao cap lo1 lc1 bo bc lo2 lc2
  rw [<-hds] at hO hQ
  have hOf:=Of_f s6 X IX (by omega) hd 1
  have hEq:=fun (s:Snap) (hle:s6.le s)=>EqualIx_c s m ((Snap.le_trans hle1 (Snap.le_trans hle2 (Snap.le_trans hle3 (Snap.le_trans hle4 (Snap.le_trans hle5 (Snap.le_trans hle6 hle)))))).cell hm) X (IX.mono hle) (by omega) hd PX.ord hF 1 two19 ⟨by decide,by decide⟩
  rw [hO] at hOf
  rw [hQ] at hEq
  refine oj_run TT rfl ?_
  (repeat (first | refine cj_seq ?_ | refine cjr TT rfl ?_ | refine oj_then ?_))
  refine oj_split 47 rfl (fun _=>?_) (fun h=>absurd h (by decide))
  refine oj_run TT rfl ?_
  refine oj_split 51 rfl (fun _=>?_) (fun h=>absurd h (by decide))
  refine oj_run TT rfl ?_
  refine oj_set 52 (.agg (ixCells X)) rfl (ixCells_lt _ _) (fun _=>rfl) ?_
  refine oj_callF [] (A0:=[]) (Ar:=[]) (ys:=[.agg (ixCells X),.a (.v (.int .i64 1))]) rfl rfl rfl rfl rfl rfl rfl Tryz.call100 ⟨ixCells_lt 0 X,trivial,trivial⟩ hOf fun v s7 A' hle7 ⟨oo,oc,hv,hoc,hA⟩=>⟨.a (.v (.slice oo 2 oc)),trivial,hv.symm,?_⟩
  subst hA
  refine oj_run TT rfl ?_
  refine oj_split 57 rfl (fun _=>?_) (fun h=>absurd h (by decide))
  refine oj_run TT rfl ?_
  refine oj_set 58 (.agg (ixCells X)) rfl (ixCells_lt _ _) (fun _=>rfl) ?_
  refine oj_set 61 (.agg (paCells two19)) rfl (paCells_lt _ _) (fun _=>rfl) ?_
  refine oj_callS (ys:=[.agg (ixCells X),.a (.v (.int .i64 1)),.agg (paCells two19)]) rfl rfl rfl rfl rfl Tryz.call46 ⟨ixCells_lt 0 X,trivial,paCells_lt 0 _,trivial⟩ (hEq s7 hle7) fun v s8 hle8 ⟨po,pc,hv,_⟩=>⟨.a (.v (.slice po 1 pc)),trivial,hv.symm,?_⟩
  refine oj_run TT rfl ?_
  (repeat (first | refine oj_then ?_ | refine cj_ret ?_))
  refine nj_ret TT rfl fun β w' _ _=>?_
  rfl
end Go.Sy
/- Plain law: the record that one stands in, level by level. No program in sight. -/
namespace Go.Sy
def backK (L:List GRec) (k:Int):Nat->Nat
  | 0=>0
  | p+1=>if (L[p+1]?.map GRec.lv).getD 0 > k then backK L k p else p+1
theorem zip_at {L:List GRec} {i:Nat} (hi:i<L.length):(L[i],(pathsG L)[i]'(by unfold pathsG;rw [pathsF_len];exact hi))∈zipP [] L:=by
  unfold zipP
  rw [List.mem_iff_getElem]
  refine ⟨i,by rw [List.length_zip,pathsF_len];omega,?_⟩
  rw [List.getElem_zip]
  rfl
theorem backK_at {L:List GRec} {k:Int} {q:Nat} {r:GRec} (hq:L[q]?=some r) (hr:r.lv<=k):∀ {p:Nat},q<=p->(∀ i,q<i->i<=p->∀ s,L[i]?=some s->k<s.lv)->p<L.length->backK L k p=q
  | 0,h,_,_=>by
    have:q=0:=by omega
    subst this
    rfl
  | p+1,h,hall,hp=>by
    unfold backK
    by_cases he:q=p+1
    · subst he
      rw [hq]
      exact if_neg (by show ¬ r.lv > k;omega)
    · have hgt:=hall (p+1) (by omega) (Nat.le_refl _) _ (List.getElem?_eq_getElem hp)
      rw [List.getElem?_eq_getElem hp]
      show (if (L[p+1]).lv > k then backK L k p else p+1)=q
      rw [if_pos hgt]
      exact backK_at hq hr (by omega) (fun i h1 h2=>hall i h1 (by omega)) (by omega)
theorem up_back {d:GDoc} (h:ShrD d) {p:Nat} {y:GRec} (hy:d.L[p]?=some y) {k:Int} (h0:0<=k) (hk:k<=y.lv) :
    ∃ x,d.L[backK d.L k p]?=some x/\x.lv=k/\backK d.L k p<=p/\(k=y.lv->backK d.L k p=p)/\(k<y.lv->backK d.L k p≠p/\inR x y=true):=by
  obtain ⟨gap,g,hg,hw,eL⟩:=id h
  have D:DocOk (zipP [] d.L):=by rw [eL];exact doc_ok hg g hw 0
  have hL:=h.lam
  obtain ⟨hp,hpe⟩:=List.getElem?_eq_some_iff.1 hy
  by_cases he:k=y.lv
  · have:backK d.L k p=p:=backK_at hy (by omega) (Nat.le_refl _) (fun i h1 h2=>by omega) hp
    rw [this]
    exact ⟨y,hy,he.symm,Nat.le_refl _,fun _=>rfl,fun h=>by omega⟩
  · have hZ:=zip_at hp
    rw [hpe] at hZ
    obtain ⟨x,hx,hin,hlv⟩:=D.has _ hZ k h0 (by show k<y.lv;omega)
    have hxm:x.1∈d.L:=mem_zipP hx
    obtain ⟨i,hi,hie⟩:=List.mem_iff_getElem.1 hxm
    have hpw:∀ (a b:Nat) (ha:a<d.L.length) (hb:b<d.L.length),a<b->(d.L[a]).st<(d.L[b]).st/\((d.L[b]).en<(d.L[a]).en\/(d.L[a]).en<(d.L[b]).st):=fun a b ha hb hab =>
      List.pairwise_iff_getElem.1 (List.pairwise_map.1 hL.pw) a b ha hb hab
    rw [inR_iff] at hin
    have hin:x.1.st<y.st/\y.en<x.1.en:=hin
    have hip:i<p:=by
      rcases Nat.lt_trichotomy i p with h | h | h
      · exact h
      · subst h
        have h1:x.1.st=y.st:=congrArg GRec.st (hie.symm.trans hpe)
        have h2:=hin.1
        clear hin
        omega
      · have:=(hpw p i hp hi h).1
        rw [hie,hpe] at this
        omega
    have hyy:y.st<y.en:=by
      rw [<-hpe]
      exact hL.se _ (mem_se (List.getElem_mem hp))
    have hb:backK d.L k p=i:=by
      refine backK_at (r:=x.1) (by rw [List.getElem?_eq_getElem hi,hie]) (by omega) (by omega) (fun r h1 h2 s hs=>?_) hp
      by_cases hrp:r=p
      · subst hrp
        rw [hy] at hs
        injection hs with hs
        subst hs
        omega
      · obtain ⟨hr,hre⟩:=List.getElem?_eq_some_iff.1 hs
        have e1:=hpw i r hi hr h1
        have e2:=hpw r p hr hp (by omega)
        rw [hie,hre] at e1
        rw [hre,hpe] at e2
        have hZr:=zip_at hr
        rw [hre] at hZr
        have:=(D.up x hx _ hZr (by rw [inR_iff];show x.1.st<s.st/\s.en<x.1.en;have:=e1.1;have:=e2.1;have:=hin.1;have:=hin.2;have hs1:=hL.se _ (mem_se (List.getElem_mem hr));rw [hre] at hs1;have hs1:s.st<s.en:=hs1;omega)).1
        have this:x.1.lv<s.lv:=this
        omega
    rw [hb]
    exact ⟨x.1,by rw [List.getElem?_eq_getElem hi,hie],hlv,by omega,fun h=>absurd h he,fun _=>⟨by omega,by rw [inR_iff];exact hin⟩⟩
end Go.Sy
namespace Go.Sy
open Go.Proofs
def upIn (it:GItem) (k:Int) (d:GDoc):Option GItem :=
  match recIn it d with
  | none=>none
  | some _=>if k<0\/it.lv<k then none else (d.L[backK d.L k it.at_.toNat]?).map fun r=>itemOf d.id r (backK d.L k it.at_.toNat)
def upG (ds:List GDoc) (it:GItem) (k:Int):Option GItem:=(ds.find? fun d=>decide (d.id=it.doc)).bind (upIn it k)
def itemZ:GItem:=⟨0,0,0,0,0⟩
def upV (o:Option GItem):Value:=.tuple #[(SV.agg (itCells (o.getD itemZ))).den β0,.bool o.isSome]
theorem backK_step {L:List GRec} {k:Int} {p:Nat} {r:GRec} (hr:L[p+1]?=some r) (h:r.lv > k):backK L k (p+1)=backK L k p:=by
  rw [backK,hr]
  exact if_pos h
theorem backK_stop {L:List GRec} {k:Int} {p:Nat} {r:GRec} (hr:L[p]?=some r) (h:¬ r.lv > k):backK L k p=p:=by
  cases p with
  | zero=>rfl
  | succ p =>
    rw [backK,hr]
    exact if_neg h
theorem recAt_doc {ds:List GDoc} {it:GItem} {p:Nat} (ho:ds.Pairwise fun x y=>x.id<y.id) (hp:PlaceAt ds it.doc p) {r:GRec} (h:recAt ds it=some r) :
    ∃ d,ds[p]?=some d/\d.id=it.doc/\recIn it d=some r/\isAt ds it.doc p=true/\∀ k,upG ds it k=upIn it k d:=by
  have hi:isAt ds it.doc p=true:=by
    cases hb:isAt ds it.doc p with
    | true=>rfl
    | false=>rw [recAt_none ho hp hb] at h;cases h
  obtain ⟨d,h1,h2,h3⟩:=recAt_some ho hp hi
  refine ⟨d,h1,h2,by rw [<-h3,h],hi,fun k=>?_⟩
  unfold upG
  rw [find_place ho hp,hi,if_pos rfl,h1]
  rfl
theorem recIn_some {it:GItem} {d:GDoc} {r:GRec} (h:recIn it d=some r):∃ n:Nat,it=itemOf d.id r n/\d.L[n]?=some r:=by
  unfold recIn at h
  split at h
  · cases h
  rename_i h0
  split at h
  · cases h
  · rename_i x hx
    split at h
    · rename_i he
      injection h with h
      subst h
      exact ⟨it.at_.toNat,he.symm,hx⟩
    · cases h
theorem upG_none {ds:List GDoc} {it:GItem} (h:recAt ds it=none) (k:Int):upG ds it k=none:=by
  unfold recAt at h
  unfold upG
  cases hf:ds.find? fun d=>decide (d.id=it.doc) with
  | none=>rfl
  | some d =>
    rw [hf] at h
    have h:recIn it d=none:=h
    show upIn it k d=none
    unfold upIn
    rw [h]
set_option maxRecDepth 100000 in
set_option maxHeartbeats 4000000 in
theorem Up_c (σ:Snap) (X:GIx) (IX:IxAt σ X) (hl:X.ds.length<=1000000) (ho:X.ds.Pairwise fun x y=>x.id<y.id) (hroot:∀ d∈X.ds,∀ r,d.L[0]?=some r->r.lv<=0) (hdl:∀ d∈X.ds,d.L.length<=100000) (it:GItem) (k:Int) :
    PlainS Tryz.prog 37 [.agg (ixCells X),.agg (itCells it),.a (.v (.int .i64 k))] σ (fun v=>v=upV (upG X.ds it k)):=by
  have hR:=record_c σ X IX hl ho it
  refine enter_p Tryz.func37 rfl rfl ⟨ixCells_lt 0 X,itCells_lt 0 it,trivial,trivial⟩ fun w=>?_
  (repeat (first | refine cj_seq ?_ | refine cjr TT rfl ?_ | refine oj_then ?_))
  refine oj_set 15 (.agg (ixCells X)) rfl (ixCells_lt _ _) (fun _=>rfl) ?_
  refine oj_set 16 (.agg (itCells it)) rfl (itCells_lt _ _) (fun _=>rfl) ?_
  refine oj_callP (ys:=[.agg (ixCells X),.agg (itCells it)]) rfl rfl rfl rfl rfl Tryz.call101 ⟨ixCells_lt 0 X,itCells_lt 0 it,trivial⟩ hR fun v hv=>⟨.tup [.agg (recCells ((recAt X.ds it).getD recZ)),.a (.b (recAt X.ds it).isSome)],(by intro x hx;simp only [List.mem_cons,List.not_mem_nil,or_false] at hx;rcases hx with rfl | rfl;exact recCells_lt 0 _;trivial),hv.symm,?_⟩
  refine oj_run TT rfl ?_
  (repeat (first | refine cj_seq ?_ | refine cjr TT rfl ?_ | refine oj_then ?_))
  cases hr:recAt X.ds it with
  | none =>
    rw [upG_none hr]
    refine oj_split 22 rfl (fun _=>?_) (fun h=>absurd h (by simp))
    refine oj_run TT rfl ?_
    (repeat (first | refine cj_seq ?_ | refine cjr TT rfl ?_ | refine oj_then ?_ | refine cj_if_t rfl ?_ | refine cj_ret ?_ | refine nj_then_ret ?_))
    refine nj_ret TT rfl fun β w' _ _=>?_
    rfl
  | some r =>
    refine oj_split 22 rfl (fun h=>absurd h (by simp)) (fun _=>?_)
    refine oj_run TT rfl ?_
    refine oj_split 26 rfl (fun h=>?_) (fun h=>?_)
    · have h:k<0:=of_decide_eq_true h
      have e:upG X.ds it k=none:=by
        unfold upG
        cases hf:X.ds.find? fun d=>decide (d.id=it.doc) with
        | none=>rfl
        | some d =>
          show upIn it k d=none
          unfold upIn
          split
          · rfl
          · rw [if_pos (.inl h)]
      rw [e]
      refine oj_run TT rfl ?_
      (repeat (first | refine cj_seq ?_ | refine cjr TT rfl ?_ | refine oj_then ?_ | refine cj_if_t rfl ?_ | refine cj_ret ?_ | refine nj_then_ret ?_))
      refine nj_ret TT rfl fun β w' _ _=>?_
      rfl
    have hk0:¬ k<0:=of_decide_eq_false h
    refine oj_run TT rfl ?_
    (repeat refine oj_then ?_)
    refine cj_if rfl (fun h=>?_) (fun h=>?_)
    · have h:it.lv<k:=of_decide_eq_true h
      have e:upG X.ds it k=none:=by
        unfold upG
        cases hf:X.ds.find? fun d=>decide (d.id=it.doc) with
        | none=>rfl
        | some d =>
          show upIn it k d=none
          unfold upIn
          split
          · rfl
          · rw [if_pos (.inr h)]
      rw [e]
      (repeat (first | refine cj_seq ?_ | refine cjr TT rfl ?_ | refine oj_then ?_ | refine cj_ret ?_ | refine nj_then_ret ?_))
      refine nj_ret TT rfl fun β w' _ _=>?_
      rfl
    have hk1:¬ it.lv<k:=of_decide_eq_false h
    (repeat (first | refine cj_seq ?_ | refine cjr TT rfl ?_ | refine cj_skip ?_ | refine nj_then ?_))
    refine oj_set 34 (.agg (ixCells X)) rfl (ixCells_lt _ _) (fun _=>rfl) ?_
    refine oj_callP (ys:=[.agg (ixCells X),.a (.v (.int .i64 it.doc))]) rfl rfl rfl rfl rfl Tryz.call102 ⟨ixCells_lt 0 X,trivial,trivial⟩ (place_c σ X IX.docs hl ho it.doc) fun v ⟨p,hv,hp⟩=>⟨.tup [.a (.v (.int .i64 p)),.a (.b (isAt X.ds it.doc p))],(by (repeat' (first | exact trivial | refine SV.lt_tup ?_ | constructor))),hv.symm,?_⟩
    obtain ⟨d,hd,hid,hri,hia,hup⟩:=recAt_doc ho hp hr
    have hdd:=IX.doc d (List.mem_of_getElem? hd)
    have hpl:=(List.getElem?_eq_some_iff.1 hd).1
    have hrow:=doRows_get hd
    have hrt:=hroot d (List.mem_of_getElem? hd)
    have hdl:=hdl d (List.mem_of_getElem? hd)
    rw [hup]
    have hui:upIn it k d=(d.L[backK d.L k it.at_.toNat]?).map fun r=>itemOf d.id r (backK d.L k it.at_.toNat):=by
      unfold upIn
      rw [hri]
      dsimp only
      rw [if_neg (by omega)]
    rw [hui]
    obtain ⟨n,hit,hLn⟩:=recIn_some hri
    have hat:it.at_=n:=by rw [hit];rfl
    rw [hat,Int.toNat_natCast]
    have hnl:=(List.getElem?_eq_some_iff.1 hLn).1
    refine oj_run TT rfl ?_
    (repeat (first | refine cj_seq ?_ | refine cjr TT rfl ?_ | refine oj_then ?_))
    refine oj_idx TT rfl rfl rfl rfl rfl rfl rfl rfl rfl IX.docs (by omega) hrow (oj_run TT rfl ?_)
    (repeat (first | refine cj_seq ?_ | refine cjr TT rfl ?_ | refine oj_then ?_ | refine cj_block ?_))
    refine cj_loop (fun (_:Nat)=>σ) (fun (q:Nat)=>[(2,.a (.v (.int .i64 k))),(6,.a (.p 2 0)),(7,.a .ff),(12,.a (.p 5 0)),(13,.a (.v (.int .i64 (q:Nat))))]) (fun _=>[(2,.loc 71,itCells itemZ),(5,.loc 90,doCells d)]) (fun _=>[]) 6 (fun q=>q<d.L.length/\backK d.L k q=backK d.L k n) (fun q=>q) n ⟨hnl,rfl⟩ rfl (by (repeat first | exact trivial | refine ⟨rfl,?_⟩)) (by (repeat first | exact trivial | refine ⟨rfl,?_⟩)) rfl ⟨trivial,by show 2<6;omega,trivial,by show 5<6;omega,trivial,trivial⟩ (by exact ⟨⟨by omega,itCells_lt 6 _⟩,⟨by omega,doCells_lt 6 d⟩,trivial⟩) fun q ⟨hql,hqb⟩=>?_
    have hx:=List.getElem?_eq_getElem hql
    have hrow2:=recRows_get hx
    have hit2:=item_c σ d hdd.1 q _ hx
    generalize d.L[q]=y at *
    (repeat (first | refine cj_seq ?_ | refine cjr TT rfl ?_))
    refine oj_idx TT rfl rfl rfl rfl rfl rfl rfl rfl rfl hdd.1 (by omega) hrow2 (oj_run TT rfl ?_)
    (repeat refine oj_then ?_)
    refine cj_if rfl (fun h=>?_) (fun h=>?_)
    · have h:y.lv > k:=of_decide_eq_true h
      obtain ⟨q',rfl⟩:∃ q',q=q'+1:=by
        cases q with
        | zero=>have:=hrt y hx;omega
        | succ q'=>exact ⟨q',rfl⟩
      rw [backK_step hx h] at hqb
      (repeat (first | refine cjr TT rfl ?_ | refine oj_nil ?_ | refine cj_skip ?_ | refine cj_block ?_ | refine nj_then ?_ | refine nj_block ?_ | (refine oj_minus rfl rfl rfl rfl rfl rfl (by omega) ?_;refine oj_run TT rfl ?_)))
      refine nj_set 13 (.a (.v (.int .i64 (q':Nat)))) rfl trivial (fun _=>congrArg (Value.int .i64) (by omega)) ?_
      refine nj_again q' ⟨by omega,hqb⟩ (Nat.lt_succ_self q') rfl (by (repeat first | exact trivial | refine ⟨rfl,?_⟩)) (by (repeat first | exact trivial | refine ⟨rfl,?_⟩)) rfl ⟨trivial,by show 2<6;omega,trivial,by show 5<6;omega,trivial,trivial⟩ (by exact ⟨⟨by omega,itCells_lt 6 _⟩,⟨by omega,doCells_lt 6 d⟩,trivial⟩)
    have h:¬ y.lv > k:=of_decide_eq_false h
    rw [backK_stop hx h] at hqb
    rw [<-hqb,hx]
    (repeat (first | refine cj_seq ?_ | refine cjr TT rfl ?_ | refine cj_exit ?_ | refine nj_then ?_ | refine nj_then_exit ?_ | refine nj_block_out ?_))
    refine oj_set 57 (.agg (doCells d)) rfl (doCells_lt _ _) (fun _=>rfl) ?_
    refine oj_callP (ys:=[.agg (doCells d),.a (.v (.int .i64 q))]) rfl rfl rfl rfl rfl Tryz.call103 ⟨doCells_lt 0 d,trivial,trivial⟩ hit2 fun v hv=>⟨.agg (itCells (itemOf d.id y q)),itCells_lt _ _,hv.symm,?_⟩
    refine oj_run TT rfl ?_
    (repeat (first | refine oj_then ?_ | refine cj_ret ?_))
    refine nj_ret TT rfl fun β w' _ _=>?_
    rfl
end Go.Sy
namespace Go.Sy
open Go.Proofs
theorem find_id {ds:List GDoc} (ho:ds.Pairwise fun x y=>x.id<y.id) {d:GDoc} (hd:d∈ds):(ds.find? fun e=>decide (e.id=d.id))=some d:=by
  obtain ⟨p,hp,he⟩:=List.mem_iff_getElem.1 hd
  rw [List.find?_eq_some_iff_getElem]
  refine ⟨by simp,p,hp,he,fun j hj=>?_⟩
  have:=List.pairwise_iff_getElem.1 ho j p (by omega) hp hj
  rw [he] at this
  simp only [Bool.not_eq_true',decide_eq_false_iff_not]
  omega
theorem recIn_item {d:GDoc} {y:GRec} {p:Nat} (h:d.L[p]?=some y):recIn (itemOf d.id y p) d=some y:=by
  unfold recIn
  have e:(itemOf d.id y p).at_=(p:Int):=rfl
  rw [e,if_neg (by omega),Int.toNat_natCast,h]
  dsimp only
  rw [if_pos rfl]
theorem mem_allOf {X:GIx} {it:GItem} (h:it∈allOf X):∃ d∈X.ds,∃ (p:Nat) (y:GRec),d.L[p]?=some y/\it=itemOf d.id y p:=by
  obtain ⟨d,hd,hx⟩:=List.mem_flatMap.1 h
  obtain ⟨p,hp,he⟩:=List.mem_iff_getElem.1 hx
  rw [itemsD_len] at hp
  have hy:=List.getElem?_eq_getElem hp
  have:=itemsD_get (id:=d.id) hy
  rw [List.getElem?_eq_getElem (by rw [itemsD_len];exact hp)] at this
  injection this with this
  exact ⟨d,hd,p,d.L[p],hy,by rw [<-he,this]⟩
theorem up_item {ds:List GDoc} (ho:ds.Pairwise fun x y=>x.id<y.id) {d:GDoc} (hd:d∈ds) {p:Nat} {y:GRec} (hy:d.L[p]?=some y) (k:Int) :
    upG ds (itemOf d.id y p) k=if k<0\/y.lv<k then none else (d.L[backK d.L k p]?).map fun r=>itemOf d.id r (backK d.L k p):=by
  have e:upG ds (itemOf d.id y p) k=upIn (itemOf d.id y p) k d:=by
    unfold upG
    have h1:(ds.find? fun e=>decide (e.id=(itemOf d.id y p).doc))=some d:=find_id ho hd
    rw [h1]
    rfl
  rw [e]
  unfold upIn
  rw [recIn_item hy]
  have e2:(itemOf d.id y p).at_.toNat=p:=rfl
  dsimp only
  rw [e2]
  rfl
theorem up_law {gap:Int} (hg:0<gap) {X:GIx} {n:Nat} (M:MadeOk gap X n) {it:GItem} (h:it∈allOf X) {k:Int} (h0:0<=k) (hk:k<=it.lv) :
    ∃ y,upG X.ds it k=some y/\y.doc=it.doc/\y.lv=k/\y.st<=it.st/\it.en<=y.en/\(decide (k=it.lv)=decide (y=it)):=by
  obtain ⟨d,hd,p,y,hy,rfl⟩:=mem_allOf h
  have hk:k<=y.lv:=hk
  obtain ⟨x,h1,h2,h3,h4,h5⟩:=up_back (M.shr hg d hd) hy h0 hk
  rw [up_item M.idx.ord hd hy,if_neg (by omega),h1]
  refine ⟨itemOf d.id x (backK d.L k p),rfl,rfl,h2,?_,?_,?_⟩
  · show x.st<=y.st
    by_cases he:k=y.lv
    · rw [h4 he,hy] at h1
      injection h1 with h1
      rw [h1]
      exact Int.le_refl _
    · have:=(h5 (by omega)).2
      rw [inR_iff] at this
      omega
  · show y.en<=x.en
    by_cases he:k=y.lv
    · rw [h4 he,hy] at h1
      injection h1 with h1
      rw [h1]
      exact Int.le_refl _
    · have:=(h5 (by omega)).2
      rw [inR_iff] at this
      omega
  · rw [Bool.eq_iff_iff,decide_eq_true_eq,decide_eq_true_eq]
    constructor
    · intro he
      have he:k=y.lv:=he
      have hb:=h4 he
      rw [hb,hy] at h1
      injection h1 with h1
      rw [hb,h1]
    · intro he
      apply Classical.byContradiction
      intro hne
      have hne:¬ k=y.lv:=hne
      have hb:=(h5 (by omega)).1
      have:((backK d.L k p:Nat):Int)=(p:Int):=congrArg GItem.at_ he
      omega
theorem up_none {gap:Int} {X:GIx} {n:Nat} (M:MadeOk gap X n) {it:GItem} (h:it∈allOf X) {k:Int} (hk:k<0\/it.lv<k):upG X.ds it k=none:=by
  obtain ⟨d,hd,p,y,hy,rfl⟩:=mem_allOf h
  have hk:k<0\/y.lv<k:=hk
  rw [up_item M.idx.ord hd hy,if_pos hk]
theorem oj_eqItem {cf:Cf} {Q:Exit->Act->World->Prop} {σ:Snap} {env:Env} {hp:HP} {A:List AE} {nh:Nat} {it:Item} {rest:List Item} {d:Nat} {x y:Operand} {yt:TypeId} (a b:GItem) (hP:cf.P=Tryz.prog)
    (hop:it.o.op=.binOp .eql 71 x y yt) (hd:it.o.dst=some d) (hg:guardVal it.guard env=some true) (hN:Nat.blt d cf.N=true) (hx:evalO env x=some (.agg (itCells a))) (hy:evalO env y=some (.agg (itCells b)))
    (hk:OJ cf rest Q σ ((d,.a (.b (decide (a=b))))::env) hp A nh):OJ cf (it::rest) Q σ env hp A nh:=by
  refine oj_val (.a (.b (decide (a=b)))) hd hg hN trivial (fun _ ac β ha w=>?_) hk
  have h1:ac.eval x=.agg (itVals a):=evalO_eval ha hx
  have h2:ac.eval y=.agg (itVals b):=evalO_eval ha hy
  rw [hP]
  have hG:(eqGuard .eql 71 x y (.agg (itVals a)) (.agg (itVals b))).run Tryz.prog w=.ok () w:=run_eqGuard_agg w _ _ _ _ _ _ (by kernel_rfl)
  have hE:(Op.equalIn 10000 71 (.agg (itVals a)) (.agg (itVals b))).run Tryz.prog w=.ok (decide (a=b)) w:=eqItem_ok 9998 a b w
  have hB:(binOp .eql 71 (.agg (itVals a)) (.agg (itVals b))).run Tryz.prog w=.ok (.bool (decide (a=b))) w:=by
    rw [run_eql_struct,hE]
    rfl
  simp only [execOp,hop,h1,h2,Sem.run_bind,hG,hB,Result.andThen_ok,Sem.run_pure]
  rfl
set_option maxRecDepth 100000 in
set_option maxHeartbeats 8000000 in
theorem StreamsUp_c (σ:Snap) (m:Int) (hm:σ.cell ⟨0,0,none⟩=some (.int .i64 m)) (gs:List GVal) (rows:List (List AT)) (lo:Option Addr) (lc:Nat) (H:SlAt σ lo gs.length lc 8 rows) (hl:gs.length<=140737488355328) (hR:RepL σ gs rows) :
    PureS Tryz.prog 7 [.a (.v (.slice lo gs.length lc))] σ (fun v _=>v=.bool true):=by
  refine enter_s Tryz.func7 rfl rfl (by (repeat' (first | exact trivial | constructor))) fun w=>?_
  (repeat (first | refine cj_seq ?_ | refine cjr TT rfl ?_ | refine oj_then ?_))
  refine oj_callS rfl rfl rfl rfl rfl Tryz.call35 trivial (awake19_c σ m hm) fun v s0 hle0 hv=>⟨.a .tt,trivial,hv.symm,?_⟩
  have H:=H.mono hle0
  have hR:=hR.mono hle0
  refine oj_run TT rfl ?_
  (repeat (first | refine cj_seq ?_ | refine cjr TT rfl ?_ | refine oj_then ?_))
  refine cj_if rfl (fun h=>?_) (fun h=>?_)
  · (repeat (first | refine cj_seq ?_ | refine cjr TT rfl ?_ | refine oj_then ?_ | refine cj_ret ?_ | refine nj_then_ret ?_))
    refine nj_ret TT rfl fun β w' _ _=>?_
    rfl
  have h5:gs.length<=5:=by have:=of_decide_eq_false (show decide ((5:Int)<gs.length)=false from h);omega
  (repeat (first | refine cj_seq ?_ | refine cjr TT rfl ?_ | refine oj_then ?_ | refine cj_skip ?_ | refine cj_block ?_ | refine nj_then ?_))
  refine cj_cutB (fun _=>s0) (fun (_:Unit)=>[(0,.a (.v (.slice lo gs.length lc))),(3,.a .tt)]) (fun _=>[]) (fun _=>[]) 0 (fun _=>∀ g∈gs,g.weight<=300) ?_ (fun _ hw=>?_)
  · refine cj_loop (fun (_:Nat)=>s0) (fun k=>[(0,.a (.v (.slice lo gs.length lc))),(3,.a .tt),(4,.a (.v (.int .i64 k)))]) (fun _=>[]) (fun _=>[]) 0 (fun k=>k<=gs.length/\∀ g∈gs.take k,g.weight<=300) (fun k=>gs.length - k) 0 ⟨Nat.zero_le _,fun g h=>(by cases h)⟩ rfl (by (repeat first | exact trivial | refine ⟨rfl,?_⟩)) (by (repeat first | exact trivial | refine ⟨rfl,?_⟩)) rfl (by (repeat' (first | exact trivial | constructor))) (by (repeat' exact trivial)) fun k ⟨hk,hw⟩=>?_
    (repeat (first | refine cj_seq ?_ | refine cjr TT rfl ?_ | refine oj_then ?_))
    refine cj_if rfl (fun h=>?_) (fun h=>?_)
    rotate_left
    · have hk0:k=gs.length:=by have:=of_decide_eq_false h;omega
      rw [hk0,List.take_length] at hw
      (repeat (first | refine cj_exit ?_ | refine nj_then_exit ?_ | refine nj_block_out ?_))
      refine nj_again () hw Nat.zero_lt_one rfl (by (repeat first | exact trivial | refine ⟨rfl,?_⟩)) (by (repeat first | exact trivial | refine ⟨rfl,?_⟩)) rfl (by (repeat' (first | exact trivial | constructor))) (by (repeat' exact trivial))
    have hkl:k<gs.length:=by have:=of_decide_eq_true h;omega
    obtain ⟨r,hr1,hr2⟩:=hR.get (List.getElem?_eq_getElem hkl)
    have htk:gs.take (k+1)=gs.take k++[gs[k]]:=List.take_succ_eq_append_getElem hkl
    generalize gs[k]=g at *
    obtain ⟨la,lc',lrows,ma,mc,vrows,rfl,V⟩:=hr2.open
    (repeat (first | refine cj_seq ?_ | refine cjr TT rfl ?_ | refine cj_skip ?_ | refine cj_block ?_ | refine nj_then ?_))
    refine oj_idx TT rfl rfl rfl rfl rfl rfl rfl rfl rfl H (by omega) hr1 (oj_run TT rfl ?_)
    refine oj_callP rfl rfl rfl rfl rfl Tryz.call13 (by (repeat' (first | exact trivial | exact vCells_lt _ _ _ _ _ _ | constructor))) (Few_c s0 g _ 200 V.rep (by omega) (by omega)) fun v ⟨fb,hv,hfew⟩=>⟨.a (.b fb),trivial,hv.symm,?_⟩
    refine oj_run TT rfl ?_
    (repeat refine oj_then ?_)
    refine cj_if rfl (fun h=>?_) (fun h=>?_)
    · (repeat (first | refine cj_seq ?_ | refine cjr TT rfl ?_ | refine oj_then ?_ | refine cj_ret ?_ | refine nj_then_ret ?_ | refine nj_block_ret ?_))
      refine nj_ret TT rfl fun β w' _ _=>?_
      rfl
    have hwg:g.weight<=300:=by
      have:=hfew (by simpa using h)
      omega
    (repeat (first | refine cjr TT rfl ?_ | refine oj_nil ?_ | refine cj_skip ?_ | refine nj_then ?_ | refine nj_block ?_ | (refine oj_add rfl rfl rfl rfl rfl rfl (by omega) ?_;refine oj_run TT rfl ?_)))
    refine nj_again (k+1) ⟨hkl,fun x hx=>?_⟩ (by omega) rfl (by (repeat first | exact trivial | refine ⟨rfl,?_⟩)) (by (repeat first | exact trivial | refine ⟨rfl,?_⟩)) rfl (by (repeat' (first | exact trivial | constructor))) (by (repeat' exact trivial))
    rw [htk] at hx
    rcases List.mem_append.1 hx with hx | hx
    · exact hw x hx
    · rw [List.mem_singleton] at hx
      subst hx
      exact hwg
  (repeat (first | refine cj_seq ?_ | refine cjr TT rfl ?_))
  refine oj_callS rfl rfl rfl rfl rfl Tryz.call36 ⟨trivial,trivial⟩ (filled_c s0 gs rows hR (by omega) hw lo lc H) fun v s1 hle1 ⟨X,hv,IX,M⟩=>⟨.agg (ixCells X),ixCells_lt _ _,hv.symm,?_⟩
  refine oj_run TT rfl ?_
  (repeat (first | refine cj_seq ?_ | refine cjr TT rfl ?_ | refine oj_then ?_))
  refine oj_own 1 1 2 rfl (by (repeat' (first | exact trivial | refine AllLt.of ?_ | constructor))) rfl (by decide) fun gp=>?_
  refine oj_seal 0 rfl rfl rfl fun s2 hle2 hS2=>?_
  have P:=deep_at rfl hS2
  have IX:=IX.mono hle2
  have hdd:∀ d∈X.ds,d.ids.length=d.L.length/\d.L.length<=100000:=fun d hd=>⟨(M.idx.doc d hd).1,by obtain ⟨_,_,_,_,_,_,_,h⟩:=M.doc d hd;omega⟩
  have hxl:=M.fit.xs
  dsimp only at hxl
  have hnum:=M.num
  have hmt:=IxMatch_c s2 X IX (by omega) hdd (by omega) [deepP] (by decide) _ _ P
  rw [on_deep M.idx] at hmt
  have hall:(X.ds.flatMap fun d=>itemsD d.id d.L)=allOf X:=rfl
  rw [hall] at hmt
  refine oj_set 35 (.agg (ixCells X)) rfl (ixCells_lt _ _) (fun _=>rfl) ?_
  refine oj_callS rfl rfl rfl rfl rfl Tryz.call30 ⟨ixCells_lt 0 X,trivial,trivial⟩ hmt fun v s3 hle3 ⟨oo,oc,hv,HO⟩=>⟨.a (.v (.slice oo (allOf X).length oc)),trivial,hv.symm,?_⟩
  have IX:=IX.mono hle3
  have hal:(allOf X).length<=1800:=by have:=allOf_len M;omega
  have hlv:=allOf_lv M
  have hup:=fun (it:GItem) (k:Int)=>Up_c s3 X IX (by omega) M.idx.ord (fun d hd r hr=>by
    obtain ⟨g,-,-,-,e,-⟩:=M.doc d hd
    have hlev:=shred_levels (gap:=2) (by omega) g
    rw [<-e] at hlev
    cases hL:d.L with
    | nil=>rw [hL] at hr;cases hr
    | cons x l =>
      rw [hL] at hr hlev
      injection hr with hr
      subst hr
      exact hlev.2.1) (fun d hd=>(hdd d hd).2) it k
  have hlaw:=fun it (h:it∈allOf X) k (h0:0<=k) (h1:k<=it.lv)=>up_law (by decide) M h h0 h1
  have hnone:=fun it (h:it∈allOf X) k (h1:k<0\/it.lv<k)=>up_none M h h1
  clear hmt
  generalize allOf X=A at *
  refine oj_run TT rfl ?_
  (repeat (first | refine cj_seq ?_ | refine cjr TT rfl ?_ | refine oj_then ?_ | refine cj_block ?_))
  refine cj_loop (fun (_:Nat)=>s3) (fun k=>[(3,.a .tt),(5,.a (.p 0 0)),(6,.a (.v (.slice oo A.length oc))),(7,.a (.v (.int .i64 k)))]) (fun _=>[(0,.loc 60,ixCells X)]) (fun _=>[]) 1 (fun k=>k<=A.length) (fun k=>A.length - k) 0 (Nat.zero_le _) rfl (by (repeat first | exact trivial | refine ⟨rfl,?_⟩)) (by (repeat first | exact trivial | refine ⟨rfl,?_⟩)) rfl ⟨trivial,Nat.zero_lt_one,trivial,trivial,trivial⟩ (by exact ⟨⟨by omega,ixCells_lt 1 X⟩,trivial⟩) fun i hi=>?_
  (repeat (first | refine cj_seq ?_ | refine cjr TT rfl ?_ | refine oj_then ?_))
  refine cj_if rfl (fun h=>?_) (fun h=>?_)
  rotate_left
  · (repeat (first | refine cj_seq ?_ | refine cjr TT rfl ?_ | refine oj_then ?_ | refine cj_exit ?_ | refine cj_ret ?_ | refine nj_then ?_ | refine nj_then_exit ?_ | refine nj_block_out ?_))
    refine nj_ret TT rfl fun β w' _ _=>?_
    rfl
  have hil:i<A.length:=by have:=of_decide_eq_true h;omega
  have hrow:=itRows_get (List.getElem?_eq_getElem hil)
  have hmem:=List.getElem_mem hil
  have hlaw:=hlaw A[i] hmem
  have hnone:=hnone A[i] hmem
  have hlv:=hlv A[i] hmem
  have hup:=hup A[i]
  generalize A[i]=it at *
  (repeat (first | refine cj_seq ?_ | refine cjr TT rfl ?_ | refine oj_then ?_ | refine cj_skip ?_ | refine cj_block ?_ | refine nj_then ?_))
  refine cj_loop (fun (_:Nat)=>s3) (fun k=>[(3,.a .tt),(5,.a (.p 0 0)),(6,.a (.v (.slice oo A.length oc))),(7,.a (.v (.int .i64 i))),(8,.a (.v (.int .i64 (k:Nat))))]) (fun _=>[(0,.loc 60,ixCells X)]) (fun _=>[]) 1 (fun k=>(k:Int)<=it.lv+1) (fun k=>(it.lv+1 - k).toNat) 0 (by omega) rfl (by (repeat first | exact trivial | refine ⟨rfl,?_⟩)) (by (repeat first | exact trivial | refine ⟨rfl,?_⟩)) rfl ⟨trivial,Nat.zero_lt_one,trivial,trivial,trivial,trivial⟩ (by exact ⟨⟨by omega,ixCells_lt 1 X⟩,trivial⟩) fun k hk=>?_
  (repeat (first | refine cj_seq ?_ | refine cjr TT rfl ?_))
  refine oj_idx TT rfl rfl rfl rfl rfl rfl rfl rfl rfl HO (by omega) hrow (oj_run TT rfl ?_)
  (repeat refine oj_then ?_)
  refine cj_if rfl (fun h=>?_) (fun h=>?_)
  rotate_left
  · have hz:=fun (k:Int) (h:k<0\/it.lv<k)=>(show PlainS Tryz.prog 37 [.agg (ixCells X),.agg (itCells it),.a (.v (.int .i64 k))] s3 (fun v=>v=upV none) from hnone k h▸hup k)
    have h1:=hz (it.lv+1) (.inr (by omega))
    have h2:=hz (-1) (.inl (by omega))
    have hlt2:SV.lt 0 (.tup [.agg (itCells itemZ),.a .ff]):=by
      intro x hx
      simp only [List.mem_cons,List.not_mem_nil,or_false] at hx
      rcases hx with rfl | rfl
      · exact itCells_lt 0 _
      · trivial
    (repeat (first | refine cj_seq ?_ | refine cj_exit ?_ | refine nj_then ?_ | refine nj_then_exit ?_ | refine nj_block_out ?_))
    refine cj_cutN (fun (_:Unit)=>s3) (fun _=>[(3,.a .tt),(5,.a (.p 0 0)),(6,.a (.v (.slice oo A.length oc))),(7,.a (.v (.int .i64 i))),(12,.a .ff)]) (fun _=>[(0,.loc 60,ixCells X)]) (fun _=>[]) 5 (fun _=>True) ?_ (fun _ _=>?_)
    · refine cj_drawG 18 [1,2,3,5,6,7,8,10,12,13,14,17] mixed (by kernel_rfl) rfl ?_
      refine gj_val (i:=0) TT rfl (by kernel_rfl) (by kernel_rfl) rfl rfl rfl rfl rfl ?_
      refine gj_val (i:=1) TT rfl (by kernel_rfl) (by kernel_rfl) rfl rfl rfl rfl rfl ?_
      refine gj_val (i:=2) TT rfl (by kernel_rfl) (by kernel_rfl) rfl rfl rfl rfl rfl ?_
      refine gj_idx (i:=3) TT rfl rfl (by kernel_rfl) (by kernel_rfl) rfl rfl rfl rfl rfl rfl rfl rfl rfl HO (by omega) hrow ?_
      refine gj_val (i:=4) TT rfl (by kernel_rfl) (by kernel_rfl) rfl rfl rfl rfl rfl ?_
      refine gj_val (i:=5) TT rfl (by kernel_rfl) (by kernel_rfl) rfl rfl rfl rfl rfl ?_
      refine gj_val (i:=6) TT rfl (by kernel_rfl) (by kernel_rfl) rfl rfl rfl rfl rfl ?_
      refine gj_idx (i:=7) TT rfl rfl (by kernel_rfl) (by kernel_rfl) rfl rfl rfl rfl rfl rfl rfl rfl rfl HO (by omega) hrow ?_
      refine gj_val (i:=8) TT rfl (by kernel_rfl) (by kernel_rfl) rfl rfl rfl rfl rfl ?_
      refine gj_val (i:=9) TT rfl (by kernel_rfl) (by kernel_rfl) rfl rfl rfl rfl rfl ?_
      refine gj_add (i:=10) rfl rfl (by kernel_rfl) (by kernel_rfl) rfl rfl rfl rfl rfl rfl (by omega) ?_
      refine gj_two (i:=11) (j:=15) (by kernel_rfl) ?_ ?_
      · refine gk_callP (ys:=[.agg (ixCells X),.agg (itCells it),.a (.v (.int .i64 (it.lv+1)))]) rfl rfl rfl rfl rfl Tryz.call37 ⟨ixCells_lt 0 X,itCells_lt 0 it,trivial,trivial⟩ h1 fun v hv=>⟨.tup [.agg (itCells itemZ),.a .ff],hlt2,hv.symm,?_⟩
        refine gj_order [(12,.pure),(13,.pure),(14,.pure),(15,.keep),(16,.sink),(17,.pure)] rfl rfl (by kernel_rfl) ?_
        refine oj_run TT rfl ?_
        (repeat refine oj_nil ?_)
        refine nj_again () trivial Nat.zero_lt_one rfl (by (repeat first | exact trivial | refine ⟨rfl,?_⟩)) (by (repeat first | exact trivial | refine ⟨rfl,?_⟩)) rfl ⟨trivial,by show 0<5;omega,trivial,trivial,trivial,trivial⟩ (by exact ⟨⟨by omega,ixCells_lt 5 X⟩,trivial⟩)
      · refine gk_new TT rfl rfl rfl rfl rfl ?_
        refine gj_order [(11,.keep),(12,.pure),(13,.pure),(14,.pure),(16,.sink),(17,.pure)] rfl rfl (by kernel_rfl) ?_
        refine oj_callP (ys:=[.agg (ixCells X),.agg (itCells it),.a (.v (.int .i64 (it.lv+1)))]) rfl rfl rfl rfl rfl Tryz.call37 ⟨ixCells_lt 0 X,itCells_lt 0 it,trivial,trivial⟩ h1 fun v hv=>⟨.tup [.agg (itCells itemZ),.a .ff],hlt2,hv.symm,?_⟩
        refine oj_run TT rfl ?_
        (repeat refine oj_nil ?_)
        refine nj_again () trivial Nat.zero_lt_one rfl (by (repeat first | exact trivial | refine ⟨rfl,?_⟩)) (by (repeat first | exact trivial | refine ⟨rfl,?_⟩)) rfl ⟨trivial,by show 0<5;omega,trivial,trivial,trivial,trivial⟩ (by exact ⟨⟨by omega,ixCells_lt 5 X⟩,trivial⟩)
    (repeat refine cj_seq ?_)
    refine cj_cutN (fun (_:Unit)=>s3) (fun _=>[(3,.a .tt),(5,.a (.p 0 0)),(6,.a (.v (.slice oo A.length oc))),(7,.a (.v (.int .i64 i))),(12,.a .ff),(14,.a .ff)]) (fun _=>[(0,.loc 60,ixCells X)]) (fun _=>[]) 7 (fun _=>True) ?_ (fun _ _=>?_)
    · refine cj_drawG 12 [1,2,3,6,7,8,11] mixed (by kernel_rfl) rfl ?_
      refine gj_val (i:=0) TT rfl (by kernel_rfl) (by kernel_rfl) rfl rfl rfl rfl rfl ?_
      refine gj_val (i:=1) TT rfl (by kernel_rfl) (by kernel_rfl) rfl rfl rfl rfl rfl ?_
      refine gj_val (i:=2) TT rfl (by kernel_rfl) (by kernel_rfl) rfl rfl rfl rfl rfl ?_
      refine gj_idx (i:=3) TT rfl rfl (by kernel_rfl) (by kernel_rfl) rfl rfl rfl rfl rfl rfl rfl rfl rfl HO (by omega) hrow ?_
      refine gj_val (i:=4) TT rfl (by kernel_rfl) (by kernel_rfl) rfl rfl rfl rfl rfl ?_
      refine gj_two (i:=5) (j:=9) (by kernel_rfl) ?_ ?_
      · refine gk_callP (ys:=[.agg (ixCells X),.agg (itCells it),.a (.v (.int .i64 (-1)))]) rfl rfl rfl rfl rfl Tryz.call37 ⟨ixCells_lt 0 X,itCells_lt 0 it,trivial,trivial⟩ h2 fun v hv=>⟨.tup [.agg (itCells itemZ),.a .ff],hlt2,hv.symm,?_⟩
        refine gj_order [(6,.pure),(7,.pure),(8,.pure),(9,.keep),(10,.sink),(11,.pure)] rfl rfl (by kernel_rfl) ?_
        refine oj_run TT rfl ?_
        (repeat refine oj_nil ?_)
        refine nj_again () trivial Nat.zero_lt_one rfl (by (repeat first | exact trivial | refine ⟨rfl,?_⟩)) (by (repeat first | exact trivial | refine ⟨rfl,?_⟩)) rfl ⟨trivial,by show 0<7;omega,trivial,trivial,trivial,trivial,trivial⟩ (by exact ⟨⟨by omega,ixCells_lt 7 X⟩,trivial⟩)
      · refine gk_new TT rfl rfl rfl rfl rfl ?_
        refine gj_order [(5,.keep),(6,.pure),(7,.pure),(8,.pure),(10,.sink),(11,.pure)] rfl rfl (by kernel_rfl) ?_
        refine oj_callP (ys:=[.agg (ixCells X),.agg (itCells it),.a (.v (.int .i64 (-1)))]) rfl rfl rfl rfl rfl Tryz.call37 ⟨ixCells_lt 0 X,itCells_lt 0 it,trivial,trivial⟩ h2 fun v hv=>⟨.tup [.agg (itCells itemZ),.a .ff],hlt2,hv.symm,?_⟩
        refine oj_run TT rfl ?_
        (repeat refine oj_nil ?_)
        refine nj_again () trivial Nat.zero_lt_one rfl (by (repeat first | exact trivial | refine ⟨rfl,?_⟩)) (by (repeat first | exact trivial | refine ⟨rfl,?_⟩)) rfl ⟨trivial,by show 0<7;omega,trivial,trivial,trivial,trivial,trivial⟩ (by exact ⟨⟨by omega,ixCells_lt 7 X⟩,trivial⟩)
    (repeat (first | refine cj_seq ?_ | refine cjr TT rfl ?_ | refine oj_then ?_ | refine oj_nil ?_ | refine cj_if_f rfl ?_ | refine cj_skip ?_ | refine nj_then ?_ | refine nj_block ?_ | (refine oj_add rfl rfl rfl rfl rfl rfl (by omega) ?_;refine oj_run TT rfl ?_)))
    refine nj_again (i+1) hil (by omega) rfl (by (repeat first | exact trivial | refine ⟨rfl,?_⟩)) (by (repeat first | exact trivial | refine ⟨rfl,?_⟩)) rfl ⟨trivial,Nat.zero_lt_one,trivial,trivial,trivial⟩ (by exact ⟨⟨by omega,ixCells_lt 1 X⟩,trivial⟩)
  have hkl:(k:Int)<=it.lv:=of_decide_eq_true h
  obtain ⟨y,hy1,hy2,hy3,hy4,hy5,hy6⟩:=hlaw k (by omega) hkl
  have hupk:=hup k
  rw [hy1] at hupk
  (repeat (first | refine cj_seq ?_ | refine cj_skip ?_ | refine cj_block ?_ | refine nj_then ?_))
  refine cj_cutN (fun (_:Unit)=>s3) (fun _=>[(3,.a .tt),(5,.a (.p 0 0)),(6,.a (.v (.slice oo A.length oc))),(7,.a (.v (.int .i64 i))),(8,.a (.v (.int .i64 (k:Nat)))),(9,.a (.p 3 0)),(10,.a .tt)]) (fun _=>[(0,.loc 60,ixCells X),(3,.loc 71,itCells y)]) (fun _=>[]) 4 (fun _=>True) ?_ (fun _ _=>?_)
  · refine cj_drawG 13 [1,2,3,5,7,8,9,12] mixed (by kernel_rfl) rfl ?_
    refine gj_val (i:=0) TT rfl (by kernel_rfl) (by kernel_rfl) rfl rfl rfl rfl rfl ?_
    refine gj_val (i:=1) TT rfl (by kernel_rfl) (by kernel_rfl) rfl rfl rfl rfl rfl ?_
    refine gj_val (i:=2) TT rfl (by kernel_rfl) (by kernel_rfl) rfl rfl rfl rfl rfl ?_
    refine gj_idx (i:=3) TT rfl rfl (by kernel_rfl) (by kernel_rfl) rfl rfl rfl rfl rfl rfl rfl rfl rfl HO (by omega) hrow ?_
    refine gj_val (i:=4) TT rfl (by kernel_rfl) (by kernel_rfl) rfl rfl rfl rfl rfl ?_
    refine gj_val (i:=5) TT rfl (by kernel_rfl) (by kernel_rfl) rfl rfl rfl rfl rfl ?_
    refine gj_two (i:=6) (j:=10) (by kernel_rfl) ?_ ?_
    · refine gk_callP (ys:=[.agg (ixCells X),.agg (itCells it),.a (.v (.int .i64 k))]) rfl rfl rfl rfl rfl Tryz.call37 ⟨ixCells_lt 0 X,itCells_lt 0 it,trivial,trivial⟩ hupk fun v hv=>⟨.tup [.agg (itCells y),.a .tt],(by intro x hx;simp only [List.mem_cons,List.not_mem_nil,or_false] at hx;rcases hx with rfl | rfl;exact itCells_lt 0 _;trivial),hv.symm,?_⟩
      refine gj_order [(7,.pure),(8,.pure),(9,.pure),(10,.keep),(11,.sink),(12,.pure)] rfl rfl (by kernel_rfl) ?_
      refine oj_run TT rfl ?_
      (repeat refine oj_nil ?_)
      refine nj_again () trivial Nat.zero_lt_one rfl (by (repeat first | exact trivial | refine ⟨rfl,?_⟩)) (by (repeat first | exact trivial | refine ⟨rfl,?_⟩)) rfl ⟨trivial,by show 0<4;omega,trivial,trivial,trivial,by show 3<4;omega,trivial,trivial⟩ (by exact ⟨⟨by omega,ixCells_lt 4 X⟩,⟨by omega,itCells_lt 4 y⟩,trivial⟩)
    · refine gk_new TT rfl rfl rfl rfl rfl ?_
      refine gj_order [(6,.keep),(7,.pure),(8,.pure),(9,.pure),(11,.sink),(12,.pure)] rfl rfl (by kernel_rfl) ?_
      refine oj_callP (ys:=[.agg (ixCells X),.agg (itCells it),.a (.v (.int .i64 k))]) rfl rfl rfl rfl rfl Tryz.call37 ⟨ixCells_lt 0 X,itCells_lt 0 it,trivial,trivial⟩ hupk fun v hv=>⟨.tup [.agg (itCells y),.a .tt],(by intro x hx;simp only [List.mem_cons,List.not_mem_nil,or_false] at hx;rcases hx with rfl | rfl;exact itCells_lt 0 _;trivial),hv.symm,?_⟩
      refine oj_run TT rfl ?_
      (repeat refine oj_nil ?_)
      refine nj_again () trivial Nat.zero_lt_one rfl (by (repeat first | exact trivial | refine ⟨rfl,?_⟩)) (by (repeat first | exact trivial | refine ⟨rfl,?_⟩)) rfl ⟨trivial,by show 0<4;omega,trivial,trivial,trivial,by show 3<4;omega,trivial,trivial⟩ (by exact ⟨⟨by omega,ixCells_lt 4 X⟩,⟨by omega,itCells_lt 4 y⟩,trivial⟩)
  dsimp only
  (repeat refine cj_seq ?_)
  refine cj_draw [(0,.pure),(1,.pure),(2,.pure),(3,.pure),(4,.quiet),(5,.pure),(6,.pure),(7,.pure),(8,.pure),(9,.quiet),(10,.pure),(11,.pure),(12,.pure),(13,.pure),(14,.quiet),(15,.pure),(16,.pure),(17,.pure),(18,.pure),(19,.pure),(20,.quiet),(21,.pure),(22,.pure),(23,.pure),(24,.pure),(25,.quiet),(26,.pure),(27,.pure),(28,.pure),(29,.pure),(30,.quiet),(31,.pure),(32,.pure),(33,.pure),(34,.pure),(35,.quiet),(36,.pure),(37,.pure),(38,.pure),(39,.pure),(40,.pure),(41,.pure),(42,.pure),(43,.pure),(44,.quiet),(45,.pure),(46,.quiet),(47,.pure),(48,.pure),(49,.pure),(50,.quiet),(51,.pure),(52,.pure),(53,.pure)] mixed (by kernel_rfl) (oj_run TT rfl ?_)
  refine oj_idx TT rfl rfl rfl rfl rfl rfl rfl rfl rfl HO (by omega) hrow (oj_run TT rfl ?_)
  refine oj_split 76 rfl (fun h=>absurd h (by simp [hy2])) (fun _=>?_)
  refine oj_run TT rfl ?_
  refine oj_split 82 rfl (fun h=>absurd h (by simp [hy3])) (fun _=>?_)
  refine oj_run TT rfl ?_
  refine oj_idx TT rfl rfl rfl rfl rfl rfl rfl rfl rfl HO (by omega) hrow (oj_run TT rfl ?_)
  refine oj_split 92 rfl (fun h=>absurd (of_decide_eq_true h) (by omega)) (fun _=>?_)
  refine oj_run TT rfl ?_
  refine oj_idx TT rfl rfl rfl rfl rfl rfl rfl rfl rfl HO (by omega) hrow (oj_run TT rfl ?_)
  refine oj_split 102 rfl (fun h=>absurd (of_decide_eq_true h) (by omega)) (fun _=>?_)
  refine oj_run TT rfl ?_
  refine oj_idx TT rfl rfl rfl rfl rfl rfl rfl rfl rfl HO (by omega) hrow (oj_run TT rfl ?_)
  refine oj_idx TT rfl rfl rfl rfl rfl rfl rfl rfl rfl HO (by omega) hrow (oj_run TT rfl ?_)
  refine oj_eqItem y it rfl rfl rfl rfl rfl rfl rfl (oj_run TT rfl ?_)
  (repeat refine oj_then ?_)
  refine cj_if rfl (fun h=>absurd h (by rw [hy6];simp)) (fun _=>?_)
  (repeat (first | refine cjr TT rfl ?_ | refine oj_nil ?_ | refine cj_skip ?_ | refine nj_then ?_ | refine nj_block ?_ | (refine oj_add rfl rfl rfl rfl rfl rfl (by omega) ?_;refine oj_run TT rfl ?_)))
  refine nj_again (k+1) (by omega) (by omega) rfl (by (repeat first | exact trivial | refine ⟨rfl,?_⟩)) (by (repeat first | exact trivial | refine ⟨rfl,?_⟩)) rfl ⟨trivial,Nat.zero_lt_one,trivial,trivial,trivial,trivial⟩ (by exact ⟨⟨by omega,ixCells_lt 1 X⟩,trivial⟩)
end Go.Sy
/- From a row's data to what the walks ask: a value that is read in the world is a tree that lies in memory, all of it sealed. -/
namespace Go.Sy
open Go.ChangeShapes Go.RowKit
def snapOf (W:World):Snap:=fun b=>W.heap[b]?
theorem snapOf_sealed (W:World):Sealed (snapOf W) W:=fun _ _ h=>h
theorem snapOf_cell (W:World) (a:Addr):(snapOf W).cell a=W.cell? a:=rfl
structure VT (P:Program) (tV tL tM tE tD tS tI tB:TypeId):Prop where
  v:∃ fs:Array Field,P.underlying tV=some (.struct fs)/\fs.toList.map (fun f=>(f.type,f.offset))=[(tI,0),(tB,1),(tD,2),(tS,5),(tL,6),(tM,7)]
  l:P.underlying tL=some (.slice tV)
  m:P.underlying tM=some (.slice tE)
  e:∃ fs:Array Field,P.underlying tE=some (.struct fs)/\fs.toList.map (fun f=>(f.type,f.offset))=[(tS,0),(tV,1)]
  d:∃ fs:Array Field,P.underlying tD=some (.struct fs)/\fs.toList.map (fun f=>(f.type,f.offset))=[(tB,0),(tS,1),(tI,2)]
  s:P.underlying tS=some .string
  i:P.underlying tI=some (.int .i64)
  b:P.underlying tB=some .bool
  cV:P.cellsOf tV=8
  cE:P.cellsOf tE=9
  cD:P.cellsOf tD=3
  cS:P.cellsOf tS=1
  cI:P.cellsOf tI=1
  cB:P.cellsOf tB=1
  cL:P.cellsOf tL=1
  cM:P.cellsOf tM=1
  bV:0<P.bytesOf tV
  bE:0<P.bytesOf tE
section
variable {H:Type} {enc:TypeId×Value->H} {P:Program} {w:World} {sp:Nat->Bool} {held:Bool}
theorem field_at {fs:Array Field} {l:List (TypeId×Nat)} (h:fs.toList.map (fun f=>(f.type,f.offset))=l) {i:Nat} {t:TypeId} {o:Nat} (hi:l[i]?=some (t,o)) :
    ∃ f,fs[i]?=some f/\f.type=t/\f.offset=o:=by
  subst h
  rw [List.getElem?_map] at hi
  simp only [Option.map_eq_some_iff,Prod.mk.injEq] at hi
  obtain ⟨f,h1,h2,h3⟩:=hi
  exact ⟨f,by simpa using h1,h2,h3⟩
theorem open_struct {t:TypeId} {fs:Array Field} {l:List (TypeId×Nat)} {n:Nat} {cs:List Value} {x:DataW H×List MemPlace} (hu:P.underlying t=some (.struct fs)) (hl:fs.toList.map (fun f=>(f.type,f.offset))=l)
    (h:DataW.trod enc P w 0 sp held n t cs=some x) :
    ∃ m,m<n/\cs.length=P.cellsOf t/\∀ (i:Nat) (u:TypeId) (o:Nat),l[i]?=some (u,o)->∃ y:DataW H×List MemPlace,DataW.trod enc P w 0 sp held m u ((cs.drop o).take (P.cellsOf u))=some y/\∀ k∈y.1.weights P u,k∈x.1.weights P t:=by
  obtain ⟨xs,m,rfl,rfl,h1,h2,h3⟩:=DataW.trod_struct hu h
  refine ⟨m,by omega,h1,fun i u o hi=>?_⟩
  obtain ⟨f,hf,rfl,rfl⟩:=field_at hl hi
  have hi':i<xs.length:=by
    rw [h2]
    have:=(List.getElem?_eq_some_iff.1 (show fs.toList[i]?=some f by simpa using hf)).1
    simpa using this
  refine ⟨xs[i],by rw [h3 i f hf,List.getElem?_eq_getElem hi'],fun k hk=>?_⟩
  rw [DataW.weights.eq_def]
  simp only [hu]
  exact DataW.weights_mem_each (j:=i) (t:=f.type) (d:=xs[i].1) (by simp;exact ⟨f,by simpa using hf,rfl⟩) (by simp [List.getElem?_eq_getElem hi']) k hk
theorem weightsAll_mem {e:TypeId}:∀ {ds:List (DataW H)} {d:DataW H},d∈ds->∀ k∈d.weights P e,k∈DataW.weightsAll P e ds
  | _::_,_,.head _,k,hk=>by rw [DataW.weightsAll];exact List.mem_append_left _ hk
  | _::_,_,.tail _ h,k,hk=>by rw [DataW.weightsAll];exact List.mem_append_right _ (weightsAll_mem h k hk)
theorem open_sl {t e:TypeId} {n sz:Nat} {c:Value} {x:DataW H×List MemPlace} (hu:P.underlying t=some (.slice e)) (hc:P.cellsOf e=sz) (hb:0<P.bytesOf e) (h:DataW.trod enc P w 0 sp held n t [c]=some x)
    (hw:∀ k∈x.1.weights P t,k<=reachBytes) :
    ∃ (ao:Option Addr) (len cap m:Nat),c=.slice ao len cap/\m<n/\len<=cap/\len<=reachBytes /\
      (len=0\/∃ a,ao=some a/\∀ i,i<len->∃ (cs:List Value) (y:DataW H×List MemPlace),cs.length=sz/\(∀ j v,cs[j]?=some v->w.cell? (a.add (i*sz+j))=some v) /\
        DataW.trod enc P w 0 sp held m e cs=some y/\∀ k∈y.1.weights P e,k∈x.1.weights P t):=by
  rcases DataW.trod_slice hu h with ⟨h1,rfl⟩ | ⟨a,len,cap,elems,rest,m,rfl,h1,rfl,_,h3,h4,h5,h6,_,_⟩
  · injection h1 with h1
    subst h1
    refine ⟨none,0,0,0,rfl,?_,Nat.le_refl _,by decide,.inl rfl⟩
    cases n with
    | zero=>simp [DataW.trod] at h
    | succ n=>omega
  · injection h1 with h1
    subst h1
    have hwt:(DataW.slice (elems.map (·.1)) (rest.map (·.1)):DataW H).weights P t=((elems.map (·.1)).length+(rest.map (·.1)).length)*P.bytesOf e::(DataW.weightsAll P e (elems.map (·.1))++DataW.weightsAll P e (rest.map (·.1))):=by
      rw [DataW.weights.eq_def]
      simp only [hu]
    refine ⟨some a,len,cap,m,rfl,by omega,h3,?_,.inr ⟨a,rfl,fun i hi=>?_⟩⟩
    · have:=hw _ (by rw [hwt];exact List.mem_cons_self)
      simp only [List.length_map] at this
      have h7:elems.length<=(elems.length+rest.length)*P.bytesOf e:=Nat.le_trans (Nat.le_add_right _ _) (Nat.le_mul_of_pos_right _ hb)
      omega
    · have hi':i<elems.length:=by omega
      have h8:=h6 i hi
      rw [List.getElem?_eq_getElem hi',hc] at h8
      obtain ⟨cs,h9,h10⟩:=Option.bind_eq_some_iff.1 h8
      obtain ⟨_,h11,h12⟩:=World.cells?_some h9
      refine ⟨cs,elems[i],h11,fun j v hj=>?_,h10,fun k hk=>?_⟩
      · have hj':j<sz:=by rw [<-h11];exact (List.getElem?_eq_some_iff.1 hj).1
        have:=h12 j hj'
        rw [hj] at this
        rw [<-this]
        congr 1
        exact (Addr.add_add _ _ _).symm
      · rw [hwt]
        exact List.mem_cons_of_mem _ (List.mem_append_left _ (weightsAll_mem (List.mem_map.2 ⟨elems[i],List.getElem_mem hi',rfl⟩) k hk))
theorem RepL.range {σ:Snap} {G:Nat->GVal} {R:Nat->List AT}:∀ l:List Nat,(∀ i∈l,RepV σ (G i) (R i))->RepL σ (l.map G) (l.map R)
  | [],_=>by simp [RepL]
  | a::l,h=>by
    simp only [List.map_cons,RepL]
    exact ⟨R a,l.map R,rfl,h a List.mem_cons_self,RepL.range l fun i hi=>h i (List.mem_cons_of_mem _ hi)⟩
theorem keyRows_range (K:Nat->ByteArray) (R:Nat->List AT):∀ l:List Nat,keyRows (l.map K) (l.map R)=l.map fun i=>keyRow (K i) (R i)
  | []=>rfl
  | a::l=>by simp [keyRows,keyRows_range K R l]
theorem slAt_range {ao:Option Addr} {len cap sz:Nat} {R:Nat->List AT} (h1:len<=cap) (h2:∀ i,i<len->(R i).length=sz/\∀ c∈R i,c.lt 0)
    (h3:len=0\/∃ a,ao=some a/\∀ i,i<len->∀ j v,((R i).map (AT.den β0))[j]?=some v->w.cell? (a.add (i*sz+j))=some v):SlAt (snapOf w) ao len cap sz ((List.range len).map R):=by
  refine ⟨by simp,h1,fun r hr=>?_,?_⟩
  · obtain ⟨i,hi,rfl⟩:=List.mem_map.1 hr
    exact h2 i (List.mem_range.1 hi)
  · rcases h3 with h3 | ⟨a,h3,h4⟩
    · exact .inl h3
    · refine .inr ⟨a,h3,fun i r j c hr hc=>?_⟩
      rw [List.getElem?_map] at hr
      obtain ⟨i',h5,rfl⟩:=Option.map_eq_some_iff.1 hr
      obtain ⟨h6,h7⟩:=List.getElem?_eq_some_iff.1 h5
      have h8:i<len:=by simpa using h6
      have h9:i'=i:=by simpa using h7.symm
      subst h9
      rw [snapOf_cell]
      exact h4 i' h8 j _ (by rw [List.getElem?_map,hc];rfl)
variable {tV tL tM tE tD tS tI tB:TypeId}
theorem open_str {n:Nat} {t:TypeId} {c:Value} {x:DataW H×List MemPlace} (hu:P.underlying t=some .string) (h:DataW.trod enc P w 0 sp held n t [c]=some x) (hw:∀ k∈x.1.weights P t,k<=reachBytes) :
    ∃ s:ByteArray,c=.string s/\s.size<=mostLen:=by
  obtain ⟨s,h1,rfl,_⟩:=DataW.trod_string hu h
  injection h1 with h1
  subst h1
  refine ⟨s,rfl,?_⟩
  have:=hw s.data.toList.length (by rw [DataW.weights.eq_def];exact List.mem_cons_self)
  have h2:s.data.toList.length=s.size:=rfl
  rw [h2] at this
  exact this
theorem open_val (T:VT P tV tL tM tE tD tS tI tB):∀ (n:Nat) (cs:List Value) (x:DataW H×List MemPlace),DataW.trod enc P w 0 sp held n tV cs=some x->(∀ k∈x.1.weights P tV,k<=reachBytes) ->
    ∃ (g:GVal) (r:List AT),cs=r.map (AT.den β0)/\RepV (snapOf w) g r:=by
  intro n
  induction n using Nat.strongRecOn with
  | _ n ih=>?_
  intro cs x h hw
  obtain ⟨fs,hu,hl⟩:=T.v
  obtain ⟨m,hm,hlen,hf⟩:=open_struct hu hl h
  rw [T.cV] at hlen
  match cs,hlen with
  | [c0,c1,c2,c3,c4,c5,c6,c7],_ =>
  obtain ⟨y0,h0,_⟩:=hf 0 tI 0 rfl
  obtain ⟨y1,h1,_⟩:=hf 1 tB 1 rfl
  obtain ⟨y2,h2,w2⟩:=hf 2 tD 2 rfl
  obtain ⟨y3,h3,w3⟩:=hf 3 tS 5 rfl
  obtain ⟨y4,h4,w4⟩:=hf 4 tL 6 rfl
  obtain ⟨y5,h5,w5⟩:=hf 5 tM 7 rfl
  rw [T.cI] at h0
  rw [T.cB] at h1
  rw [T.cD] at h2
  rw [T.cS] at h3
  rw [T.cL] at h4
  rw [T.cM] at h5
  simp only [List.drop_zero,List.drop_succ_cons,List.take_succ_cons,List.take_zero] at h0 h1 h2 h3 h4 h5
  obtain ⟨k,e0,-,-⟩:=DataW.trod_int T.i h0
  obtain ⟨b,e1,-⟩:=DataW.trod_bool T.b h1
  obtain ⟨s,e5,hs⟩:=open_str T.s h3 fun k hk=>hw k (w3 k hk)
  obtain ⟨fd,hud,hld⟩:=T.d
  obtain ⟨md,hmd,-,hfd⟩:=open_struct hud hld h2
  obtain ⟨z0,g0,_⟩:=hfd 0 tB 0 rfl
  obtain ⟨z1,g1,v1⟩:=hfd 1 tS 1 rfl
  obtain ⟨z2,g2,_⟩:=hfd 2 tI 2 rfl
  rw [T.cB] at g0
  rw [T.cS] at g1
  rw [T.cI] at g2
  simp only [List.drop_zero,List.drop_succ_cons,List.take_succ_cons,List.take_zero] at g0 g1 g2
  obtain ⟨ng,e2,-⟩:=DataW.trod_bool T.b g0
  obtain ⟨dg,e3,hdg⟩:=open_str T.s g1 fun k hk=>hw k (w2 k (v1 k hk))
  obtain ⟨ex,e4,-,-⟩:=DataW.trod_int T.i g2
  injection e0 with e0
  injection e1 with e1
  injection e2 with e2
  injection e4 with e4
  subst e0 e1 e2 e3 e4 e5
  obtain ⟨la,ll,lc,ml,rfl,hml,hll,hlr,hle⟩:=open_sl T.l T.cV T.bV h4 fun k hk=>hw k (w4 k hk)
  obtain ⟨ma,lm,mc,mm,rfl,hmm,hlm,hmr,hme⟩:=open_sl T.m T.cE T.bE h5 fun k hk=>hw k (w5 k hk)
  have HL:∀ i,∃ gr:GVal×List AT,i<ll->RepV (snapOf w) gr.1 gr.2/\∀ a,la=some a->∀ j v,(gr.2.map (AT.den β0))[j]?=some v->w.cell? (a.add (i*8+j))=some v:=by
    intro i
    by_cases hi:i<ll
    · rcases hle with h0 | ⟨a,rfl,hle⟩
      · omega
      · obtain ⟨cs,y,_,q2,q3,q4⟩:=hle i hi
        obtain ⟨g,r,rfl,hr⟩:=ih ml (by omega) cs y q3 fun k hk=>hw k (w4 k (q4 k hk))
        exact ⟨(g,r),fun _=>⟨hr,fun a' ha=>by injection ha with ha;subst ha;exact q2⟩⟩
    · exact ⟨(.mk 0 false ⟨false,⟨#[]⟩,0⟩ ⟨#[]⟩ [] [] [],[]),fun h=>absurd h hi⟩
  have HM:∀ i,∃ gr:ByteArray×GVal×List AT,i<lm->gr.1.size<=mostLen/\RepV (snapOf w) gr.2.1 gr.2.2/\∀ a,ma=some a->∀ j v,((keyRow gr.1 gr.2.2).map (AT.den β0))[j]?=some v->w.cell? (a.add (i*9+j))=some v:=by
    intro i
    by_cases hi:i<lm
    · rcases hme with h0 | ⟨a,rfl,hme⟩
      · omega
      · obtain ⟨cs,y,q1,q2,q3,q4⟩:=hme i hi
        obtain ⟨fe,hue,hle'⟩:=T.e
        obtain ⟨me,hme',-,hfe⟩:=open_struct hue hle' q3
        obtain ⟨u0,p0,x0⟩:=hfe 0 tS 0 rfl
        obtain ⟨u1,p1,x1⟩:=hfe 1 tV 1 rfl
        rw [T.cS] at p0
        rw [T.cV] at p1
        match cs,q1 with
        | c::cs',q1 =>
          simp only [List.drop_zero,List.drop_succ_cons,List.take_succ_cons,List.take_zero] at p0 p1
          rw [List.take_of_length_le (by simp at q1;omega)] at p1
          obtain ⟨key,rfl,hk⟩:=open_str T.s p0 fun k hk=>hw k (w5 k (q4 k (x0 k hk)))
          obtain ⟨g,r,rfl,hr⟩:=ih me (by omega) cs' u1 p1 fun k hk=>hw k (w5 k (q4 k (x1 k hk)))
          exact ⟨(key,g,r),fun _=>⟨hk,hr,fun a' ha=>by injection ha with ha;subst ha;exact q2⟩⟩
    · exact ⟨(⟨#[]⟩,.mk 0 false ⟨false,⟨#[]⟩,0⟩ ⟨#[]⟩ [] [] [],[]),fun h=>absurd h hi⟩
  obtain ⟨FL,HL⟩:=Classical.axiomOfChoice HL
  obtain ⟨FM,HM⟩:=Classical.axiomOfChoice HM
  refine ⟨.mk k b ⟨ng,dg,ex⟩ s ((List.range ll).map fun i=>(FL i).1) ((List.range lm).map fun i=>(FM i).1) ((List.range lm).map fun i=>(FM i).2.1),
    [.v (.int .i64 k),.b b,.b ng,.v (.string dg),.v (.int .i64 ex),.v (.string s),.v (.slice la ll lc),.v (.slice ma lm mc)],rfl,?_⟩
  simp only [RepV]
  refine ⟨la,lc,(List.range ll).map fun i=>(FL i).2,ma,mc,(List.range lm).map fun i=>(FM i).2.2,by simp,?_,RepL.range _ fun i hi=>(HL i (List.mem_range.1 hi)).1,by simp,?_,RepL.range _ fun i hi=>(HM i (List.mem_range.1 hi)).2.1,hdg,hs,by simpa [mostLen,reachBytes] using hlr,by simpa [mostLen,reachBytes] using hmr,?_⟩
  · simp only [List.length_map,List.length_range]
    refine slAt_range hll (fun i hi=>⟨(HL i hi).1.len,(HL i hi).1.clo⟩) ?_
    rcases hle with h0 | ⟨a,rfl,_⟩
    · exact .inl h0
    · exact .inr ⟨a,rfl,fun i hi=>(HL i hi).2 a rfl⟩
  · rw [keyRows_range]
    simp only [List.length_map,List.length_range]
    refine slAt_range hlm (fun i hi=>⟨by simp [keyRow,(HM i hi).2.1.len],fun c hc=>?_⟩) ?_
    · cases hc with
      | head=>trivial
      | tail _ hc=>exact (HM i hi).2.1.clo c hc
    · rcases hme with h0 | ⟨a,rfl,_⟩
      · exact .inl h0
      · exact .inr ⟨a,rfl,fun i hi=>(HM i hi).2.2 a rfl⟩
  · intro key hk
    obtain ⟨i,hi,rfl⟩:=List.mem_map.1 hk
    exact (HM i (List.mem_range.1 hi)).1
end
end Go.Sy
/- The closing of a law's row, alike from law to law. -/
namespace Go.Sy
open Go.ChangeShapes Go.RowKit
section
variable {H:Type} {enc:TypeId×Value->H} {P:Program} {W W':World} {sp:Nat->Bool}
theorem trodAll_stays {T:TypeId->Prop} (K:_root_.Go.Kids P T) (hz:∀ t e,T t->P.underlying t=some (.slice e)->0<P.cellsOf e) :
    ∀ {ts:List TypeId} {vs:List Value} {ds:List (DataW H)} {ps:List MemPlace},(∀ t∈ts,T t)->DataW.TrodAll enc P W 0 (fun _=>true) true ts vs ds ps ->
      (∀ p∈ps,W.sameAt W' p)->(∀ p∈ps,sp p.block=true)->DataW.TrodAll enc P W' 0 sp true ts vs ds ps
  | [],[],[],_,_,h,_,_=>h
  | _::_,_::_,_::_,_,hT,⟨p,q,⟨n,h1⟩,h2,e⟩,hs,hb =>
    ⟨p,q,⟨n,DataW.trod_stays K (fun ht hu=>hz _ _ ht hu) (fun h=>by cases h) (hT _ List.mem_cons_self) h1 (fun x hx=>hs x (by rw [e];exact List.mem_append_left _ hx)) (fun x hx=>hb x (by rw [e];exact List.mem_append_left _ hx))⟩,
      trodAll_stays K hz (fun t ht=>hT t (List.mem_cons_of_mem _ ht)) h2 (fun x hx=>hs x (by rw [e];exact List.mem_append_right _ hx)) (fun x hx=>hb x (by rw [e];exact List.mem_append_right _ hx)),e⟩
theorem below_of_fr {M:Nat->Prop} {w w':World} (h:Fr M w w') (hM:∀ b,¬ M b):Below w.heap.size w w':=⟨h.os,h.tape,h.output,h.size,fun k hk=>h.block k hk (hM k)⟩
theorem post_of_law {f:Func} {s:ChangeSpec} {apart fresh handsOn again:Bool} {args:Array Value} {ds gs:List (DataW H)} {before:List MemPlace} {tB:TypeId}
    (hl:laidOutB P=true) (hm:mapsRowed P=true) (hz:∀ t e,t<P.types.size->P.underlying t=some (.slice e)->0<P.cellsOf e)
    (hts:∀ t∈f.params.toList,t<P.types.size) (hr:f.resultTypes=#[tB]) (hB:P.underlying tB=some .bool) (hv:s.vars=[])
    (hres:(s.fn H (ds++gs)).results=[.lit (.bool true)]) (hargs:(s.fn H (ds++gs)).args=ds) (hvars:(s.fn H (ds++gs)).vars=[])
    (hW:DataW.Whole enc P f.params.toList s.vars apart W args.toList ds gs before) (hb:Below W.heap.size W W') :
    s.post enc P f apart fresh handsOn again W args (.bool true) W':=by
  have hW':=hW
  obtain ⟨p,q,hA,hV,rfl,hfz,hnd⟩:=hW
  rw [hv] at hV
  obtain ⟨rfl,rfl⟩:=trodVars_none hV
  have hlt:∀ x∈p++([]:List MemPlace),x.block<W.heap.size:=fun x hx=>hW'.lt x hx
  have h1:∀ (b:Nat) (sp:Nat->Bool) (hd:Bool),DataW.TrodAll enc P W' b sp hd f.resultTypes.toList ((Value.bool true).resultList f.resultTypes.size) (s.fn H (ds++[])).results []:=by
    intro b sp hd
    rw [hr,hres]
    exact trodAll_mk1 (shut_bool hB true)
  have h2:∀ sp:Nat->Bool,(∀ x∈p++([]:List MemPlace),sp x.block=true)->DataW.TrodAll enc P W' 0 sp true f.params.toList args.toList (s.fn H (ds++[])).args p:=by
    intro sp hs
    rw [hargs]
    exact trodAll_stays (T:=(·<P.types.size)) (kids_rows hl hm) hz hts hA (fun x hx=>hb.same (hlt x (List.mem_append_left _ hx))) (fun x hx=>hs x (List.mem_append_left _ hx))
  have h3:∀ sp:Nat->Bool,DataW.TrodVars enc P W' sp s.vars (s.fn H (ds++[])).vars []:=by
    intro sp
    rw [hv,hvars]
    rfl
  have hold:∀ x∈p++([]:List MemPlace),(fun b=>decide (b<W.heap.size)) x.block=true:=fun x hx=>by simpa using hlt x hx
  refine ⟨ds,[],_,[],p,[],hW',h1 _ _ _,h2 _ hold,h3 _,hb.frame _,fun _=>⟨ok_one hr rfl (okWide_bool_mk hB _),_,_,([]++p)++[],⟨[]++p,[],trodAll_append (h2 _ (fun _ _=>rfl)) (h1 _ _ _),h3 _,rfl,?_,?_⟩,?_⟩⟩
  · intro b off hp
    have hp':MemPlace.cell b off∈p++([]:List MemPlace):=by simpa using hp
    rw [hb.frozen (p:=⟨b,off,none⟩) (hlt _ hp')]
    exact hfz b off hp'
  · intro ha
    have:=hnd ha
    simpa using this
  · intro x hp _
    simpa using hp
theorem okWide_agg {tV tL tM tE tD tS tI tB:TypeId} (T:VT P tV tL tM tE tD tS tI tB) {r:Reach} {base:Nat} {v:Value} (h:Value.okWide P W r base tV v):∃ cs:Array Value,v=.agg cs/\cs.size=P.cellsOf tV:=by
  obtain ⟨fs,hu,_⟩:=T.v
  unfold Value.okWide at h
  rw [hu] at h
  obtain ⟨cs,h1,h2,_⟩:=h
  exact ⟨cs,h1,h2⟩
theorem okWide_str {t:TypeId} (T:∃ fs,P.underlying t=some (.struct fs)) {r:Reach} {base:Nat} {v:Value} (h:Value.okWide P W r base t v):∃ (fs:Array Field) (_:P.underlying t=some (.struct fs)) (cs:Array Value),v=.agg cs/\cs.size=P.cellsOf t:=by
  obtain ⟨fs,hu⟩:=T
  unfold Value.okWide at h
  rw [hu] at h
  obtain ⟨cs,h1,h2,_⟩:=h
  exact ⟨fs,hu,cs,h1,h2⟩
theorem weights_le {ts:List TypeId} {ds:List (DataW H)} (h:(DataW.weightsEach P ts ds).all (·<=reachBytes)=true) {j:Nat} {t:TypeId} {d:DataW H} (ht:ts[j]?=some t) (hd:ds[j]?=some d):∀ k∈d.weights P t,k<=reachBytes:=by
  intro k hk
  have:=List.all_eq_true.1 h k (DataW.weights_mem_each ht hd k hk)
  simpa using this
end
end Go.Sy
/- Closed facts of the program that every row's closing asks. -/
namespace Go.Proofs.YtlonlnagmfdlbaaGreatDoor.Row
open Go Go.Proofs Go.Sy Go.ChangeShapes Go.WideShapes Go.ChangeAt Go.RowKit
set_option maxRecDepth 100000
theorem own:ownKnob Tryz.prog.godebug=none:=by kernel_rfl
theorem laidOut:laidOutB Tryz.prog=true:=by kernel_rfl
theorem rowed:mapsRowed Tryz.prog=true:=by kernel_rfl
theorem full:∀ t e,t<Tryz.prog.types.size->Tryz.prog.underlying t=some (.slice e)->0<Tryz.prog.cellsOf e:=slices_full_of Tryz.prog (by kernel_rfl)
theorem vt:VT Tryz.prog 28 25 26 184 24 9 3 4 where
  v:=⟨_,Tryz.underlying28,rfl⟩
  l:=by kernel_rfl
  m:=by kernel_rfl
  e:=⟨_,Tryz.underlying184,rfl⟩
  d:=⟨_,Tryz.underlying24,rfl⟩
  s:=by kernel_rfl
  i:=by kernel_rfl
  b:=by kernel_rfl
  cV:=by kernel_rfl
  cE:=by kernel_rfl
  cD:=by kernel_rfl
  cS:=by kernel_rfl
  cI:=by kernel_rfl
  cB:=by kernel_rfl
  cL:=by kernel_rfl
  cM:=by kernel_rfl
  bV:=of_decide_eq_true (by kernel_rfl)
  bE:=of_decide_eq_true (by kernel_rfl)
end Go.Proofs.YtlonlnagmfdlbaaGreatDoor.Row
/- The library's variable holds a whole number. -/
namespace Go.Proofs.YtlonlnagmfdlbaaGreatDoor.Row
open Go Go.Proofs Go.Sy Go.ChangeShapes Go.WideShapes Go.ChangeAt Go.RowKit
set_option maxRecDepth 100000
theorem farLen (w:World) (h:w.ShapedOpen Tryz.prog):∃ m,w.cell? ⟨0,0,none⟩=some (.int .i64 m):=Go.Proofs.cell_of_shapedOpen_int (zero:=#[.int .i64 0]) (t:=3) h (of_decide_eq_true (by kernel_rfl)) (by kernel_rfl) rfl (by kernel_rfl) (by kernel_rfl) Tryz.underlying3
end Go.Proofs.YtlonlnagmfdlbaaGreatDoor.Row
/- More of what rows hand in: lists of values. No program in sight. -/
namespace Go.Sy
open Go.ChangeShapes Go.RowKit
section
variable {H:Type} {enc:TypeId×Value->H} {P:Program} {w:World} {sp:Nat->Bool} {held:Bool} {tV tL tM tE tD tS tI tB:TypeId}
theorem open_valL (T:VT P tV tL tM tE tD tS tI tB) {n:Nat} {c:Value} {x:DataW H×List MemPlace} (h:DataW.trod enc P w 0 sp held n tL [c]=some x) (hw:∀ k∈x.1.weights P tL,k<=reachBytes) :
    ∃ (ao:Option Addr) (cap:Nat) (gs:List GVal) (rows:List (List AT)),c=.slice ao gs.length cap/\SlAt (snapOf w) ao gs.length cap 8 rows/\gs.length<=140737488355328/\RepL (snapOf w) gs rows:=by
  obtain ⟨la,ll,lc,ml,rfl,hml,hll,hlr,hle⟩:=open_sl T.l T.cV T.bV h hw
  have HL:∀ i,∃ gr:GVal×List AT,i<ll->RepV (snapOf w) gr.1 gr.2/\∀ a,la=some a->∀ j v,(gr.2.map (AT.den β0))[j]?=some v->w.cell? (a.add (i*8+j))=some v:=by
    intro i
    by_cases hi:i<ll
    · rcases hle with h0 | ⟨a,rfl,hle⟩
      · omega
      · obtain ⟨cs,y,_,q2,q3,q4⟩:=hle i hi
        obtain ⟨g,r,rfl,hr⟩:=open_val T ml cs y q3 fun k hk=>hw k (q4 k hk)
        exact ⟨(g,r),fun _=>⟨hr,fun a' ha=>by injection ha with ha;subst ha;exact q2⟩⟩
    · exact ⟨(.mk 0 false ⟨false,⟨#[]⟩,0⟩ ⟨#[]⟩ [] [] [],[]),fun h=>absurd h hi⟩
  obtain ⟨FL,HL⟩:=Classical.axiomOfChoice HL
  refine ⟨la,lc,(List.range ll).map fun i=>(FL i).1,(List.range ll).map fun i=>(FL i).2,by simp,?_,?_,RepL.range _ fun i hi=>(HL i (List.mem_range.1 hi)).1⟩
  · simp only [List.length_map,List.length_range]
    refine slAt_range hll (fun i hi=>⟨(HL i hi).1.len,(HL i hi).1.clo⟩) ?_
    rcases hle with h0 | ⟨a,rfl,_⟩
    · exact .inl h0
    · exact .inr ⟨a,rfl,fun i hi=>(HL i hi).2 a rfl⟩
  · simp only [List.length_map,List.length_range]
    simp only [reachBytes] at hlr
    omega
end
end Go.Sy
