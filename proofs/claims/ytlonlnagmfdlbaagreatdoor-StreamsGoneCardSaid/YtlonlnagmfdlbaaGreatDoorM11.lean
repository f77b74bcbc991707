/- Parts of the proof of CStreamsGone: S2, S3, S4, S7, SyYa, S8, Sg. No conditions. -/
import Derived.Test.YtlonlnagmfdlbaaGreatDoorM10
namespace Go.Sy
open Go.Proofs
set_option maxRecDepth 100000 in
set_option maxHeartbeats 4000000 in
theorem on_f (σ:Snap) (X:GIx) (IX:IxAt σ X) (hl:X.ds.length<=1000) (hd:∀ d∈X.ds,d.ids.length=d.L.length/\d.L.length<=100000) (f:FuncId) (caps:List PT) (hcap:LtAll (caps.map ptSV))
    (hcall:∀ args w,(callFunc f args).run Tryz.prog w=.ok (.enter f args) w) (hlt:(SV.a (.fn (.func f) caps)).lt 0) (q:Int->Bool) (hq:∀ k:Int,PlainS Tryz.prog f (.a (.v (.int .i64 k))::caps.map ptSV) σ (fun v=>v=.bool (q k))) :
    FnS Tryz.prog 83 [.agg (ixCells X),.a (.fn (.func f) caps)] σ [] (fun v _ A'=>∃ oo oc,v=.slice oo (onG q X.ds).length oc/\(onG q X.ds).length<=oc/\A'=[itE oo oc (onG q X.ds)]):=by
  have hlt1:=SV.lt_mono (Nat.zero_le 1) hlt
  have hlt3:=SV.lt_mono (Nat.zero_le 3) hlt
  refine enter_f Tryz.func83 rfl rfl ⟨ixCells_lt 0 X,hlt,trivial⟩ fun w=>?_
  (repeat (first | refine cj_seq ?_ | refine cjr TT rfl ?_ | refine oj_then ?_))
  refine oj_mm rfl rfl rfl rfl rfl rfl rfl (oj_run TT rfl ?_)
  refine oj_slice_to TT X.ds.length rfl rfl rfl rfl rfl rfl rfl rfl rfl (by show (if (X.ds.length:Int)<X.ds.length then _ else _)=_;split<;>rfl) IX.docs.ncap IX.docs.ncap (oj_run TT rfl ?_)
  refine oj_then ?_
  refine cj_nilarr 71 5 ?_
  (repeat refine cj_block ?_)
  refine cj_loop (fun (_:OnS)=>σ) (fun t=>[(1,.a (.fn (.func f) caps)),(2,.a (.p 0 0)),(5,.a (.v (.slice t.oo t.o.length t.oc))),(19,.a (.v (.slice X.o X.ds.length X.c))),(20,.a (.v (.int .i64 X.ds.length))),(21,.a (.v (.int .i64 (t.k:Nat))))])
    (fun _=>[(0,.loc 60,ixCells X)]) (fun t=>[itE t.oo t.oc t.o]) 1 (fun t=>t.k<=X.ds.length/\t.o=onG q (X.ds.take t.k)/\t.o.length<=t.oc/\t.o.length<=t.k*100000) (fun t=>X.ds.length - t.k) ⟨0,[],none,0⟩
    ⟨Nat.zero_le _,rfl,Nat.le_refl _,Nat.zero_le _⟩ rfl (by (repeat first | exact trivial | refine ⟨rfl,?_⟩)) (by (repeat first | exact trivial | refine ⟨rfl,?_⟩)) rfl ⟨hlt1,Nat.zero_lt_one,trivial,trivial,trivial,trivial,trivial⟩ (by exact ⟨⟨Nat.zero_lt_one,ixCells_lt 1 X⟩,trivial⟩) fun ⟨k,o,oo,oc⟩ ⟨hk,ho,hoc,hol⟩=>?_
  dsimp only at hk ho hoc hol ⊢
  (repeat (first | refine cj_seq ?_ | refine cjr TT rfl ?_ | refine oj_then ?_))
  refine cj_if rfl (fun h=>?_) (fun h=>?_)
  rotate_left
  · have hk0:k=X.ds.length:=by have:=of_decide_eq_false h;omega
    rw [hk0,List.take_length] at ho
    subst ho
    (repeat (first | refine cj_seq ?_ | refine cjr TT rfl ?_ | refine oj_then ?_ | refine cj_exit ?_ | refine cj_ret ?_ | refine nj_then ?_ | refine nj_then_exit ?_ | refine nj_block_out ?_))
    refine nj_fret TT rfl fun β w' _ _=>?_
    exact ⟨oo,oc,rfl,hoc,rfl⟩
  have hkl:k<X.ds.length:=by have:=of_decide_eq_true h;omega
  have hdk:=List.getElem?_eq_getElem hkl
  have hrow:=doRows_get hdk
  have hrow2:=liRows_get hdk
  have hdm:=hd X.ds[k] (List.getElem_mem hkl)
  have hdd:=IX.doc X.ds[k] (List.getElem_mem hkl)
  have hnext:=onG_succ (q:=q) hdk
  rw [<-ho] at hnext
  generalize X.ds[k]=d at *
  obtain ⟨hdi,hdl⟩:=hdm
  (repeat (first | refine cj_seq ?_ | refine cjr TT rfl ?_ | refine cj_skip ?_ | refine cj_block ?_ | refine nj_then ?_))
  refine oj_idx TT rfl rfl rfl rfl rfl rfl rfl rfl rfl IX.docs (by omega) hrow (oj_run TT rfl ?_)
  (repeat (first | refine cj_seq ?_ | refine cjr TT rfl ?_ | refine oj_then ?_))
  refine oj_idx TT rfl rfl rfl rfl rfl rfl rfl rfl rfl IX.lines (by omega) hrow2 (oj_run TT rfl ?_)
  (repeat (first | refine oj_then ?_ | refine cj_block ?_))
  refine cj_loop (fun (_:OnS)=>σ) (fun t=>[(1,.a (.fn (.func f) caps)),(2,.a (.p 0 0)),(5,.a (.v (.slice t.oo t.o.length t.oc))),(7,.a (.p 2 0)),(19,.a (.v (.slice X.o X.ds.length X.c))),(20,.a (.v (.int .i64 X.ds.length))),(21,.a (.v (.int .i64 k))),(30,.a (.v (.slice d.lo d.ids.length d.lcap))),(31,.a (.v (.int .i64 d.ids.length))),(32,.a (.v (.int .i64 (t.k:Nat))))])
    (fun _=>[(0,.loc 60,ixCells X),(2,.loc 90,doCells d)]) (fun t=>[itE t.oo t.oc t.o]) 3 (fun t=>t.k<=d.ids.length/\t.o=o++onP q d t.k/\t.o.length<=t.oc) (fun t=>d.ids.length - t.k) ⟨0,o,oo,oc⟩
    ⟨Nat.zero_le _,(List.append_nil o).symm,hoc⟩ rfl (by (repeat first | exact trivial | refine ⟨rfl,?_⟩)) (by (repeat first | exact trivial | refine ⟨rfl,?_⟩)) rfl ⟨hlt3,by show 0<3;omega,trivial,by show 2<3;omega,trivial,trivial,trivial,trivial,trivial,trivial,trivial⟩ (by exact ⟨⟨by omega,ixCells_lt 3 X⟩,⟨by omega,doCells_lt 3 d⟩,trivial⟩) fun ⟨j,o1,oo,oc⟩ ⟨hj,ho1,hoc⟩=>?_
  dsimp only at hj ho1 hoc ⊢
  have hpl:=onP_len q d j
  have hlen1:o1.length=o.length+(onP q d j).length:=by rw [ho1,List.length_append]
  (repeat (first | refine cj_seq ?_ | refine cjr TT rfl ?_ | refine oj_then ?_))
  refine cj_if rfl (fun h=>?_) (fun h=>?_)
  rotate_left
  · have hj0:j=d.ids.length:=by have:=of_decide_eq_false h;omega
    subst hj0
    rw [onP_all q d hdi] at ho1
    (repeat (first | refine cjr TT rfl ?_ | refine oj_nil ?_ | refine cj_exit ?_ | refine nj_then ?_ | refine nj_then_exit ?_ | refine nj_block ?_ | refine nj_block_out ?_ | (refine oj_add rfl rfl rfl rfl rfl rfl (by omega) ?_;refine oj_run TT rfl ?_)))
    refine nj_again (⟨k+1,o1,oo,oc⟩:OnS) ⟨hkl,by dsimp only;rw [hnext,ho1],hoc,by dsimp only;rw [Nat.succ_mul];omega⟩ (by dsimp only;omega) rfl (by (repeat first | exact trivial | refine ⟨rfl,?_⟩)) (by (repeat first | exact trivial | refine ⟨rfl,?_⟩)) rfl ⟨hlt1,Nat.zero_lt_one,trivial,trivial,trivial,trivial,trivial⟩ (by exact ⟨⟨Nat.zero_lt_one,ixCells_lt 1 X⟩,trivial⟩)
  have hjl:j<d.ids.length:=by have:=of_decide_eq_true h;omega
  have hkj:=List.getElem?_eq_getElem hjl
  have hrj:d.L[j]?=some (d.L[j]'(by omega)):=List.getElem?_eq_getElem (by omega)
  have hrow3:=idRows_get hkj
  have hit:=item_c σ d hdd.1 j _ hrj
  have hsucc:=onP_succ (q:=q) hkj hrj
  generalize d.ids[j]=x at *
  generalize d.L[j]'(by omega)=r at *
  (repeat (first | refine cj_seq ?_ | refine cjr TT rfl ?_ | refine cj_skip ?_ | refine cj_block ?_ | refine nj_then ?_))
  refine oj_idx TT rfl rfl rfl rfl rfl rfl rfl rfl rfl hdd.2 (by omega) hrow3 (oj_run TT rfl ?_)
  (repeat (first | refine cj_seq ?_ | refine cjr TT rfl ?_ | refine oj_then ?_))
  refine oj_split 42 rfl (fun _=>?_) (fun h=>absurd (of_decide_eq_false (show decide ((j:Int)<d.L.length)=false from h)) (by omega))
  refine oj_run TT rfl ?_
  refine oj_callP (ys:=.a (.v (.int .i64 x))::caps.map ptSV) rfl rfl rfl rfl rfl hcall ⟨trivial,hcap⟩ (hq x) fun v hv=>⟨.a (.b (q x)),trivial,hv.symm,?_⟩
  refine oj_run TT rfl ?_
  (repeat refine oj_then ?_)
  refine cj_if rfl (fun h=>?_) (fun h=>?_)
  · have h:q x=true:=h
    rw [h,if_pos rfl] at hsucc
    (repeat refine cjr TT rfl ?_)
    refine oj_set 48 (.agg (doCells d)) rfl (doCells_lt _ _) (fun _=>rfl) ?_
    refine oj_callP (ys:=[.agg (doCells d),.a (.v (.int .i64 j))]) rfl rfl rfl rfl rfl Tryz.call103 ⟨doCells_lt 0 d,trivial,trivial⟩ hit fun v hv=>⟨.agg (itCells (itemOf d.id r j)),itCells_lt _ _,hv.symm,?_⟩
    refine oj_run TT rfl ?_
    refine oj_append_lit TT 0 rfl rfl rfl rfl rfl rfl rfl rfl rfl rfl rfl rfl rfl rfl rfl rfl rfl rfl (itCells_lt 0 _) rfl (by omega) (by show (o1.length+1)*40<=_;omega) fun oo' oc' hoc'=>oj_run TT rfl ?_
    (repeat (first | refine cjr TT rfl ?_ | refine oj_nil ?_ | refine nj_then ?_ | refine nj_block ?_ | (refine oj_add rfl rfl rfl rfl rfl rfl (by omega) ?_;refine oj_run TT rfl ?_)))
    have hl1:(o1++[itemOf d.id r j]).length=o1.length+1:=by simp
    refine nj_again (⟨j+1,o1++[itemOf d.id r j],oo',oc'⟩:OnS) ⟨hjl,by dsimp only;rw [hsucc,ho1,List.append_assoc],by dsimp only;omega⟩ (by dsimp only;omega) rfl ?_ (by (repeat first | exact trivial | refine ⟨rfl,?_⟩)) ?_ ⟨hlt3,by show 0<3;omega,trivial,by show 2<3;omega,trivial,trivial,trivial,trivial,trivial,trivial,trivial⟩ (by exact ⟨⟨by omega,ixCells_lt 3 X⟩,⟨by omega,doCells_lt 3 d⟩,trivial⟩)
    · dsimp only
      rw [hl1]
      (repeat first | exact trivial | refine ⟨rfl,?_⟩)
    · show [_]=[_]
      dsimp only
      unfold itE
      rw [hl1,<-itXs_push]
      rfl
  · have h:q x=false:=h
    rw [h,if_neg (by decide),List.append_nil] at hsucc
    (repeat (first | refine cjr TT rfl ?_ | refine oj_nil ?_ | refine cj_skip ?_ | refine nj_then ?_ | refine nj_block ?_ | (refine oj_add rfl rfl rfl rfl rfl rfl (by omega) ?_;refine oj_run TT rfl ?_)))
    refine nj_again (⟨j+1,o1,oo,oc⟩:OnS) ⟨hjl,by dsimp only;rw [hsucc];exact ho1,hoc⟩ (by dsimp only;omega) rfl (by (repeat first | exact trivial | refine ⟨rfl,?_⟩)) (by (repeat first | exact trivial | refine ⟨rfl,?_⟩)) rfl ⟨hlt3,by show 0<3;omega,trivial,by show 2<3;omega,trivial,trivial,trivial,trivial,trivial,trivial,trivial⟩ (by exact ⟨⟨by omega,ixCells_lt 3 X⟩,⟨by omega,doCells_lt 3 d⟩,trivial⟩)
set_option maxRecDepth 100000 in
set_option maxHeartbeats 1000000 in
theorem Of1_c (σ:Snap) (g:Nat) (line:Int) (hg:σ.cell ⟨g,0,none⟩=some (.int .i64 line)) (k:Int) :
    PlainS Tryz.prog 165 [.a (.v (.int .i64 k)),.a (.v (.pointer (some ⟨g,0,none⟩)))] σ (fun v=>v=.bool (decide (k=line))):=by
  refine enter_p Tryz.func165 rfl rfl (by (repeat' (first | exact trivial | constructor))) fun w=>?_
  (repeat (first | refine cj_seq ?_ | refine cjr TT rfl ?_ | refine oj_then ?_))
  refine oj_ldS (c:=.v (.int .i64 line)) TT rfl rfl rfl rfl rfl rfl rfl rfl hg trivial (oj_run TT rfl ?_)
  (repeat (first | refine oj_then ?_ | refine cj_ret ?_))
  refine nj_ret TT rfl fun β w' _ _=>?_
  rfl
set_option maxRecDepth 100000 in
set_option maxHeartbeats 2000000 in
theorem Of_f (σ:Snap) (X:GIx) (IX:IxAt σ X) (hl:X.ds.length<=1000) (hd:∀ d∈X.ds,d.ids.length=d.L.length/\d.L.length<=100000) (line:Int) :
    FnS Tryz.prog 100 [.agg (ixCells X),.a (.v (.int .i64 line))] σ [] (fun v _ A'=>∃ oo oc,v=.slice oo (onG (fun k=>decide (k=line)) X.ds).length oc/\(onG (fun k=>decide (k=line)) X.ds).length<=oc/\A'=[itE oo oc (onG (fun k=>decide (k=line)) X.ds)]):=by
  refine enter_f Tryz.func100 rfl rfl ⟨ixCells_lt 0 X,trivial,trivial⟩ fun w=>?_
  (repeat (first | refine cj_seq ?_ | refine cjr TT rfl ?_ | refine oj_then ?_))
  refine oj_own 1 1 1 rfl (by (repeat' (first | exact trivial | refine AllLt.of ?_ | constructor))) rfl (by decide) fun g=>?_
  refine oj_seal 0 rfl rfl rfl fun s1 hle1 hS=>?_
  have hg:=cell1_of hS
  have IX:=IX.mono hle1
  refine oj_set 5 (.agg (ixCells X)) rfl (ixCells_lt _ _) (fun _=>rfl) ?_
  refine oj_callF [] (A0:=[]) (Ar:=[]) (ys:=[.agg (ixCells X),.a (.fn (.func 165) [.val (.pointer (some ⟨g,0,none⟩))])]) rfl rfl rfl rfl rfl rfl rfl Tryz.call83 ⟨ixCells_lt 0 X,fnLt1 165 g,trivial⟩ (on_f s1 X IX hl hd 165 [.val (.pointer (some ⟨g,0,none⟩))] ⟨trivial,trivial⟩ Tryz.call165 (fnLt1 165 g) (fun k=>decide (k=line)) fun k=>Of1_c s1 g line hg k) fun v s2 A' hle2 ⟨oo,oc,hv,hoc,hA⟩=>⟨.a (.v (.slice oo (onG (fun k=>decide (k=line)) X.ds).length oc)),trivial,hv.symm,?_⟩
  subst hA
  refine oj_run TT rfl ?_
  (repeat (first | refine oj_then ?_ | refine cj_ret ?_))
  refine nj_fret TT rfl fun β w' _ _=>?_
  exact ⟨oo,oc,rfl,hoc,rfl⟩
def FirstAt (q:GItem->Bool) (l:List GItem) (i:Int):Prop:=(i = -1/\∀ y∈l,q y=false)\/∃ (n:Nat) (x:GItem),i=n/\l[n]?=some x/\q x=true/\∀ y∈l.take n,q y=false
set_option maxRecDepth 100000 in
set_option maxHeartbeats 1000000 in
theorem IndexFuncIt_c (σ:Snap) (S:List GItem) (hl:S.length<=100000000) (so:Option Addr) (sc:Nat) (H:SlAt σ so S.length sc 5 (itRows S)) (f:FuncId) (caps:List PT) (hcap:LtAll (caps.map ptSV))
    (hcall:∀ args w,(callFunc f args).run Tryz.prog w=.ok (.enter f args) w) (hlt:(SV.a (.fn (.func f) caps)).lt 0) (q:GItem->Bool) (hq:∀ z∈S,PlainS Tryz.prog f (.agg (itCells z)::caps.map ptSV) σ (fun v=>v=.bool (q z))) :
    PlainS Tryz.prog 183 [.a (.v (.slice so S.length sc)),.a (.fn (.func f) caps)] σ (fun v=>∃ i:Int,v=.int .i64 i/\FirstAt q S i):=by
  refine enter_p Tryz.func183 rfl rfl ⟨trivial,hlt,trivial⟩ fun w=>?_
  (repeat (first | refine cj_seq ?_ | refine cjr TT rfl ?_ | refine oj_then ?_ | refine cj_block ?_))
  refine cj_loop (fun (_:Nat)=>σ) (fun k=>[(0,.a (.v (.slice so S.length sc))),(1,.a (.fn (.func f) caps)),(7,.a (.v (.int .i64 S.length))),(8,.a (.v (.int .i64 k)))]) (fun _=>[]) (fun _=>[]) 0 (fun k=>k<=S.length/\∀ y∈S.take k,q y=false) (fun k=>S.length - k) 0 ⟨Nat.zero_le _,fun y hy=>(by cases hy)⟩ rfl (by (repeat first | exact trivial | refine ⟨rfl,?_⟩)) (by (repeat first | exact trivial | refine ⟨rfl,?_⟩)) rfl ⟨trivial,hlt,trivial,trivial,trivial⟩ trivial fun k ⟨hk,hp⟩=>?_
  (repeat (first | refine cj_seq ?_ | refine cjr TT rfl ?_ | refine oj_then ?_))
  refine cj_if rfl (fun h=>?_) (fun h=>?_)
  rotate_left
  · have hk0:k=S.length:=by have:=of_decide_eq_false h;omega
    rw [hk0,List.take_length] at hp
    (repeat (first | refine cj_seq ?_ | refine cjr TT rfl ?_ | refine oj_then ?_ | refine cj_exit ?_ | refine cj_ret ?_ | refine nj_then ?_ | refine nj_then_exit ?_ | refine nj_block_out ?_))
    refine nj_ret TT rfl fun β w' _ _=>?_
    exact ⟨-1,rfl,.inl ⟨rfl,hp⟩⟩
  have hkl:k<S.length:=by have:=of_decide_eq_true h;omega
  have hx:=List.getElem?_eq_getElem hkl
  have hrow:=itRows_get hx
  have hqz:=hq S[k] (List.getElem_mem hkl)
  have htk:S.take (k+1)=S.take k++[S[k]]:=List.take_succ_eq_append_getElem hkl
  generalize S[k]=z at *
  (repeat (first | refine cj_seq ?_ | refine cjr TT rfl ?_ | refine oj_then ?_ | refine cj_skip ?_ | refine cj_block ?_ | refine nj_then ?_))
  refine oj_idx TT rfl rfl rfl rfl rfl rfl rfl rfl rfl H (by omega) hrow (oj_run TT rfl ?_)
  refine oj_callP (ys:=.agg (itCells z)::caps.map ptSV) rfl rfl rfl rfl rfl hcall ⟨itCells_lt 0 z,hcap⟩ hqz fun v hv=>⟨.a (.b (q z)),trivial,hv.symm,?_⟩
  refine oj_run TT rfl ?_
  (repeat refine oj_then ?_)
  refine cj_if rfl (fun h=>?_) (fun h=>?_)
  · have h:q z=true:=h
    (repeat (first | refine cj_seq ?_ | refine cjr TT rfl ?_ | refine oj_then ?_ | refine cj_ret ?_ | refine nj_then_ret ?_ | refine nj_block_ret ?_))
    refine nj_ret TT rfl fun β w' _ _=>?_
    exact ⟨(k:Int),rfl,.inr ⟨k,z,rfl,hx,h,hp⟩⟩
  · have h:q z=false:=h
    (repeat (first | refine cjr TT rfl ?_ | refine oj_nil ?_ | refine cj_skip ?_ | refine nj_then ?_ | refine nj_block ?_ | (refine oj_add rfl rfl rfl rfl rfl rfl (by omega) ?_;refine oj_run TT rfl ?_)))
    refine nj_again (k+1) ⟨hkl,fun y hy=>?_⟩ (by omega) rfl (by (repeat first | exact trivial | refine ⟨rfl,?_⟩)) (by (repeat first | exact trivial | refine ⟨rfl,?_⟩)) rfl ⟨trivial,hlt,trivial,trivial,trivial⟩ trivial
    rw [htk] at hy
    rcases List.mem_append.1 hy with hy | hy
    · exact hp y hy
    · rw [List.mem_singleton] at hy
      rw [hy]
      exact h
theorem itXs_cons (x:GItem) (l:List GItem):itXs (x::l)=(itCells x).map AT.val++itXs l:=by simp [itXs,itRows]
theorem itXs_set:∀ {l:List GItem} {i:Nat} (x:GItem),i<l.length->(itXs l).take (i*5)++(itCells x).map AT.val++(itXs l).drop (i*5+5)=itXs (l.set i x)
  | [],_,_,h=>by simp at h
  | y::l,0,x,_=>by
    rw [List.set_cons_zero,itXs_cons,itXs_cons]
    rfl
  | y::l,i+1,x,h=>by
    have ih:=itXs_set (l:=l) (i:=i) x (by simpa using h)
    rw [List.set_cons_succ,itXs_cons,itXs_cons,<-ih]
    have e1:(i+1)*5=(List.map AT.val (itCells y)).length+i*5:=by simp [itCells];omega
    rw [e1,Nat.add_assoc,List.take_length_add_append,List.drop_length_add_append]
    simp only [List.append_assoc]
structure DfAt (p:GItem->Bool) (l cur:List GItem) (i j:Nat):Prop where
  ij:i<j
  jl:j<=l.length
  len:cur.length=l.length
  kept:cur.take i=(l.take j).filter p
  rest:cur.drop j=l.drop j
theorem DfAt.start {q:GItem->Bool} {l:List GItem} {n:Nat} {x:GItem} (hx:l[n]?=some x) (hq:q x=true) (h:∀ y∈l.take n,q y=false):DfAt (fun x=>!q x) l l n (n+1):=by
  obtain ⟨hn,he⟩:=List.getElem?_eq_some_iff.1 hx
  refine ⟨Nat.lt_succ_self n,hn,rfl,?_,rfl⟩
  rw [List.take_succ_eq_append_getElem hn,he,List.filter_append,List.filter_eq_self.2 (fun y hy=>by simp [h y hy])]
  simp [hq]
theorem DfAt.get {p:GItem->Bool} {l cur:List GItem} {i j:Nat} {x:GItem} (h:DfAt p l cur i j) (hx:l[j]?=some x):cur[j]?=some x:=by
  have:=congrArg (·[0]?) h.rest
  simpa [List.getElem?_drop,hx] using this
theorem DfAt.skip {p:GItem->Bool} {l cur:List GItem} {i j:Nat} {x:GItem} (h:DfAt p l cur i j) (hx:l[j]?=some x) (hp:p x=false):DfAt p l cur i (j+1):=by
  obtain ⟨hj,he⟩:=List.getElem?_eq_some_iff.1 hx
  refine ⟨by have:=h.ij;omega,hj,h.len,?_,?_⟩
  · rw [h.kept,List.take_succ_eq_append_getElem hj,he,List.filter_append]
    simp [hp]
  · have:=congrArg List.tail h.rest
    rwa [List.tail_drop,List.tail_drop] at this
theorem DfAt.keep {p:GItem->Bool} {l cur:List GItem} {i j:Nat} {x:GItem} (h:DfAt p l cur i j) (hx:l[j]?=some x) (hp:p x=true):DfAt p l (cur.set i x) (i+1) (j+1):=by
  obtain ⟨hj,he⟩:=List.getElem?_eq_some_iff.1 hx
  have hij:=h.ij
  have hl:=h.len
  refine ⟨by omega,hj,by rw [List.length_set,hl],?_,?_⟩
  · have hi:i<(cur.set i x).length:=by rw [List.length_set];omega
    rw [List.take_succ_eq_append_getElem hi,List.getElem_set_self,List.take_set_of_le (Nat.le_refl i),h.kept,List.take_succ_eq_append_getElem hj,he,List.filter_append]
    simp [hp]
  · rw [List.drop_set_of_lt (by omega)]
    have:=congrArg List.tail h.rest
    rwa [List.tail_drop,List.tail_drop] at this
structure DfS where
  i:Nat
  j:Nat
  cur:List GItem
set_option maxRecDepth 100000 in
set_option maxHeartbeats 4000000 in
theorem DeleteFunc_c (σ:Snap) (l:List GItem) (hl:l.length<=100000000) (so:Option Addr) (sc:Nat) (hsc:l.length<=sc) (f:FuncId) (caps:List PT) (hcap:LtAll (caps.map ptSV))
    (hcall:∀ args w,(callFunc f args).run Tryz.prog w=.ok (.enter f args) w) (hlt:(SV.a (.fn (.func f) caps)).lt 0) (q:GItem->Bool) (hq:∀ s,σ.le s->∀ z,PlainS Tryz.prog f (.agg (itCells z)::caps.map ptSV) s (fun v=>v=.bool (q z))) :
    FnS Tryz.prog 118 [.a (.v (.slice so l.length sc)),.a (.fn (.func f) caps)] σ [itE so sc l] (fun v _ A'=>∃ to tc,v=.slice to (l.filter fun x=>!q x).length tc/\(l.filter fun x=>!q x).length<=tc/\A'=[itE to tc (l.filter fun x=>!q x)]):=by
  refine enter_f Tryz.func118 rfl rfl ⟨trivial,hlt,trivial⟩ fun w=>?_
  (repeat (first | refine cj_seq ?_ | refine cjr TT rfl ?_ | refine oj_then ?_))
  refine oj_peekP rfl rfl rfl rfl rfl Tryz.call183 ⟨trivial,hlt,trivial⟩ (fun σ' hle hA=>IndexFuncIt_c σ' l hl so sc (it_sealed (hA 0 _ rfl) hsc) f caps hcap hcall hlt q fun z _=>hq σ' hle z) fun v ⟨r,hv,hr⟩=>⟨.a (.v (.int .i64 r)),trivial,hv.symm,?_⟩
  refine oj_run TT rfl ?_
  (repeat (first | refine cj_seq ?_ | refine cjr TT rfl ?_ | refine oj_then ?_))
  refine cj_if rfl (fun h=>?_) (fun h=>?_)
  · have h:r = -1:=of_decide_eq_true h
    have hall:∀ y∈l,q y=false:=by
      rcases hr with ⟨-,h2⟩ | ⟨n,x,h2,-⟩
      · exact h2
      · omega
    rw [List.filter_eq_self.2 (fun y hy=>by simp [hall y hy])]
    (repeat (first | refine cj_seq ?_ | refine cjr TT rfl ?_ | refine oj_then ?_ | refine cj_ret ?_ | refine nj_then_ret ?_))
    refine nj_fret TT rfl fun β w' _ _=>?_
    exact ⟨so,sc,rfl,hsc,rfl⟩
  have h:¬ r = -1:=of_decide_eq_false h
  obtain ⟨n,x,rfl,hx,hqx,hn⟩:∃ (n:Nat) (x:GItem),r=n/\l[n]?=some x/\q x=true/\∀ y∈l.take n,q y=false:=by
    rcases hr with ⟨h2,-⟩ | h2
    · exact absurd h2 h
    · exact h2
  have D0:=DfAt.start hx hqx hn
  have hnl:=(List.getElem?_eq_some_iff.1 hx).1
  refine cj_arrAt 0 (E:=itE so sc l) rfl (show 0<l.length by omega) fun gb hgb=>?_
  have hgb:so=some ⟨gb,0,none⟩:=hgb
  subst hgb
  (repeat (first | refine cj_seq ?_ | refine cjr TT rfl ?_ | refine oj_then ?_ | refine cj_skip ?_ | refine cj_block ?_ | refine nj_then ?_ | (refine oj_add rfl rfl rfl rfl rfl rfl (by omega) ?_;refine oj_run TT rfl ?_)))
  refine cj_loop (fun (_:DfS)=>σ) (fun t=>[(0,.a (.v (.slice (some ⟨gb,0,none⟩) l.length sc))),(1,.a (.fn (.func f) caps)),(5,.a (.v (.int .i64 (t.i:Nat)))),(6,.a (.v (.int .i64 (t.j:Nat))))]) (fun _=>[]) (fun t=>[⟨some ⟨gb,0,none⟩,l.length,sc,71,5,itXs t.cur⟩]) 0
    (fun t=>DfAt (fun x=>!q x) l t.cur t.i t.j) (fun t=>l.length - t.j) ⟨n,n+1,l⟩ D0 rfl (by (repeat first | exact trivial | refine ⟨rfl,?_⟩)) (by (repeat first | exact trivial | refine ⟨rfl,?_⟩)) rfl ⟨trivial,hlt,trivial,trivial,trivial⟩ trivial fun ⟨i,j,cur⟩ D=>?_
  dsimp only at D ⊢
  have hij:=D.ij
  have hjl:=D.jl
  have hcl:=D.len
  (repeat (first | refine cj_seq ?_ | refine cjr TT rfl ?_ | refine oj_then ?_))
  refine cj_if rfl (fun h=>?_) (fun h=>?_)
  rotate_left
  · have hj0:j=l.length:=by have:=of_decide_eq_false h;omega
    have hk:=D.kept
    rw [hj0,List.take_length] at hk
    have hkl:(l.filter fun x=>!q x).length=i:=by rw [<-hk,List.length_take];omega
    have hcut:(⟨some ⟨gb,0,none⟩,l.length,sc,71,5,itXs cur⟩:AE).cut i=itE (some ⟨gb,0,none⟩) sc (l.filter fun x=>!q x):=by
      unfold AE.cut itE
      dsimp only
      rw [itXs_take,hk,hkl]
    (repeat (first | refine cj_seq ?_ | refine cjr TT rfl ?_ | refine cj_exit ?_ | refine nj_then ?_ | refine nj_then_exit ?_ | refine nj_block_out ?_))
    refine oj_slice TT i l.length rfl rfl rfl rfl rfl rfl rfl rfl rfl rfl (.inr ⟨_,_,rfl,rfl⟩) (.inl ⟨rfl,rfl⟩) (by omega) hsc hsc (oj_run TT rfl ?_)
    refine oj_cutArr 0 i rfl rfl (by show i<=l.length;omega) (congrArg (fun x=>[x]) hcut) ?_
    refine oj_clear_tail TT 0 (g:=gb) (q:=i) rfl rfl rfl rfl rfl rfl rfl rfl (Nat.le_of_eq hkl) (by show i+(l.length - i)<=sc;omega) (by
      by_cases h0:l.length - i=0
      · exact .inl h0
      · right
        rw [if_neg (by omega)]
        show some (Addr.add ⟨gb,0,none⟩ (i*5))=_
        rw [add0]) rfl rfl rfl rfl rfl rfl (oj_run TT rfl ?_)
    (repeat (first | refine cj_seq ?_ | refine cjr TT rfl ?_ | refine oj_then ?_))
    refine oj_slice_to TT i rfl rfl rfl rfl rfl rfl rfl rfl rfl rfl (by omega) hsc (oj_run TT rfl ?_)
    (repeat (first | refine oj_then ?_ | refine cj_ret ?_))
    refine nj_fret TT rfl fun β w' _ _=>?_
    exact ⟨some ⟨gb,0,none⟩,sc,by rw [hkl];rfl,by rw [hkl];omega,rfl⟩
  have hjl2:j<l.length:=by have:=of_decide_eq_true h;omega
  have hx:=List.getElem?_eq_getElem hjl2
  have hgj:=D.get hx
  generalize l[j]=y at *
  have had:∀ q:Nat,some (SV.a (AT.v (.pointer (some (Addr.add ⟨gb,0,none⟩ ((q:Int).toNat*5))))))=some (SV.a (AT.v (.pointer (some ⟨gb,q*5,none⟩)))):=fun q=>by
    rw [Int.toNat_natCast,add0]
  (repeat (first | refine cj_seq ?_ | refine cjr TT rfl ?_ | refine cj_skip ?_ | refine cj_block ?_ | refine nj_then ?_))
  refine oj_indexAddr TT rfl rfl rfl rfl rfl rfl rfl rfl rfl ⟨by omega,by omega⟩ (oj_run TT rfl ?_)
  refine oj_ldAs 0 (off:=j*5) TT (itCells y) rfl rfl rfl rfl rfl (had j) rfl rfl rfl rfl rfl (fun q c hc=>itXs_get hgj hc) (itCells_lt 0 y) (oj_run TT rfl ?_)
  (repeat (first | refine cj_seq ?_ | refine cjr TT rfl ?_ | refine oj_then ?_))
  refine oj_callP (ys:=.agg (itCells y)::caps.map ptSV) rfl rfl rfl rfl rfl hcall ⟨itCells_lt 0 y,hcap⟩ (hq σ (Snap.le_refl _) y) fun v hv=>⟨.a (.b (q y)),trivial,hv.symm,?_⟩
  refine oj_run TT rfl ?_
  (repeat refine oj_then ?_)
  refine cj_if rfl (fun h=>?_) (fun h=>?_)
  · have h:(!q y)=true:=h
    have D':=D.keep hx h
    (repeat (first | refine cj_seq ?_ | refine cjr TT rfl ?_))
    refine oj_indexAddr TT rfl rfl rfl rfl rfl rfl rfl rfl rfl ⟨by omega,by omega⟩ (oj_run TT rfl ?_)
    refine oj_stAs 0 (off:=i*5) (cs:=itCells y) (A':=[⟨some ⟨gb,0,none⟩,l.length,sc,71,5,itXs (cur.set i y)⟩]) TT rfl rfl rfl rfl (had i) rfl rfl rfl rfl rfl (by show i*5+5<=l.length*5;omega) (itCells_lt 0 y) rfl ?_ (oj_run TT rfl ?_)
    · show [_]=[_]
      rw [<-itXs_set y (by omega)]
      rfl
    (repeat (first | refine cjr TT rfl ?_ | refine oj_then ?_ | refine oj_nil ?_ | refine nj_then ?_ | refine nj_block ?_ | (refine oj_add rfl rfl rfl rfl rfl rfl (by omega) ?_;refine oj_run TT rfl ?_)))
    refine nj_again (⟨i+1,j+1,cur.set i y⟩:DfS) D' (by dsimp only;omega) rfl (by (repeat first | exact trivial | refine ⟨rfl,?_⟩)) (by (repeat first | exact trivial | refine ⟨rfl,?_⟩)) rfl ⟨trivial,hlt,trivial,trivial,trivial⟩ trivial
  · have h:(!q y)=false:=h
    have D':=D.skip hx h
    (repeat (first | refine cjr TT rfl ?_ | refine oj_nil ?_ | refine cj_skip ?_ | refine nj_then ?_ | refine nj_block ?_ | (refine oj_add rfl rfl rfl rfl rfl rfl (by omega) ?_;refine oj_run TT rfl ?_)))
    refine nj_again (⟨i,j+1,cur⟩:DfS) D' (by dsimp only;omega) rfl (by (repeat first | exact trivial | refine ⟨rfl,?_⟩)) (by (repeat first | exact trivial | refine ⟨rfl,?_⟩)) rfl ⟨trivial,hlt,trivial,trivial,trivial⟩ trivial
end Go.Sy
namespace Go.Sy
open Go.Proofs
theorem SlAt.adOf {σ:Snap} {ao:Option Addr} {n cap sz:Nat} {rows:List (List AT)} (H:SlAt σ ao n cap sz rows) (h:0<n):∃ ad,ao=some ad:=by
  rcases H.at_ with h0 | ⟨ad,h1,_⟩
  · omega
  · exact ⟨ad,h1⟩
set_option maxRecDepth 100000 in
set_option maxHeartbeats 1000000 in
theorem bytesEqual_c (σ:Snap) (a b:List UInt8) (ao:Option Addr) (ac:Nat) (HA:SlAt σ ao a.length ac 1 (u8Rows a)) (bo:Option Addr) (bc:Nat) (HB:SlAt σ bo b.length bc 1 (u8Rows b)) :
    PlainS Tryz.prog 120 [.a (.v (.slice ao a.length ac)),.a (.v (.slice bo b.length bc))] σ (fun v=>v=.bool (decide (a=b))):=by
  refine enter_p Tryz.func120 rfl rfl (by (repeat' (first | exact trivial | constructor))) fun w=>?_
  (repeat (first | refine cj_seq ?_ | refine cjr TT rfl ?_ | refine oj_then ?_))
  refine oj_strOf TT rfl rfl rfl rfl rfl rfl rfl rfl rfl rfl rfl rfl HA (oj_run TT rfl ?_)
  refine oj_strOf TT rfl rfl rfl rfl rfl rfl rfl rfl rfl rfl rfl rfl HB (oj_run TT rfl ?_)
  (repeat (first | refine oj_then ?_ | refine cj_ret ?_))
  refine nj_ret TT rfl fun β w' _ _=>?_
  show Value.bool (decide ((⟨a.toArray⟩:ByteArray)=⟨b.toArray⟩))=.bool (decide (a=b))
  congr 1
  rw [Bool.eq_iff_iff,decide_eq_true_eq,decide_eq_true_eq]
  exact ⟨fun h=>mkB_inj h,fun h=>by rw [h]⟩
set_option maxRecDepth 100000 in
set_option maxHeartbeats 2000000 in
theorem Equal1_c (σ:Snap) (m:Int) (hm:σ.cell ⟨0,0,none⟩=some (.int .i64 m)) (X:GIx) (IX:IxAt σ X) (hl:X.ds.length<=1000000) (ho:X.ds.Pairwise fun x y=>x.id<y.id) (hF:FitIx X)
    (g1:Nat) (hg1:∀ (j:Nat) c,(ixCells X)[j]?=some c->σ.cell ((⟨g1,0,none⟩:Addr).add j)=some (c.den β0)) (g2:Nat) (want:List UInt8) (wo:Option Addr) (wc:Nat) (hg2:σ.cell ⟨g2,0,none⟩=some (.slice wo want.length wc)) (HW:SlAt σ wo want.length wc 1 (u8Rows want)) (it:GItem) :
    PlainS Tryz.prog 119 [.agg (itCells it),.a (.v (.pointer (some ⟨g1,0,none⟩))),.a (.v (.pointer (some ⟨g2,0,none⟩)))] σ (fun v=>v=.bool (!decide (ixB X.ds it=want))):=by
  have hB:=ixBytes_c σ m hm X IX hl ho hF it
  generalize ixB X.ds it=z at *
  refine enter_p Tryz.func119 rfl rfl ⟨itCells_lt 0 it,trivial,trivial,trivial⟩ fun w=>?_
  (repeat (first | refine cj_seq ?_ | refine cjr TT rfl ?_ | refine oj_then ?_))
  refine cj_draw [(0,.quiet),(1,.quiet),(3,.quiet),(2,.keep),(4,.keep),(5,.pure),(6,.pure)] mixed (by kernel_rfl) (oj_run TT rfl ?_)
  refine oj_row 1 (ixCells X) rfl (ixCells_lt 0 X) hg1 (oj_run TT rfl ?_)
  refine oj_ldS (c:=.v (.slice wo want.length wc)) TT rfl rfl rfl rfl rfl rfl rfl rfl hg2 trivial (oj_run TT rfl ?_)
  refine oj_set 5 (.agg (ixCells X)) rfl (ixCells_lt _ _) (fun _=>rfl) ?_
  refine oj_set 6 (.agg (itCells it)) rfl (itCells_lt _ _) (fun _=>rfl) ?_
  refine oj_callS (ys:=[.agg (ixCells X),.agg (itCells it)]) rfl rfl rfl rfl rfl Tryz.call121 ⟨ixCells_lt 0 X,itCells_lt 0 it,trivial⟩ hB fun v s1 hle1 ⟨ao,cap,hv,HZ,hn⟩=>⟨.a (.v (.slice ao z.length cap)),trivial,hv.symm,?_⟩
  refine oj_run TT rfl ?_
  refine oj_callP rfl rfl rfl rfl rfl Tryz.call120 (by (repeat' (first | exact trivial | constructor))) (bytesEqual_c s1 z want ao cap HZ wo wc (HW.mono hle1)) fun v hv=>⟨.a (.b (decide (z=want))),trivial,hv.symm,?_⟩
  refine oj_run TT rfl ?_
  (repeat (first | refine oj_then ?_ | refine cj_ret ?_))
  refine nj_ret TT rfl fun β w' _ _=>?_
  rfl
def eqG (ds:List GDoc) (line:Int) (p:GPart):List GItem:=if rightG p then (onG (fun k=>decide (k=line)) ds).filter fun x=>decide (ixB ds x=pbytes p) else []
theorem onG_len {q:Int->Bool} {ds:List GDoc} {n k:Nat} (h:∀ d∈ds,d.L.length<=n) (hk:ds.length<=k):(onG q ds).length<=k*n:=by
  have:(onG q ds).length<=ds.length*n:=by
    clear hk
    induction ds with
    | nil=>exact Nat.zero_le _
    | cons d ds ih =>
      have h1:=ih fun x hx=>h x (List.mem_cons_of_mem d hx)
      have h2:=h d List.mem_cons_self
      have h3:(onD q d).length<=d.L.length:=by
        unfold onD
        rw [List.length_map]
        refine Nat.le_trans (List.length_filter_le _ _) ?_
        rw [List.length_zip,itemsD_len]
        omega
      have e:onG q (d::ds)=onD q d++onG q ds:=by unfold onG;rw [List.flatMap_cons]
      rw [e,List.length_append,List.length_cons,Nat.succ_mul]
      omega
  exact Nat.le_trans this (Nat.mul_le_mul_right _ hk)
theorem row_of {σ:Snap} {g e sz:Nat} {cs:List AT} (hlen:cs.length=sz) (hlt:∀ c∈cs,c.lt 0) (hS:ArrSealed σ ⟨some ⟨g,0,none⟩,1,1,e,sz,cs.map AT.val⟩):∀ (j:Nat) c,cs[j]?=some c->σ.cell ((⟨g,0,none⟩:Addr).add j)=some (c.den β0):=by
  have H:SlAt σ (some ⟨g,0,none⟩) 1 1 sz [cs]:=hS.sl (by simp) (fun r hr=>by rw [List.mem_singleton] at hr;subst hr;exact ⟨hlen,hlt⟩) rfl rfl (Nat.le_refl _)
  intro j c hc
  rcases H.at_ with h | ⟨ad,h1,h2⟩
  · cases h
  · injection h1 with h1
    subst h1
    have:=h2 0 cs j c rfl hc
    rw [Nat.zero_mul,Nat.zero_add] at this
    exact this
set_option maxRecDepth 100000 in
set_option maxHeartbeats 4000000 in
theorem EqualIx_c (σ:Snap) (m:Int) (hm:σ.cell ⟨0,0,none⟩=some (.int .i64 m)) (X:GIx) (IX:IxAt σ X) (hl:X.ds.length<=1000) (hd:∀ d∈X.ds,d.ids.length=d.L.length/\d.L.length<=100000) (ho:X.ds.Pairwise fun x y=>x.id<y.id) (hF:FitIx X) (line:Int) (p:GPart) (hp:p.n.dg.size<=mostLen/\p.s.size<=1000000) :
    PureS Tryz.prog 46 [.agg (ixCells X),.a (.v (.int .i64 line)),.agg (paCells p)] σ (fun v σ'=>∃ oo oc,v=.slice oo (eqG X.ds line p).length oc/\SlAt σ' oo (eqG X.ds line p).length oc 5 (itRows (eqG X.ds line p))):=by
  refine enter_s Tryz.func46 rfl rfl ⟨ixCells_lt 0 X,trivial,paCells_lt 0 p,trivial⟩ fun w=>?_
  (repeat (first | refine cj_seq ?_ | refine cjr TT rfl ?_ | refine oj_then ?_))
  refine oj_set 8 (.agg (paCells p)) rfl (paCells_lt _ _) (fun _=>rfl) ?_
  refine oj_callS (ys:=[.agg (paCells p)]) rfl rfl rfl rfl rfl Tryz.call117 ⟨paCells_lt 0 p,trivial⟩ (part_c σ m hm p hp) fun v s1 hle1 ⟨wo,wc,hv,HW,hn⟩=>⟨.a (.v (.slice wo (pbytes p).length wc)),trivial,hv.symm,?_⟩
  have IX:=IX.mono hle1
  have hm:=hle1.cell hm
  refine oj_run TT rfl ?_
  (repeat (first | refine cj_seq ?_ | refine cjr TT rfl ?_ | refine oj_then ?_ | (refine oj_slnil TT rfl rfl rfl rfl rfl rfl rfl rfl ?_;refine oj_run TT rfl ?_)))
  by_cases h:rightG p=true
  rotate_left
  · have h:rightG p=false:=by simpa using h
    have e:eqG X.ds line p=[]:=by unfold eqG;rw [h];rfl
    rw [e]
    rw [hn (pbytes_nil.2 h)]
    refine cj_if rfl (fun _=>?_) (fun h=>absurd h (by simp))
    (repeat (first | refine cj_seq ?_ | refine cjr TT rfl ?_ | refine oj_then ?_ | refine cj_ret ?_ | refine nj_then_ret ?_))
    refine nj_ret TT rfl fun β w' _ _=>?_
    exact ⟨none,0,rfl,SlAt.nil _ none 0 5⟩
  have hne:=pbytes_ne h
  have hpos:0<(pbytes p).length:=List.length_pos_iff.2 hne
  have e:eqG X.ds line p=(onG (fun k=>decide (k=line)) X.ds).filter fun x=>decide (ixB X.ds x=pbytes p):=by unfold eqG;rw [if_pos h]
  obtain ⟨wa,rfl⟩:=HW.adOf hpos
  have hlen:=onG_len (q:=fun k=>decide (k=line)) (n:=100000) (k:=1000) (fun d h=>(hd d h).2) hl
  refine cj_if rfl (fun h=>absurd h (by simp)) (fun _=>?_)
  (repeat (first | refine cj_seq ?_ | refine cjr TT rfl ?_ | refine cj_skip ?_ | refine nj_then ?_))
  refine oj_own 0 1 4 rfl (ixCells_lt 0 X) rfl (by decide) fun g1=>?_
  refine oj_own 2 1 1 rfl (by (repeat' (first | exact trivial | refine AllLt.of ?_ | constructor))) rfl (by decide) fun g2=>?_
  refine oj_seal 0 rfl rfl rfl fun s2 hle2 hS1=>?_
  refine oj_seal 0 rfl rfl rfl fun s3 hle3 hS2=>?_
  have hg1:=row_of (sz:=4) rfl (ixCells_lt 0 X) hS1
  have hg2:=cell1_of hS2
  have hg1:∀ (j:Nat) c,(ixCells X)[j]?=some c->s3.cell ((⟨g1,0,none⟩:Addr).add j)=some (c.den β0):=fun j c h=>hle3.cell (hg1 j c h)
  have hle:=Snap.le_trans hle2 hle3
  have IX:=IX.mono hle
  have hm:=hle.cell hm
  have HW:=HW.mono hle
  refine oj_set 12 (.agg (ixCells X)) rfl (ixCells_lt _ _) (fun _=>rfl) ?_
  refine oj_callF [] (A0:=[]) (Ar:=[]) (ys:=[.agg (ixCells X),.a (.v (.int .i64 line))]) rfl rfl rfl rfl rfl rfl rfl Tryz.call100 ⟨ixCells_lt 0 X,trivial,trivial⟩ (Of_f s3 X IX hl hd line) fun v s4 A' hle4 ⟨oo,oc,hv,hoc,hA⟩=>⟨.a (.v (.slice oo (onG (fun k=>decide (k=line)) X.ds).length oc)),trivial,hv.symm,?_⟩
  subst hA
  generalize onG (fun k=>decide (k=line)) X.ds=L at *
  have ef:(L.filter fun x=>!(!decide (ixB X.ds x=pbytes p)))=eqG X.ds line p:=by
    rw [e]
    simp only [Bool.not_not]
  have hfl:(SV.a (.fn (.func 119) [.val (.pointer (some ⟨g1,0,none⟩)),.val (.pointer (some ⟨g2,0,none⟩))])).lt 0:=fun x hx=>by
    simp only [List.mem_cons,List.not_mem_nil,or_false] at hx
    rcases hx with rfl | rfl<;>trivial
  refine oj_run TT rfl ?_
  refine oj_callF [0] (A0:=[itE oo oc L]) (Ar:=[]) (ys:=[.a (.v (.slice oo L.length oc)),.a (.fn (.func 119) [.val (.pointer (some ⟨g1,0,none⟩)),.val (.pointer (some ⟨g2,0,none⟩))])]) rfl rfl rfl rfl rfl rfl rfl Tryz.call118 ⟨trivial,hfl,trivial⟩
    (DeleteFunc_c s4 L (by omega) oo oc hoc 119 [.val (.pointer (some ⟨g1,0,none⟩)),.val (.pointer (some ⟨g2,0,none⟩))] ⟨trivial,trivial,trivial⟩ Tryz.call119 hfl (fun x=>!decide (ixB X.ds x=pbytes p)) fun s hs z=>Equal1_c s m ((Snap.le_trans hle4 hs).cell hm) X (IX.mono (Snap.le_trans hle4 hs)) (by omega) ho hF g1 (fun j c h=>(Snap.le_trans hle4 hs).cell (hg1 j c h)) g2 (pbytes p) (some wa) wc ((Snap.le_trans hle4 hs).cell hg2) (HW.mono (Snap.le_trans hle4 hs)) z)
    fun v s5 A' hle5 ⟨to,tc,hv,htc,hA⟩=>⟨.a (.v (.slice to (L.filter fun x=>!(!decide (ixB X.ds x=pbytes p))).length tc)),trivial,hv.symm,?_⟩
  subst hA
  rw [ef] at htc ⊢
  refine oj_run TT rfl ?_
  (repeat (first | refine oj_then ?_ | refine cj_ret ?_))
  refine nj_seal 0 rfl rfl fun s6 hle6 hS=>?_
  refine nj_ret TT rfl fun β w' _ _=>?_
  exact ⟨to,tc,rfl,it_sealed hS htc⟩
def numV (c:UInt8):GVal:=.mk 2 false ⟨false,mkB [c],0⟩ emptyS [] [] []
def aw19 (c:UInt8):GVal:=.mk 5 false dec0 emptyS [] [⟨#[97]⟩] [numV c]
theorem numV_rep (σ:Snap) (c:UInt8):RepV σ (numV c) (vCells (numV c) none 0 none 0):=by
  simp only [numV,RepV]
  exact ⟨none,0,[],none,0,[],rfl,SlAt.nil _ _ _ _,rfl,rfl,SlAt.nil _ _ _ _,rfl,(by rw [mkB_size];show 1<=mostLen;decide),by decide,by decide,by decide,fun k h=>(by cases h)⟩
def aw19L (c:UInt8):List GRec:=[⟨1,4,0,5,false,emptyS,false,dec0,emptyS⟩,⟨2,3,1,2,true,⟨#[97]⟩,false,⟨false,mkB [c],0⟩,emptyS⟩]
theorem aw19_shred1:shredG (aw19 49) 1=(aw19L 49,0):=by decide
theorem aw19_shred2:shredG (aw19 50) 1=(aw19L 50,0):=by decide
theorem aw19_sound1:soundG (aw19L 49)=true:=by decide
theorem aw19_sound2:soundG (aw19L 50)=true:=by decide
theorem aw19_ok1:RecsOk (aw19L 49):=⟨by decide,fun r hr=>by simp only [aw19L,List.mem_cons,List.not_mem_nil,or_false] at hr;rcases hr with rfl | rfl<;>exact ⟨by decide,by decide,by decide⟩,fun _=>by decide⟩
theorem aw19_ok2:RecsOk (aw19L 50):=⟨by decide,fun r hr=>by simp only [aw19L,List.mem_cons,List.not_mem_nil,or_false] at hr;rcases hr with rfl | rfl<;>exact ⟨by decide,by decide,by decide⟩,fun _=>by decide⟩
theorem aw19_levels (c:UInt8):levelsOk 0 (aw19L c):=by
  refine ⟨by decide,by decide,?_⟩
  exact ⟨by show (0:Int)<=1;decide,by show (1:Int)<=(((0:Int).toNat+1:Nat):Int);decide,trivial⟩
theorem aw19_paths1:pathsG (aw19L 49)=[[],[aS]]:=by decide
theorem aw19_paths2:pathsG (aw19L 50)=[[],[aS]]:=by decide
theorem aw19_list {ps:List SRow} (h:ps.map SRow.ss=[[],[aS]]):∃ a0 c0 a1 c1,ps=[⟨a0,c0,[]⟩,⟨a1,c1,[aS]⟩]:=by
  match ps,h with
  | [⟨a0,c0,s0⟩,⟨a1,c1,s1⟩],h =>
    simp only [List.map_cons,List.map_nil,List.cons.injEq,and_true] at h
    obtain ⟨rfl,rfl⟩:=h
    exact ⟨a0,c0,a1,c1,rfl⟩
theorem aw19_add2 (a0:Option Addr) (c0:Nat) (a1:Option Addr) (c1:Nat) (b0:Option Addr) (d0:Nat) (b1:Option Addr) (d1:Nat):addAll ⟨[⟨0,a0,c0,[],1⟩,⟨1,a1,c1,[aS],1⟩],2,[]⟩ [⟨b0,d0,[]⟩,⟨b1,d1,[aS]⟩]=⟨[⟨0,a0,c0,[],2⟩,⟨1,a1,c1,[aS],2⟩],2,[0,1]⟩:=rfl
def two19:GPart:=⟨2,false,⟨false,mkB [50],0⟩,emptyB,0⟩
theorem aw19_of (o1:Option Addr) (c1:Nat) (l1:Option Addr) (k1:Nat) (o2:Option Addr) (c2:Nat) (l2:Option Addr) (k2:Nat) :
    onG (fun k=>decide (k=1)) [⟨1,o1,c1,aw19L 49,l1,k1,[0,1]⟩,⟨2,o2,c2,aw19L 50,l2,k2,[0,1]⟩]=[⟨1,1,2,3,1⟩,⟨2,1,2,3,1⟩]:=rfl
theorem aw19_eq (o1:Option Addr) (c1:Nat) (l1:Option Addr) (k1:Nat) (o2:Option Addr) (c2:Nat) (l2:Option Addr) (k2:Nat) :
    eqG [⟨1,o1,c1,aw19L 49,l1,k1,[0,1]⟩,⟨2,o2,c2,aw19L 50,l2,k2,[0,1]⟩] 1 two19=[⟨2,1,2,3,1⟩]:=by
  have h1:ixB [⟨1,o1,c1,aw19L 49,l1,k1,[0,1]⟩,⟨2,o2,c2,aw19L 50,l2,k2,[0,1]⟩] ⟨1,1,2,3,1⟩=pbytes ⟨2,false,⟨false,mkB [49],0⟩,emptyB,0⟩:=rfl
  have h2:ixB [⟨1,o1,c1,aw19L 49,l1,k1,[0,1]⟩,⟨2,o2,c2,aw19L 50,l2,k2,[0,1]⟩] ⟨2,1,2,3,1⟩=pbytes two19:=rfl
  unfold eqG
  rw [aw19_of,if_pos (by decide),List.filter_cons,h1,if_neg (by decide),List.filter_cons,h2,if_pos (by decide)]
  rfl
end Go.Sy
namespace Go.Sy
open Go.Proofs
set_option maxRecDepth 100000 in
set_option maxHeartbeats 4000000 in
theorem awake19_c (σ:Snap) (m:Int) (hm:σ.cell ⟨0,0,none⟩=some (.int .i64 m)):PureS Tryz.prog 35 [] σ (fun v _=>v=.bool true):=by
  refine enter_s Tryz.func35 rfl rfl (by (repeat' exact trivial)) fun w=>?_
  (repeat (first | refine cj_seq ?_ | refine cjr TT rfl ?_ | refine oj_then ?_))
  refine oj_own 2 1 9 rfl (by (repeat' (first | exact trivial | refine AllLt.of ?_ | constructor))) rfl (by decide) fun g1=>?_
  refine oj_seal 0 rfl rfl rfl fun s1 hle1 hS=>?_
  have H1:SlAt s1 (some ⟨g1,0,none⟩) 1 1 9 (keyRows [⟨#[97]⟩] [vCells (numV 49) none 0 none 0]):=hS.sl (rows:=keyRows [⟨#[97]⟩] [vCells (numV 49) none 0 none 0]) rfl (fun r hr=>by
    simp only [keyRows,List.mem_singleton] at hr
    subst hr
    exact ⟨rfl,by (repeat' (first | exact trivial | refine AllLt.of ?_ | constructor))⟩) rfl rfl (Nat.le_refl _)
  have R1:RepV s1 (aw19 49) (vCells (aw19 49) none 0 (some ⟨g1,0,none⟩) 1):=by
    simp only [aw19,RepV]
    exact ⟨none,0,[],some ⟨g1,0,none⟩,1,_,rfl,SlAt.nil _ _ _ _,rfl,rfl,H1,⟨_,_,rfl,numV_rep s1 49,rfl⟩,by decide,by decide,by decide,by decide,fun k h=>(by rw [List.mem_singleton.1 h];decide)⟩
  refine oj_run TT rfl ?_
  refine oj_set 19 (.agg (vCells (aw19 49) none 0 (some ⟨g1,0,none⟩) 1)) rfl (vCells_lt _ _ _ _ _ _) (fun _=>rfl) ?_
  refine oj_callS rfl rfl rfl rfl rfl Tryz.call39 ⟨vCells_lt _ _ _ _ _ _,trivial,trivial⟩ (Shred_s s1 (aw19 49) _ 1 R1 (by decide)) fun v s2 hle2 ⟨ao,cap,hv,HA⟩=>⟨.tup [.a (.v (.slice ao 2 cap)),.a (.v (.int .i64 0))],(by (repeat' (first | exact trivial | refine SV.lt_tup ?_ | constructor))),(by rw [hv,aw19_shred1];rfl),?_⟩
  rw [aw19_shred1] at HA
  have HA:SlAt s2 ao 2 cap 11 (recRows (aw19L 49)):=HA
  refine oj_run TT rfl ?_
  (repeat (first | refine cj_seq ?_ | refine cjr TT rfl ?_ | refine oj_then ?_))
  refine oj_own 3 1 9 rfl (by (repeat' (first | exact trivial | refine AllLt.of ?_ | constructor))) rfl (by decide) fun g2=>?_
  refine oj_seal 0 rfl rfl rfl fun s3 hle3 hS=>?_
  have H2:SlAt s3 (some ⟨g2,0,none⟩) 1 1 9 (keyRows [⟨#[97]⟩] [vCells (numV 50) none 0 none 0]):=hS.sl (rows:=keyRows [⟨#[97]⟩] [vCells (numV 50) none 0 none 0]) rfl (fun r hr=>by
    simp only [keyRows,List.mem_singleton] at hr
    subst hr
    exact ⟨rfl,by (repeat' (first | exact trivial | refine AllLt.of ?_ | constructor))⟩) rfl rfl (Nat.le_refl _)
  have R2:RepV s3 (aw19 50) (vCells (aw19 50) none 0 (some ⟨g2,0,none⟩) 1):=by
    simp only [aw19,RepV]
    exact ⟨none,0,[],some ⟨g2,0,none⟩,1,_,rfl,SlAt.nil _ _ _ _,rfl,rfl,H2,⟨_,_,rfl,numV_rep s3 50,rfl⟩,by decide,by decide,by decide,by decide,fun k h=>(by rw [List.mem_singleton.1 h];decide)⟩
  have HA:=HA.mono hle3
  refine oj_run TT rfl ?_
  refine oj_set 27 (.agg (vCells (aw19 50) none 0 (some ⟨g2,0,none⟩) 1)) rfl (vCells_lt _ _ _ _ _ _) (fun _=>rfl) ?_
  refine oj_callS rfl rfl rfl rfl rfl Tryz.call39 ⟨vCells_lt _ _ _ _ _ _,trivial,trivial⟩ (Shred_s s3 (aw19 50) _ 1 R2 (by decide)) fun v s4 hle4 ⟨bo,bc,hv,HB⟩=>⟨.tup [.a (.v (.slice bo 2 bc)),.a (.v (.int .i64 0))],(by (repeat' (first | exact trivial | refine SV.lt_tup ?_ | constructor))),(by rw [hv,aw19_shred2];rfl),?_⟩
  rw [aw19_shred2] at HB
  have HB:SlAt s4 bo 2 bc 11 (recRows (aw19L 50)):=HB
  have HA:=HA.mono hle4
  refine oj_run TT rfl ?_
  (repeat (first | refine cj_seq ?_ | refine cjr TT rfl ?_ | refine oj_then ?_))
  refine oj_callP rfl rfl rfl rfl rfl Tryz.call38 (by (repeat' exact trivial)) (New_c s4) fun v hv=>⟨.agg (ixCells ix0),ixCells_lt _ _,hv.symm,?_⟩
  refine oj_run TT rfl ?_
  refine oj_callS (ys:=[.agg (ixCells ix0),.agg [.v (.int .i64 1),.v (.slice ao 2 cap)]]) rfl rfl rfl rfl rfl Tryz.call40 ⟨ixCells_lt 0 ix0,(by (repeat' (first | exact trivial | refine AllLt.of ?_ | constructor))),trivial⟩
    (IxAdd_x s4 ix0 (ix0_at s4) IdxP.nil 1 (aw19L 49) aw19_ok1 (by decide) aw19_sound1 (aw19_levels 49) ao cap HA (fun d h=>by cases h) (by decide) 0 ⟨Nat.le_refl _,Nat.le_refl _,by decide,fun _ h=>(by cases h)⟩ (by decide))
    fun v s5 hle5 ⟨X1,hv,I1,P1,_,F1,lo1,lc1,ps1,hps1,hds1,hxs1,hnx1⟩=>⟨.tup [.agg (ixCells X1),.a (.v (.int .i64 0))],(by intro x hx;simp only [List.mem_cons,List.not_mem_nil,or_false] at hx;rcases hx with rfl | rfl;exact ixCells_lt 0 X1;trivial),hv.symm,?_⟩
  rw [aw19_paths1] at hps1
  obtain ⟨a0,c0,a1,c1,rfl⟩:=aw19_list hps1
  have hds1:X1.ds=[⟨1,ao,cap,aw19L 49,lo1,lc1,[0,1]⟩]:=hds1
  have hxs1:X1.xs=[⟨0,a0,c0,[],1⟩,⟨1,a1,c1,[aS],1⟩]:=hxs1
  have hnx1:X1.next=2:=hnx1
  have HB:=HB.mono hle5
  refine oj_run TT rfl ?_
  (repeat (first | refine cj_seq ?_ | refine cjr TT rfl ?_ | refine oj_then ?_))
  refine oj_set 39 (.agg (ixCells X1)) rfl (ixCells_lt _ _) (fun _=>rfl) ?_
  refine oj_callS (ys:=[.agg (ixCells X1),.agg [.v (.int .i64 2),.v (.slice bo 2 bc)]]) rfl rfl rfl rfl rfl Tryz.call40 ⟨ixCells_lt 0 X1,(by (repeat' (first | exact trivial | refine AllLt.of ?_ | constructor))),trivial⟩
    (IxAdd_x s5 X1 I1 P1 2 (aw19L 50) aw19_ok2 (by decide) aw19_sound2 (aw19_levels 50) bo bc HB (fun d h=>by rw [hds1,List.mem_singleton] at h;subst h;show (1:Int)<2;decide) (by rw [hds1];show 1<=1000;decide) _ F1 (by decide))
    fun v s6 hle6 ⟨X,hv,IX,PX,_,FX,lo2,lc2,ps2,hps2,hds2,_,_⟩=>⟨.tup [.agg (ixCells X),.a (.v (.int .i64 0))],(by intro x hx;simp only [List.mem_cons,List.not_mem_nil,or_false] at hx;rcases hx with rfl | rfl;exact ixCells_lt 0 X;trivial),hv.symm,?_⟩
  rw [aw19_paths2] at hps2
  obtain ⟨b0,d0,b1,d1,rfl⟩:=aw19_list hps2
  rw [hxs1,hnx1,aw19_add2,hds1] at hds2
  have hds:X.ds=[⟨1,ao,cap,aw19L 49,lo1,lc1,[0,1]⟩,⟨2,bo,bc,aw19L 50,lo2,lc2,[0,1]⟩]:=hds2
  have hd:∀ d∈X.ds,d.ids.length=d.L.length/\d.L.length<=100000:=fun d h=>by
    rw [hds] at h
    simp only [List.mem_cons,List.not_mem_nil,or_false] at h
    rcases h with rfl | rfl<;>exact ⟨rfl,by show 2<=_;omega⟩
  have hlen:X.ds.length=2:=by rw [hds];rfl
  have hF:FitIx X:=fun d h r hr=>by
    rw [hds] at h
    simp only [List.mem_cons,List.not_mem_nil,or_false] at h
    rcases h with rfl | rfl<;>(simp only [aw19L,List.mem_cons,List.not_mem_nil,or_false] at hr;rcases hr with rfl | rfl<;>exact ⟨by decide,by decide⟩)
  have hO:=aw19_of ao cap lo1 lc1 bo bc lo2 lc2
  have hQ:=aw19_eq ao cap lo1 lc1 bo bc lo2 lc2
  rw [<-hds] at hO hQ
  have hOf:=Of_f s6 X IX (by omega) hd 1
  have hEq:=fun (s:Snap) (hle:s6.le s)=>EqualIx_c s m ((Snap.le_trans hle1 (Snap.le_trans hle2 (Snap.le_trans hle3 (Snap.le_trans hle4 (Snap.le_trans hle5 (Snap.le_trans hle6 hle)))))).cell hm) X (IX.mono hle) (by omega) hd PX.ord hF 1 two19 ⟨by decide,by decide⟩
  rw [hO] at hOf
  rw [hQ] at hEq
  refine oj_run TT rfl ?_
  (repeat (first | refine cj_seq ?_ | refine cjr TT rfl ?_ | refine oj_then ?_))
  refine oj_split 47 rfl (fun _=>?_) (fun h=>absurd h (by decide))
  refine oj_run TT rfl ?_
  refine oj_split 51 rfl (fun _=>?_) (fun h=>absurd h (by decide))
  refine oj_run TT rfl ?_
  refine oj_set 52 (.agg (ixCells X)) rfl (ixCells_lt _ _) (fun _=>rfl) ?_
  refine oj_callF [] (A0:=[]) (Ar:=[]) (ys:=[.agg (ixCells X),.a (.v (.int .i64 1))]) rfl rfl rfl rfl rfl rfl rfl Tryz.call100 ⟨ixCells_lt 0 X,trivial,trivial⟩ hOf fun v s7 A' hle7 ⟨oo,oc,hv,hoc,hA⟩=>⟨.a (.v (.slice oo 2 oc)),trivial,hv.symm,?_⟩
  subst hA
  refine oj_run TT rfl ?_
  refine oj_split 57 rfl (fun _=>?_) (fun h=>absurd h (by decide))
  refine oj_run TT rfl ?_
  refine oj_set 58 (.agg (ixCells X)) rfl (ixCells_lt _ _) (fun _=>rfl) ?_
  refine oj_set 61 (.agg (paCells two19)) rfl (paCells_lt _ _) (fun _=>rfl) ?_
  refine oj_callS (ys:=[.agg (ixCells X),.a (.v (.int .i64 1)),.agg (paCells two19)]) rfl rfl rfl rfl rfl Tryz.call46 ⟨ixCells_lt 0 X,trivial,paCells_lt 0 _,trivial⟩ (hEq s7 hle7) fun v s8 hle8 ⟨po,pc,hv,_⟩=>⟨.a (.v (.slice po 1 pc)),trivial,hv.symm,?_⟩
  refine oj_run TT rfl ?_
  (repeat (first | refine oj_then ?_ | refine cj_ret ?_))
  refine nj_ret TT rfl fun β w' _ _=>?_
  rfl
end Go.Sy
namespace Go.Sy
open Go.Proofs
set_option maxRecDepth 100000 in
set_option maxHeartbeats 1000000 in
theorem DeleteLn_c (σ:Snap) (rows:List (List AT)) (hrow:∀ r∈rows,r.length=3/\r.all AT.one=true) (hl:rows.length<=1000000) (bo:Option Addr) (bc:Nat) (hbc:rows.length<=bc) (i j:Nat) (hij:i<j) (hj:j<=rows.length) :
    FnS Tryz.prog 177 [.a (.v (.slice bo rows.length bc)),.a (.v (.int .i64 i)),.a (.v (.int .i64 j))] σ [⟨bo,rows.length,bc,211,3,rows.flatten.map AT.val⟩] (fun v _ A'=>v=.slice bo (i+(rows.length - j)) bc/\A'=[⟨bo,i+(rows.length - j),bc,211,3,(rows.take i++rows.drop j).flatten.map AT.val⟩]):=by
  have hone:∀ v∈rows.flatten.map AT.val,v.oneCell'=true:=fun v hv=>by
    obtain ⟨c,hc,rfl⟩:=List.mem_map.1 hv
    obtain ⟨r,hr,hc⟩:=List.mem_flatten.1 hc
    exact AT.one_den β0 (List.all_eq_true.1 (hrow r hr).2 c hc)
  have hfl:∀ (l:List (List AT)) (k:Nat),(∀ r∈l,r.length=3)->l.flatten.take (k*3)=(l.take k).flatten/\l.flatten.drop (k*3)=(l.drop k).flatten:=fun l=>by
    induction l with
    | nil=>intro k _;simp
    | cons r l ih =>
      intro k hr
      cases k with
      | zero=>simp
      | succ k =>
        have h1:=ih k fun q hq=>hr q (List.mem_cons_of_mem _ hq)
        have h2:=hr r List.mem_cons_self
        rw [List.flatten_cons,List.take_succ_cons,List.drop_succ_cons,List.flatten_cons,List.take_append,List.drop_append,h2,show (k+1)*3 - 3=k*3 by omega,h1.1,h1.2,List.take_of_length_le (by omega),List.drop_of_length_le (by omega)]
        exact ⟨rfl,rfl⟩
  have hxs:(rows.flatten.map AT.val).take (i*3)++(rows.flatten.map AT.val).drop (j*3)=(rows.take i++rows.drop j).flatten.map AT.val:=by
    rw [<-List.map_take,<-List.map_drop,(hfl rows i fun r hr=>(hrow r hr).1).1,(hfl rows j fun r hr=>(hrow r hr).1).2,<-List.map_append,List.flatten_append]
  refine enter_f Tryz.func177 rfl rfl (by (repeat' (first | exact trivial | constructor))) fun w=>?_
  (repeat (first | refine cj_seq ?_ | refine cjr TT rfl ?_ | refine oj_then ?_))
  refine oj_arrAt 0 (E:=⟨bo,rows.length,bc,211,3,rows.flatten.map AT.val⟩) rfl (by show 0<rows.length;omega) fun g1 hg1=>?_
  have hg1:bo=some ⟨g1,0,none⟩:=hg1
  subst hg1
  refine oj_slice3 TT i j rows.length rfl rfl rfl rfl rfl rfl rfl rfl rfl rfl rfl rfl rfl rfl (by omega) hj hbc (oj_run TT rfl ?_)
  (repeat (first | refine cj_seq ?_ | refine cjr TT rfl ?_ | refine oj_then ?_))
  refine cj_if rfl (fun h=>?_) (fun h=>?_)
  · have:=of_decide_eq_true h
    omega
  (repeat (first | refine cj_seq ?_ | refine cjr TT rfl ?_ | refine oj_then ?_ | refine cj_skip ?_ | refine nj_then ?_))
  refine cj_draw [(0,.pure),(1,.pure),(2,.pure),(3,.pure),(4,.pure),(5,.pure),(6,.sink),(7,.pure)] mixed (by kernel_rfl) (oj_run TT rfl ?_)
  refine oj_slice_to TT i rfl rfl rfl rfl rfl rfl rfl rfl rfl rfl (by omega) hbc (oj_run TT rfl ?_)
  refine oj_slice TT j rows.length rfl rfl rfl rfl rfl rfl rfl rfl rfl rfl (.inr ⟨_,_,rfl,rfl⟩) (.inl ⟨rfl,rfl⟩) hj hbc hbc (oj_run TT rfl ?_)
  refine oj_append_own TT 0 (E:=⟨some ⟨g1,0,none⟩,rows.length,bc,211,3,rows.flatten.map AT.val⟩) i j rfl rfl rfl rfl rfl rfl rfl rfl rfl rfl (by omega) hj (by
      by_cases hjn:j=rows.length
      · exact .inl hjn
      · right
        rw [if_neg (by omega)]
        show some (Addr.add ⟨g1,0,none⟩ (j*3))=_
        rw [add0]) (by split<;>rfl) rfl rfl rfl rfl rfl rfl hone ?_
  refine oj_run TT rfl ?_
  rw [show (⟨some ⟨g1,0,none⟩,rows.length,bc,211,3,rows.flatten.map AT.val⟩:AE).xs.take (i*3)++(⟨some ⟨g1,0,none⟩,rows.length,bc,211,3,rows.flatten.map AT.val⟩:AE).xs.drop (j*3)=(rows.take i++rows.drop j).flatten.map AT.val from hxs]
  dsimp only
  (repeat (first | refine cj_seq ?_ | refine cjr TT rfl ?_ | refine oj_then ?_))
  refine oj_slice TT (i+(rows.length - j)) rows.length rfl rfl rfl rfl rfl rfl rfl rfl rfl rfl (.inr ⟨_,_,rfl,rfl⟩) (.inr ⟨_,_,rfl,rfl⟩) (by omega) hbc (by omega) (oj_run TT rfl ?_)
  refine oj_clear_tail TT 0 (E:=⟨some ⟨g1,0,none⟩,i+(rows.length - j),bc,211,3,(rows.take i++rows.drop j).flatten.map AT.val⟩) (i+(rows.length - j)) rfl rfl rfl rfl rfl rfl rfl rfl (Nat.le_refl _) (by show _+_<=bc;omega) (by
      right
      rw [if_neg (by omega)]
      show some (Addr.add ⟨g1,0,none⟩ ((i+(rows.length - j))*3))=_
      rw [add0]) rfl rfl rfl rfl rfl rfl (oj_run TT rfl ?_)
  (repeat (first | refine cj_seq ?_ | refine cjr TT rfl ?_ | refine oj_then ?_ | refine cj_ret ?_))
  refine nj_fret TT rfl fun β w' _ _=>?_
  exact ⟨rfl,rfl⟩
set_option maxRecDepth 100000 in
set_option maxHeartbeats 1000000 in
theorem DeleteDo_c (σ:Snap) (rows:List (List AT)) (hrow:∀ r∈rows,r.length=2/\r.all AT.one=true) (hl:rows.length<=1000000) (bo:Option Addr) (bc:Nat) (hbc:rows.length<=bc) (i j:Nat) (hij:i<j) (hj:j<=rows.length) :
    FnS Tryz.prog 113 [.a (.v (.slice bo rows.length bc)),.a (.v (.int .i64 i)),.a (.v (.int .i64 j))] σ [⟨bo,rows.length,bc,90,2,rows.flatten.map AT.val⟩] (fun v _ A'=>v=.slice bo (i+(rows.length - j)) bc/\A'=[⟨bo,i+(rows.length - j),bc,90,2,(rows.take i++rows.drop j).flatten.map AT.val⟩]):=by
  have hone:∀ v∈rows.flatten.map AT.val,v.oneCell'=true:=fun v hv=>by
    obtain ⟨c,hc,rfl⟩:=List.mem_map.1 hv
    obtain ⟨r,hr,hc⟩:=List.mem_flatten.1 hc
    exact AT.one_den β0 (List.all_eq_true.1 (hrow r hr).2 c hc)
  have hfl:∀ (l:List (List AT)) (k:Nat),(∀ r∈l,r.length=2)->l.flatten.take (k*2)=(l.take k).flatten/\l.flatten.drop (k*2)=(l.drop k).flatten:=fun l=>by
    induction l with
    | nil=>intro k _;simp
    | cons r l ih =>
      intro k hr
      cases k with
      | zero=>simp
      | succ k =>
        have h1:=ih k fun q hq=>hr q (List.mem_cons_of_mem _ hq)
        have h2:=hr r List.mem_cons_self
        rw [List.flatten_cons,List.take_succ_cons,List.drop_succ_cons,List.flatten_cons,List.take_append,List.drop_append,h2,show (k+1)*2 - 2=k*2 by omega,h1.1,h1.2,List.take_of_length_le (by omega),List.drop_of_length_le (by omega)]
        exact ⟨rfl,rfl⟩
  have hxs:(rows.flatten.map AT.val).take (i*2)++(rows.flatten.map AT.val).drop (j*2)=(rows.take i++rows.drop j).flatten.map AT.val:=by
    rw [<-List.map_take,<-List.map_drop,(hfl rows i fun r hr=>(hrow r hr).1).1,(hfl rows j fun r hr=>(hrow r hr).1).2,<-List.map_append,List.flatten_append]
  refine enter_f Tryz.func113 rfl rfl (by (repeat' (first | exact trivial | constructor))) fun w=>?_
  (repeat (first | refine cj_seq ?_ | refine cjr TT rfl ?_ | refine oj_then ?_))
  refine oj_arrAt 0 (E:=⟨bo,rows.length,bc,90,2,rows.flatten.map AT.val⟩) rfl (by show 0<rows.length;omega) fun g1 hg1=>?_
  have hg1:bo=some ⟨g1,0,none⟩:=hg1
  subst hg1
  refine oj_slice3 TT i j rows.length rfl rfl rfl rfl rfl rfl rfl rfl rfl rfl rfl rfl rfl rfl (by omega) hj hbc (oj_run TT rfl ?_)
  (repeat (first | refine cj_seq ?_ | refine cjr TT rfl ?_ | refine oj_then ?_))
  refine cj_if rfl (fun h=>?_) (fun h=>?_)
  · have:=of_decide_eq_true h
    omega
  (repeat (first | refine cj_seq ?_ | refine cjr TT rfl ?_ | refine oj_then ?_ | refine cj_skip ?_ | refine nj_then ?_))
  refine cj_draw [(0,.pure),(1,.pure),(2,.pure),(3,.pure),(4,.pure),(5,.pure),(6,.sink),(7,.pure)] mixed (by kernel_rfl) (oj_run TT rfl ?_)
  refine oj_slice_to TT i rfl rfl rfl rfl rfl rfl rfl rfl rfl rfl (by omega) hbc (oj_run TT rfl ?_)
  refine oj_slice TT j rows.length rfl rfl rfl rfl rfl rfl rfl rfl rfl rfl (.inr ⟨_,_,rfl,rfl⟩) (.inl ⟨rfl,rfl⟩) hj hbc hbc (oj_run TT rfl ?_)
  refine oj_append_own TT 0 (E:=⟨some ⟨g1,0,none⟩,rows.length,bc,90,2,rows.flatten.map AT.val⟩) i j rfl rfl rfl rfl rfl rfl rfl rfl rfl rfl (by omega) hj (by
      by_cases hjn:j=rows.length
      · exact .inl hjn
      · right
        rw [if_neg (by omega)]
        show some (Addr.add ⟨g1,0,none⟩ (j*2))=_
        rw [add0]) (by split<;>rfl) rfl rfl rfl rfl rfl rfl hone ?_
  refine oj_run TT rfl ?_
  rw [show (⟨some ⟨g1,0,none⟩,rows.length,bc,90,2,rows.flatten.map AT.val⟩:AE).xs.take (i*2)++(⟨some ⟨g1,0,none⟩,rows.length,bc,90,2,rows.flatten.map AT.val⟩:AE).xs.drop (j*2)=(rows.take i++rows.drop j).flatten.map AT.val from hxs]
  dsimp only
  (repeat (first | refine cj_seq ?_ | refine cjr TT rfl ?_ | refine oj_then ?_))
  refine oj_slice TT (i+(rows.length - j)) rows.length rfl rfl rfl rfl rfl rfl rfl rfl rfl rfl (.inr ⟨_,_,rfl,rfl⟩) (.inr ⟨_,_,rfl,rfl⟩) (by omega) hbc (by omega) (oj_run TT rfl ?_)
  refine oj_clear_tail TT 0 (E:=⟨some ⟨g1,0,none⟩,i+(rows.length - j),bc,90,2,(rows.take i++rows.drop j).flatten.map AT.val⟩) (i+(rows.length - j)) rfl rfl rfl rfl rfl rfl rfl rfl (Nat.le_refl _) (by show _+_<=bc;omega) (by
      right
      rw [if_neg (by omega)]
      show some (Addr.add ⟨g1,0,none⟩ ((i+(rows.length - j))*2))=_
      rw [add0]) rfl rfl rfl rfl rfl rfl (oj_run TT rfl ?_)
  (repeat (first | refine cj_seq ?_ | refine cjr TT rfl ?_ | refine oj_then ?_ | refine cj_ret ?_))
  refine nj_fret TT rfl fun β w' _ _=>?_
  exact ⟨rfl,rfl⟩
set_option maxRecDepth 100000 in
set_option maxHeartbeats 1000000 in
theorem DeleteLi_c (σ:Snap) (rows:List (List AT)) (hrow:∀ r∈rows,r.length=1/\r.all AT.one=true) (hl:rows.length<=1000000) (bo:Option Addr) (bc:Nat) (hbc:rows.length<=bc) (i j:Nat) (hij:i<j) (hj:j<=rows.length) :
    FnS Tryz.prog 114 [.a (.v (.slice bo rows.length bc)),.a (.v (.int .i64 i)),.a (.v (.int .i64 j))] σ [⟨bo,rows.length,bc,74,1,rows.flatten.map AT.val⟩] (fun v _ A'=>v=.slice bo (i+(rows.length - j)) bc/\A'=[⟨bo,i+(rows.length - j),bc,74,1,(rows.take i++rows.drop j).flatten.map AT.val⟩]):=by
  have hone:∀ v∈rows.flatten.map AT.val,v.oneCell'=true:=fun v hv=>by
    obtain ⟨c,hc,rfl⟩:=List.mem_map.1 hv
    obtain ⟨r,hr,hc⟩:=List.mem_flatten.1 hc
    exact AT.one_den β0 (List.all_eq_true.1 (hrow r hr).2 c hc)
  have hfl:∀ (l:List (List AT)) (k:Nat),(∀ r∈l,r.length=1)->l.flatten.take (k*1)=(l.take k).flatten/\l.flatten.drop (k*1)=(l.drop k).flatten:=fun l=>by
    induction l with
    | nil=>intro k _;simp
    | cons r l ih =>
      intro k hr
      cases k with
      | zero=>simp
      | succ k =>
        have h1:=ih k fun q hq=>hr q (List.mem_cons_of_mem _ hq)
        have h2:=hr r List.mem_cons_self
        rw [List.flatten_cons,List.take_succ_cons,List.drop_succ_cons,List.flatten_cons,List.take_append,List.drop_append,h2,show (k+1)*1 - 1=k*1 by omega,h1.1,h1.2,List.take_of_length_le (by omega),List.drop_of_length_le (by omega)]
        exact ⟨rfl,rfl⟩
  have hxs:(rows.flatten.map AT.val).take (i*1)++(rows.flatten.map AT.val).drop (j*1)=(rows.take i++rows.drop j).flatten.map AT.val:=by
    rw [<-List.map_take,<-List.map_drop,(hfl rows i fun r hr=>(hrow r hr).1).1,(hfl rows j fun r hr=>(hrow r hr).1).2,<-List.map_append,List.flatten_append]
  refine enter_f Tryz.func114 rfl rfl (by (repeat' (first | exact trivial | constructor))) fun w=>?_
  (repeat (first | refine cj_seq ?_ | refine cjr TT rfl ?_ | refine oj_then ?_))
  refine oj_arrAt 0 (E:=⟨bo,rows.length,bc,74,1,rows.flatten.map AT.val⟩) rfl (by show 0<rows.length;omega) fun g1 hg1=>?_
  have hg1:bo=some ⟨g1,0,none⟩:=hg1
  subst hg1
  refine oj_slice3 TT i j rows.length rfl rfl rfl rfl rfl rfl rfl rfl rfl rfl rfl rfl rfl rfl (by omega) hj hbc (oj_run TT rfl ?_)
  (repeat (first | refine cj_seq ?_ | refine cjr TT rfl ?_ | refine oj_then ?_))
  refine cj_if rfl (fun h=>?_) (fun h=>?_)
  · have:=of_decide_eq_true h
    omega
  (repeat (first | refine cj_seq ?_ | refine cjr TT rfl ?_ | refine oj_then ?_ | refine cj_skip ?_ | refine nj_then ?_))
  refine cj_draw [(0,.pure),(1,.pure),(2,.pure),(3,.pure),(4,.pure),(5,.pure),(6,.sink),(7,.pure)] mixed (by kernel_rfl) (oj_run TT rfl ?_)
  refine oj_slice_to TT i rfl rfl rfl rfl rfl rfl rfl rfl rfl rfl (by omega) hbc (oj_run TT rfl ?_)
  refine oj_slice TT j rows.length rfl rfl rfl rfl rfl rfl rfl rfl rfl rfl (.inr ⟨_,_,rfl,rfl⟩) (.inl ⟨rfl,rfl⟩) hj hbc hbc (oj_run TT rfl ?_)
  refine oj_append_own TT 0 (E:=⟨some ⟨g1,0,none⟩,rows.length,bc,74,1,rows.flatten.map AT.val⟩) i j rfl rfl rfl rfl rfl rfl rfl rfl rfl rfl (by omega) hj (by
      by_cases hjn:j=rows.length
      · exact .inl hjn
      · right
        rw [if_neg (by omega)]
        show some (Addr.add ⟨g1,0,none⟩ (j*1))=_
        rw [add0]) (by split<;>rfl) rfl rfl rfl rfl rfl rfl hone ?_
  refine oj_run TT rfl ?_
  rw [show (⟨some ⟨g1,0,none⟩,rows.length,bc,74,1,rows.flatten.map AT.val⟩:AE).xs.take (i*1)++(⟨some ⟨g1,0,none⟩,rows.length,bc,74,1,rows.flatten.map AT.val⟩:AE).xs.drop (j*1)=(rows.take i++rows.drop j).flatten.map AT.val from hxs]
  dsimp only
  (repeat (first | refine cj_seq ?_ | refine cjr TT rfl ?_ | refine oj_then ?_))
  refine oj_slice TT (i+(rows.length - j)) rows.length rfl rfl rfl rfl rfl rfl rfl rfl rfl rfl (.inr ⟨_,_,rfl,rfl⟩) (.inr ⟨_,_,rfl,rfl⟩) (by omega) hbc (by omega) (oj_run TT rfl ?_)
  refine oj_clear_tail TT 0 (E:=⟨some ⟨g1,0,none⟩,i+(rows.length - j),bc,74,1,(rows.take i++rows.drop j).flatten.map AT.val⟩) (i+(rows.length - j)) rfl rfl rfl rfl rfl rfl rfl rfl (Nat.le_refl _) (by show _+_<=bc;omega) (by
      right
      rw [if_neg (by omega)]
      show some (Addr.add ⟨g1,0,none⟩ ((i+(rows.length - j))*1))=_
      rw [add0]) rfl rfl rfl rfl rfl rfl (oj_run TT rfl ?_)
  (repeat (first | refine cj_seq ?_ | refine cjr TT rfl ?_ | refine oj_then ?_ | refine cj_ret ?_))
  refine nj_fret TT rfl fun β w' _ _=>?_
  exact ⟨rfl,rfl⟩
def GLine.less (x:GLine):GLine:={ x with cnt:=x.cnt - 1 }
def dropOneG (xs:List GLine) (id:Int):Option (List GLine) :=
  if idG xs id<0 then none else
  match xs[(idG xs id).toNat]? with
  | none=>none
  | some x=>if x.cnt - 1=0 then some (xs.eraseIdx (idG xs id).toNat) else some (xs.set (idG xs id).toNat x.less)
def dropAllG:List GLine->List Int->Option (List GLine)
  | xs,[]=>some xs
  | xs,id::ids=>(dropOneG xs id).bind fun ys=>dropAllG ys ids
theorem erase_td (xs:List GLine) (j:Nat):xs.take j++xs.drop (j+1)=xs.eraseIdx j:=(List.eraseIdx_eq_take_drop_succ xs j).symm
structure DgS where
  k:Nat
  cur:List GLine
set_option maxRecDepth 100000 in
set_option maxHeartbeats 4000000 in
theorem guideDrop_c (σ:Snap) (xs:List GLine) (hl:xs.length<=1000000) (next:Int) (ao:Option Addr) (cap:Nat) (H:SlAt σ ao xs.length cap 3 (lnRows xs)) (hx:∀ x∈xs,-1000000<=x.cnt/\x.cnt<=1000000) (ids:List Int) (hi:ids.length<=1000000) (io:Option Addr) (ic:Nat) (HI:SlAt σ io ids.length ic 1 (idRows ids)) :
    PureS Tryz.prog 112 [.agg [.v (.slice ao xs.length cap),.v (.int .i64 next)],.a (.v (.slice io ids.length ic))] σ (fun v σ'=>match dropAllG xs ids with
      | none=>v=.tuple #[.agg #[.slice none 0 0,.int .i64 0],.int .i64 6]
      | some ys=>∃ bo bc,v=.tuple #[.agg #[.slice bo ys.length bc,.int .i64 next],.int .i64 0]/\SlAt σ' bo ys.length bc 3 (lnRows ys)):=by
  refine enter_s Tryz.func112 rfl rfl (by (repeat' (first | exact trivial | refine AllLt.of ?_ | constructor))) fun w=>?_
  (repeat (first | refine cj_seq ?_ | refine cjr TT rfl ?_ | refine oj_then ?_))
  refine oj_callF [] (A0:=[]) (Ar:=[]) rfl rfl rfl rfl rfl rfl rfl Tryz.call170 (by (repeat' (first | exact trivial | constructor))) (CloneLn_c σ xs hl ao cap H) fun v σ1 A1 hle ⟨bo,bc,hv,hbc,hA⟩=>⟨.a (.v (.slice bo xs.length bc)),trivial,hv.symm,?_⟩
  subst hA
  have HI:=HI.mono hle
  refine oj_run TT rfl ?_
  (repeat (first | refine cj_seq ?_ | refine cjr TT rfl ?_ | refine oj_then ?_ | refine cj_block ?_))
  refine cj_loop2 (fun (s:Snap) (_:DgS)=>s) (fun _ t=>[(2,.a (.p 0 0)),(4,.a (.p 1 0)),(13,.a (.v (.slice io ids.length ic))),(14,.a (.v (.int .i64 ids.length))),(15,.a (.v (.int .i64 (t.k:Nat))))]) (fun _ t=>[(0,.loc 57,[.v (.slice bo t.cur.length bc),.v (.int .i64 next)]),(1,.loc 57,[.v (.slice none 0 0),.v (.int .i64 0)])]) (fun _ t=>[lnE bo bc t.cur]) 2
    (fun s t=>σ1.le s/\t.k<=ids.length/\t.cur.length<=xs.length/\(∀ x∈t.cur,-1000000 - (t.k:Int)<=x.cnt/\x.cnt<=1000000)/\dropAllG xs ids=dropAllG t.cur (ids.drop t.k)) (fun _ t=>ids.length - t.k) σ1 ⟨0,xs⟩ ⟨Snap.le_refl _,Nat.zero_le _,Nat.le_refl _,fun x h=>by have:=hx x h;dsimp only;omega,rfl⟩ rfl (by (repeat first | exact trivial | refine ⟨rfl,?_⟩)) (by (repeat first | exact trivial | refine ⟨rfl,?_⟩)) rfl (by (repeat' (first | exact trivial | exact Nat.le_of_ble_eq_true rfl | constructor))) (by (repeat' (first | exact trivial | exact Nat.le_of_ble_eq_true rfl | refine AllLt.of ?_ | constructor))) fun s ⟨k,cur⟩ ⟨hls,hk,hcl,hc,hd⟩=>?_
  have HI:=HI.mono hls
  dsimp only at hk hcl hc hd ⊢
  (repeat (first | refine cj_seq ?_ | refine cjr TT rfl ?_ | refine oj_then ?_))
  refine cj_if rfl (fun h=>?_) (fun h=>?_)
  rotate_left
  · have hk0:k=ids.length:=by have:=of_decide_eq_false h;omega
    rw [hk0,List.drop_length] at hd
    rw [hd]
    (repeat (first | refine cj_seq ?_ | refine cjr TT rfl ?_ | refine oj_then ?_ | refine cj_exit ?_ | refine cj_ret ?_ | refine nj_then ?_ | refine nj_then_exit ?_ | refine nj_block_out ?_))
    refine nj_seal 0 rfl rfl fun s2 hle2 hS=>?_
    refine nj_ret TT rfl fun β w' _ _=>?_
    exact ⟨bo,bc,rfl,ln_sealed hS (by omega)⟩
  have hkl:k<ids.length:=by have:=of_decide_eq_true h;omega
  have hrow:=idRows_get (List.getElem?_eq_getElem hkl)
  rw [List.drop_eq_getElem_cons hkl] at hd
  generalize ids[k]=id at *
  rw [dropAllG] at hd
  (repeat (first | refine cj_seq ?_ | refine cjr TT rfl ?_ | refine cj_skip ?_ | refine cj_block ?_ | refine nj_then ?_))
  refine oj_idx TT rfl rfl rfl rfl rfl rfl rfl rfl rfl HI (by omega) hrow (oj_run TT rfl ?_)
  (repeat (first | refine cj_seq ?_ | refine cjr TT rfl ?_ | refine oj_then ?_))
  refine oj_peekP rfl rfl rfl rfl rfl Tryz.call176 (by (repeat' (first | exact trivial | refine AllLt.of ?_ | constructor))) (fun σ' h1 h2=>id_c σ' cur (by omega) bo bc next (ln_sealed (h2 0 _ rfl) (by omega)) id) fun v hv=>⟨.a (.v (.int .i64 (idG cur id))),trivial,hv.symm,?_⟩
  refine oj_run TT rfl ?_
  have hb:=idG_bd cur id
  (repeat (first | refine cj_seq ?_ | refine cjr TT rfl ?_ | refine oj_then ?_))
  refine cj_if rfl (fun h=>?_) (fun h=>?_)
  · have h:idG cur id<0:=of_decide_eq_true h
    have e:dropOneG cur id=none:=by unfold dropOneG;rw [if_pos h]
    rw [hd,e]
    (repeat (first | refine cj_seq ?_ | refine cjr TT rfl ?_ | refine oj_then ?_ | refine cj_ret ?_ | refine nj_then_ret ?_ | refine nj_block_ret ?_))
    refine nj_ret TT rfl fun β w' _ _=>?_
    rfl
  have h:¬ idG cur id<0:=of_decide_eq_false h
  obtain ⟨j,hj⟩:∃ j:Nat,idG cur id=j:=⟨(idG cur id).toNat,by omega⟩
  have hjl:j<cur.length:=by omega
  have hxj:=List.getElem?_eq_getElem hjl
  have hcj:=hc _ (List.getElem_mem hjl)
  have e:dropOneG cur id=if cur[j].cnt - 1=0 then some (cur.eraseIdx j) else some (cur.set j cur[j].less):=by
    unfold dropOneG
    rw [if_neg h,hj,Int.toNat_natCast,hxj]
  rw [e] at hd
  rw [hj]
  have hcs:∀ x∈cur.set j cur[j].less,-1000000 - ((k+1:Nat):Int)<=x.cnt/\x.cnt<=1000000:=fun x hx=>by
    rcases List.mem_or_eq_of_mem_set hx with hx | hx
    · have:=hc x hx
      omega
    · subst hx
      show -1000000 - ((k+1:Nat):Int)<=cur[j].cnt - 1/\cur[j].cnt - 1<=1000000
      omega
  generalize cur[j]=x at *
  refine cj_arrAt 0 (E:=lnE bo bc cur) rfl (show 0<cur.length by omega) fun gb hgb=>?_
  have hgb:bo=some ⟨gb,0,none⟩:=hgb
  subst hgb
  have had:∀ q:Nat,some (SV.a (AT.v (.pointer (some (Addr.add (Addr.add ⟨gb,0,none⟩ ((j:Int).toNat*3)) q)))))=some (SV.a (AT.v (.pointer (some ⟨gb,j*3+q,none⟩)))):=fun q=>by
    rw [Int.toNat_natCast,add0,Addr.add_lit]
  have hxj':(cur.set j x.less)[j]?=some x.less:=by rw [List.getElem?_set,if_pos rfl,if_pos hjl]
  have hsl:(cur.set j x.less).length=cur.length:=List.length_set ..
  (repeat (first | refine cj_seq ?_ | refine cjr TT rfl ?_ | refine cj_skip ?_ | refine nj_then ?_))
  refine oj_indexAddr TT rfl rfl rfl rfl rfl rfl rfl rfl rfl ⟨by omega,by omega⟩ (oj_run TT rfl ?_)
  refine oj_ldA 0 (off:=j*3+2) (c:=.v (.int .i64 x.cnt)) TT rfl rfl rfl rfl rfl (had 2) rfl rfl rfl rfl (lnXs_get hxj rfl) trivial (oj_run TT rfl ?_)
  refine oj_minus rfl rfl rfl rfl rfl rfl (by omega) (oj_run TT rfl ?_)
  refine oj_indexAddr TT rfl rfl rfl rfl rfl rfl rfl rfl rfl ⟨by omega,by omega⟩ (oj_run TT rfl ?_)
  refine oj_stA 0 (off:=j*3+2) (A':=[lnE (some ⟨gb,0,none⟩) bc (cur.set j x.less)]) TT rfl rfl rfl rfl (had 2) rfl rfl rfl rfl rfl (by show j*3+2<cur.length*3;omega) trivial rfl ?_ (oj_run TT rfl ?_)
  · show [_]=[_]
    unfold lnE
    rw [<-lnXs_set (j:=2) (r':=x.less) (.v (.int .i64 (x.cnt - 1))) hxj (by omega) rfl,hsl]
  (repeat (first | refine cj_seq ?_ | refine cjr TT rfl ?_ | refine oj_then ?_))
  refine oj_indexAddr TT rfl rfl rfl rfl rfl rfl rfl rfl rfl ⟨by omega,by omega⟩ (oj_run TT rfl ?_)
  refine oj_ldA 0 (off:=j*3+2) (c:=.v (.int .i64 (x.cnt - 1))) TT rfl rfl rfl rfl rfl (had 2) rfl rfl rfl rfl (lnXs_get (j:=2) hxj' rfl) trivial (oj_run TT rfl ?_)
  (repeat refine oj_then ?_)
  refine cj_if rfl (fun h0=>?_) (fun h0=>?_)
  · have h0:x.cnt - 1=0:=of_decide_eq_true h0
    rw [if_pos h0] at hd
    have hrl:(lnRows (cur.set j x.less)).length=cur.length:=by simp [lnRows]
    have hdel:=DeleteLn_c s (lnRows (cur.set j x.less)) (fun r hr=>⟨(lnRows_all _ r hr).1,(lnRows_all _ r hr).2.2⟩) (by omega) (some ⟨gb,0,none⟩) bc (by omega) j (j+1) (by omega) (by omega)
    rw [hrl] at hdel
    have hA0:lnE (some ⟨gb,0,none⟩) bc (cur.set j x.less)=⟨some ⟨gb,0,none⟩,cur.length,bc,211,3,(lnRows (cur.set j x.less)).flatten.map AT.val⟩:=by unfold lnE lnXs;rw [hsl]
    rw [hA0]
    have hel:(cur.eraseIdx j).length=j+(cur.length - (j+1)):=by rw [List.length_eraseIdx_of_lt hjl];omega
    have hA1:(⟨some ⟨gb,0,none⟩,j+(cur.length - (j+1)),bc,211,3,((lnRows (cur.set j x.less)).take j++(lnRows (cur.set j x.less)).drop (j+1)).flatten.map AT.val⟩:AE)=lnE (some ⟨gb,0,none⟩) bc (cur.eraseIdx j):=by
      have e1:(lnRows (cur.set j x.less)).take j++(lnRows (cur.set j x.less)).drop (j+1)=lnRows (cur.eraseIdx j):=by
        unfold lnRows
        rw [<-List.map_take,<-List.map_drop,<-List.map_append,List.take_set_of_le (Nat.le_refl j),List.drop_set_of_lt (Nat.lt_succ_self j),erase_td]
      unfold lnE lnXs
      rw [e1,hel]
    (repeat (first | refine cjr TT rfl ?_ | (refine oj_add rfl rfl rfl rfl rfl rfl (by omega) ?_;refine oj_run TT rfl ?_)))
    refine oj_callF [0] (A0:=[⟨some ⟨gb,0,none⟩,cur.length,bc,211,3,(lnRows (cur.set j x.less)).flatten.map AT.val⟩]) (Ar:=[]) rfl rfl rfl rfl rfl rfl rfl Tryz.call177 (by (repeat' (first | exact trivial | constructor))) hdel fun v σ2 A2 hle2 ⟨hv,hA⟩=>⟨.a (.v (.slice (some ⟨gb,0,none⟩) (j+(cur.length - (j+1))) bc)),trivial,hv.symm,?_⟩
    subst hA
    rw [hA1]
    refine oj_run TT rfl ?_
    (repeat (first | refine cjr TT rfl ?_ | refine oj_nil ?_ | refine nj_then ?_ | refine nj_block ?_ | (refine oj_add rfl rfl rfl rfl rfl rfl (by omega) ?_;refine oj_run TT rfl ?_)))
    refine nj_again (σ2,(⟨k+1,cur.eraseIdx j⟩:DgS)) ⟨Snap.le_trans hls hle2,hkl,by dsimp only;omega,fun y hy=>?_,hd⟩ (by dsimp only;omega) rfl (by (repeat first | exact trivial | refine ⟨rfl,?_⟩)) ?_ rfl (by (repeat' (first | exact trivial | exact Nat.le_of_ble_eq_true rfl | constructor))) (by (repeat' (first | exact trivial | exact Nat.le_of_ble_eq_true rfl | refine AllLt.of ?_ | constructor)))
    · have:=hc y (List.mem_of_mem_eraseIdx hy)
      dsimp only
      omega
    · dsimp only
      rw [hel]
      (repeat first | exact trivial | refine ⟨rfl,?_⟩)
  · have h0:¬ x.cnt - 1=0:=of_decide_eq_false h0
    rw [if_neg h0] at hd
    (repeat (first | refine cjr TT rfl ?_ | refine oj_nil ?_ | refine cj_skip ?_ | refine nj_then ?_ | refine nj_block ?_ | (refine oj_add rfl rfl rfl rfl rfl rfl (by omega) ?_;refine oj_run TT rfl ?_)))
    refine nj_again (s,(⟨k+1,cur.set j x.less⟩:DgS)) ⟨hls,hkl,by dsimp only;omega,hcs,hd⟩ (by dsimp only;omega) rfl (by (repeat first | exact trivial | refine ⟨rfl,?_⟩)) ?_ rfl (by (repeat' (first | exact trivial | exact Nat.le_of_ble_eq_true rfl | constructor))) (by (repeat' (first | exact trivial | exact Nat.le_of_ble_eq_true rfl | refine AllLt.of ?_ | constructor)))
    dsimp only
    rw [hsl]
    (repeat first | exact trivial | refine ⟨rfl,?_⟩)
end Go.Sy
/- Regions over a base: quiet reads of bytes; calls behind which the base is what is known then. No program in sight. -/
namespace Go.Sy
section
variable {cf:Cf} {Q:Exit->Act->World->Prop} {σ σb:Snap} {env:Env} {hp hpb:HP} {A:List AE} {nh nb:Nat} {ops:Array Oper} {U bef:List Nat} {n:Nat} {listed:Array Bool}
theorem gb_quiet {i d:Nat} {o:Oper} (y:SV) (hi:ops[i]?=some o) (hr:(Region.ready .any ops listed).contains i=true) (hf:Region.free .any ops listed i=true) (hk:U.contains i=false)
    (hd:o.dst=some d) (hg:guardVal (slotOf ops o) env=some true) (hN:Nat.blt d cf.N=true) (hy:y.lt nh)
    (hrun:∀ a β,StA cf env β a->∀ w,StW cf σb hpb [] β w->(execOp a.eval o).run cf.P w=.ok (.value (y.den β)) w)
    (k:GB cf ops U (bef++[i]) σb hpb nb n (listed.setIfInBounds i true) Q σ ((d,y)::env) hp A nh):GB cf ops U bef σb hpb nb (n+1) listed Q σ env hp A nh:=by
  refine ⟨fun hs hb hbb hnb hle hsub a β ha hex hex0 hc=>?_⟩
  obtain ⟨w0,hw0⟩:=id hex0
  have hN':d<cf.N:=by simpa [Nat.blt_eq] using hN
  have hr':i∈Region.ready .any ops listed:=by simpa using hr
  have hw:Region.wanted o (yielded ops a.tmps)=true:=by rw [<-wantedS_slotOf];exact guardVal_ok ha hg
  have hrest:=k.run hs (hb.put hy d) hbb hnb hle hsub _ β (ha.put hN' y) hex hex0 (hc.set hr')
  exact wpAnyC_first hi (Region.noSelect_spec hs) n listed a _ _ hc (fun y hy=>hw0.base hle hsub hy) (Region.free_spec hi hf) hr' ⟨.inl ⟨hw,fun w hE0=>.inl (hrun a β ha w hE0)⟩,fun hu=>absurd (List.contains_iff_mem.2 hu) (by rw [hk];decide)⟩ (by rw [hd];exact hrest)
end
end Go.Sy
namespace Go.Sy
open Go.Proofs
theorem dropOne_mem {xs ys:List GLine} {id:Int} (h:dropOneG xs id=some ys):∀ y∈ys,∃ x∈xs,y.id=x.id/\y.ao=x.ao/\y.cap=x.cap/\y.st=x.st/\(y.cnt=x.cnt\/y.cnt=x.cnt - 1):=by
  unfold dropOneG at h
  split at h
  · cases h
  split at h
  · cases h
  · rename_i x hx
    have hxm:=List.mem_of_getElem? hx
    split at h
    · injection h with h
      subst h
      exact fun y hy=>⟨y,List.mem_of_mem_eraseIdx hy,rfl,rfl,rfl,rfl,.inl rfl⟩
    · injection h with h
      subst h
      intro y hy
      rcases List.mem_or_eq_of_mem_set hy with hy | hy
      · exact ⟨y,hy,rfl,rfl,rfl,rfl,.inl rfl⟩
      · subst hy
        exact ⟨x,hxm,rfl,rfl,rfl,rfl,.inr rfl⟩
theorem dropAll_mem:∀ {ids:List Int} {xs ys:List GLine},dropAllG xs ids=some ys->∀ y∈ys,∃ x∈xs,y.id=x.id/\y.ao=x.ao/\y.cap=x.cap/\y.st=x.st
  | [],xs,ys,h=>by
    injection h with h
    subst h
    exact fun y hy=>⟨y,hy,rfl,rfl,rfl,rfl⟩
  | id::ids,xs,ys,h=>by
    rw [dropAllG] at h
    cases h1:dropOneG xs id with
    | none=>rw [h1] at h;cases h
    | some zs =>
      rw [h1] at h
      have h:dropAllG zs ids=some ys:=h
      intro y hy
      obtain ⟨z,hz,e1,e2,e3,e4⟩:=dropAll_mem h y hy
      obtain ⟨x,hx,f1,f2,f3,f4,-⟩:=dropOne_mem h1 z hz
      exact ⟨x,hx,e1.trans f1,e2.trans f2,e3.trans f3,e4.trans f4⟩
theorem LnOk.of {σ:Snap} {x y:GLine} (h:LnOk σ x) (h1:y.ao=x.ao) (h2:y.cap=x.cap) (h3:y.st=x.st):LnOk σ y:=by
  unfold LnOk at h ⊢
  rw [h1,h2,h3]
  exact h
theorem erase_do (l:List GDoc) (p:Nat):(doRows l).take p++(doRows l).drop (p+1)=doRows (l.eraseIdx p):=by
  unfold doRows
  rw [<-List.map_take,<-List.map_drop,<-List.map_append,<-List.eraseIdx_eq_take_drop_succ]
theorem erase_li (l:List GDoc) (p:Nat):(liRows l).take p++(liRows l).drop (p+1)=liRows (l.eraseIdx p):=by
  unfold liRows
  rw [<-List.map_take,<-List.map_drop,<-List.map_append,<-List.eraseIdx_eq_take_drop_succ]
inductive DropR (X:GIx) (id:Int):GIx->Int->Prop
  | away (p:Nat) (h:PlaceAt X.ds id p) (h2:isAt X.ds id p=false):DropR X id ix0 6
  | lines (p:Nat) (h:PlaceAt X.ds id p) (d:GDoc) (h2:X.ds[p]?=some d) (h3:d.id=id) (h4:dropAllG X.xs d.ids=none):DropR X id ix0 6
  | ok (p:Nat) (h:PlaceAt X.ds id p) (d:GDoc) (h2:X.ds[p]?=some d) (h3:d.id=id) (X':GIx) (h4:dropAllG X.xs d.ids=some X'.xs) (h5:X'.ds=X.ds.eraseIdx p) (h6:X'.next=X.next):DropR X id X' 0
section
variable {cf:Cf} {Q:Exit->Act->World->Prop} {σ σb:Snap} {env:Env} {hp hpb:HP} {A:List AE} {nh nb:Nat}
theorem gb_add {ops:Array Oper} {U bef:List Nat} {n:Nat} {listed:Array Bool} {i d:Nat} {o:Oper} {x y:Operand} {xt yt:TypeId} {m k':Int} (hop:o.op=.binOp .add xt x y yt) (hi:ops[i]?=some o) (hr:(Region.ready .any ops listed).contains i=true) (hf:Region.free .any ops listed i=true) (hk:U.contains i=false)
    (hd:o.dst=some d) (hg:guardVal (slotOf ops o) env=some true) (hN:Nat.blt d cf.N=true) (hx:evalO env x=some (.a (.v (.int .i64 m)))) (hy:evalO env y=some (.a (.v (.int .i64 k')))) (hb:-9223372036854775808<=m+k'/\m+k'<=9223372036854775807)
    (k:GB cf ops U (bef++[i]) σb hpb nb n (listed.setIfInBounds i true) Q σ ((d,.a (.v (.int .i64 (m+k'))))::env) hp A nh):GB cf ops U bef σb hpb nb (n+1) listed Q σ env hp A nh :=
  gb_quiet (.a (.v (.int .i64 (m+k')))) hi hr hf hk hd hg hN trivial (fun a β ha w _=>by
    have h1:a.eval x=.int .i64 m:=evalO_eval ha hx
    have h2:a.eval y=.int .i64 k':=evalO_eval ha hy
    simp only [execOp,hop,h1,h2,eqGuard_at_int,Sem.run_bind,Sem.run_pure,Result.andThen_ok,run_add (IntWalk.i64_in _ hb)]
    rfl) k
end
structure DrS where
  σ:Snap
  bo:Option Addr
  n:Nat
  bc:Nat
  nx:Int
  e:Int
set_option maxRecDepth 100000 in
set_option maxHeartbeats 8000000 in
theorem IxDrop_c (σ:Snap) (X:GIx) (IX:IxAt σ X) (hl:X.ds.length<=1000000) (ho:X.ds.Pairwise fun x y=>x.id<y.id) (hxl:X.xs.length<=1000000) (hxc:∀ x∈X.xs,-1000000<=x.cnt/\x.cnt<=1000000) (hil:∀ d∈X.ds,d.ids.length<=1000000) (id:Int) :
    PureS Tryz.prog 41 [.agg (ixCells X),.a (.v (.int .i64 id))] σ (fun v σ'=>∃ (X':GIx) (e:Int),v=(SV.tup [.agg (ixCells X'),.a (.v (.int .i64 e))]).den β0/\IxAt σ' X'/\DropR X id X' e):=by
  refine enter_s Tryz.func41 rfl rfl ⟨ixCells_lt 0 X,trivial,trivial⟩ fun w=>?_
  (repeat (first | refine cj_seq ?_ | refine cjr TT rfl ?_ | refine oj_then ?_))
  refine oj_set 11 (.agg (ixCells X)) rfl (ixCells_lt _ _) (fun _=>rfl) ?_
  refine oj_callP (ys:=[.agg (ixCells X),.a (.v (.int .i64 id))]) rfl rfl rfl rfl rfl Tryz.call102 ⟨ixCells_lt 0 X,trivial,trivial⟩ (place_c σ X IX.docs hl ho id) fun v ⟨p,hv,hp⟩=>⟨.tup [.a (.v (.int .i64 p)),.a (.b (isAt X.ds id p))],(by (repeat' (first | exact trivial | refine SV.lt_tup ?_ | constructor))),hv.symm,?_⟩
  refine oj_run TT rfl ?_
  (repeat (first | refine cj_seq ?_ | refine cjr TT rfl ?_ | refine oj_then ?_))
  refine oj_split 18 rfl (fun h=>?_) (fun h=>?_)
  · have h:isAt X.ds id p=false:=by simpa using h
    refine oj_run TT rfl ?_
    (repeat (first | refine cj_seq ?_ | refine cjr TT rfl ?_ | refine oj_then ?_ | refine cj_if_t rfl ?_ | refine cj_ret ?_ | refine nj_then_ret ?_))
    refine nj_ret TT rfl fun β w' _ _=>?_
    exact ⟨ix0,6,rfl,ix0_at _,.away p hp h⟩
  have h:isAt X.ds id p=true:=by simpa using h
  obtain ⟨d,hd,hid⟩:∃ d,X.ds[p]?=some d/\d.id=id:=by
    unfold isAt at h
    cases hd:X.ds[p]? with
    | none=>rw [hd] at h;cases h
    | some d=>rw [hd] at h;exact ⟨d,rfl,by simpa using h⟩
  have hpl:=(List.getElem?_eq_some_iff.1 hd).1
  have hrow2:=liRows_get hd
  have hdd:=IX.doc d (List.mem_of_getElem? hd)
  refine oj_run TT rfl ?_
  (repeat refine oj_then ?_)
  refine cj_if rfl (fun h=>absurd (of_decide_eq_true (show decide ((X.ds.length:Int)<=p)=true from h)) (by omega)) (fun _=>?_)
  have hgd:=guideDrop_c σ X.xs hxl X.next X.go X.gc IX.gl hxc d.ids (hil d (List.mem_of_getElem? hd)) d.lo d.lcap hdd.2
  (repeat (first | refine cj_seq ?_ | refine cj_skip ?_ | refine nj_then ?_))
  refine cj_cutN (fun (t:DrS)=>t.σ) (fun t=>[(2,.a (.p 0 0)),(4,.a (.p 1 0)),(6,.a (.v (.int .i64 p))),(8,.a (.p 3 0)),(9,.a (.v (.int .i64 t.e)))]) (fun t=>[(0,.loc 60,ixCells X),(1,.loc 60,ixCells ix0),(3,.loc 57,[.v (.slice t.bo t.n t.bc),.v (.int .i64 t.nx)])]) (fun _=>[]) 4
    (fun t=>σ.le t.σ/\match dropAllG X.xs d.ids with
      | none=>t.e=6
      | some ys=>t.n=ys.length/\t.nx=X.next/\t.e=0/\SlAt t.σ t.bo ys.length t.bc 3 (lnRows ys)) ?_ (fun ⟨s1,bo,n,bc,nx,e⟩ ⟨hle1,ht⟩=>?_)
  · have hgd2:PureS Tryz.prog 112 [.agg [.v (.slice X.go X.xs.length X.gc),.v (.int .i64 X.next)],.a (.v (.slice d.lo d.ids.length d.lcap))] σ (fun v σ'=>∃ t:DrS,t.σ=σ'/\v=(SV.tup [.agg [.v (.slice t.bo t.n t.bc),.v (.int .i64 t.nx)],.a (.v (.int .i64 t.e))]).den β0/\match dropAllG X.xs d.ids with
        | none=>t.e=6
        | some ys=>t.n=ys.length/\t.nx=X.next/\t.e=0/\SlAt t.σ t.bo ys.length t.bc 3 (lnRows ys)):=fun w hw=>Calls.mono (hgd w hw) fun e w' ⟨v,σ',h1,h2,h3,h4,hv⟩=>⟨v,σ',h1,h2,h3,h4,by
      cases hq:dropAllG X.xs d.ids with
      | none =>
        rw [hq] at hv
        exact ⟨⟨σ',none,0,0,0,6⟩,rfl,hv,rfl⟩
      | some ys =>
        rw [hq] at hv
        obtain ⟨bo,bc,hv,HY⟩:=hv
        exact ⟨⟨σ',bo,ys.length,bc,X.next,0⟩,rfl,hv,rfl,rfl,rfl,HY⟩⟩
    refine cj_drawG 14 [0,2,4,5,8,9,10,13] mixed (by kernel_rfl) rfl ?_
    refine gj_val (i:=0) TT rfl (by kernel_rfl) (by kernel_rfl) rfl rfl rfl rfl rfl ?_
    refine gj_val (i:=1) TT rfl (by kernel_rfl) (by kernel_rfl) rfl rfl rfl rfl rfl ?_
    refine gj_val (i:=2) TT rfl (by kernel_rfl) (by kernel_rfl) rfl rfl rfl rfl rfl ?_
    refine gj_val (i:=3) TT rfl (by kernel_rfl) (by kernel_rfl) rfl rfl rfl rfl rfl ?_
    refine gj_val (i:=4) TT rfl (by kernel_rfl) (by kernel_rfl) rfl rfl rfl rfl rfl ?_
    refine gj_idx (i:=5) TT rfl rfl (by kernel_rfl) (by kernel_rfl) rfl rfl rfl rfl rfl rfl rfl rfl rfl IX.lines (by omega) hrow2 ?_
    refine gj_val (i:=6) TT rfl (by kernel_rfl) (by kernel_rfl) rfl rfl rfl rfl rfl ?_
    refine gj_two (i:=7) (j:=11) (by kernel_rfl) ?_ ?_
    · refine gk_call rfl rfl rfl rfl rfl Tryz.call112 (by (repeat' (first | exact trivial | refine AllLt.of ?_ | constructor))) hgd2 fun v s1 hle1 ⟨t,hts,hv,ht⟩=>⟨.tup [.agg [.v (.slice t.bo t.n t.bc),.v (.int .i64 t.nx)],.a (.v (.int .i64 t.e))],(by (repeat' (first | exact trivial | refine AllLt.of ?_ | refine SV.lt_tup ?_ | constructor))),hv.symm,?_⟩
      subst hts
      refine gj_order [(8,.pure),(9,.pure),(10,.pure),(11,.keep),(12,.sink),(13,.pure)] rfl rfl (by kernel_rfl) ?_
      refine oj_run TT rfl ?_
      (repeat refine oj_nil ?_)
      refine nj_again t ⟨hle1,ht⟩ Nat.zero_lt_one rfl (by (repeat first | exact trivial | refine ⟨rfl,?_⟩)) (by (repeat first | exact trivial | refine ⟨rfl,?_⟩)) rfl ⟨by show 0<4;omega,by show 1<4;omega,trivial,by show 3<4;omega,trivial,trivial⟩ (by exact ⟨⟨by omega,ixCells_lt 4 X⟩,⟨by omega,ixCells_lt 4 _⟩,⟨by omega,by (repeat' (first | exact trivial | refine AllLt.of ?_ | constructor))⟩,trivial⟩)
    · refine gk_new TT rfl rfl rfl rfl rfl ?_
      refine gj_order [(7,.keep),(8,.pure),(9,.pure),(10,.pure),(12,.sink),(13,.pure)] rfl rfl (by kernel_rfl) ?_
      refine oj_callS rfl rfl rfl rfl rfl Tryz.call112 (by (repeat' (first | exact trivial | refine AllLt.of ?_ | constructor))) hgd2 fun v s1 hle1 ⟨t,hts,hv,ht⟩=>⟨.tup [.agg [.v (.slice t.bo t.n t.bc),.v (.int .i64 t.nx)],.a (.v (.int .i64 t.e))],(by (repeat' (first | exact trivial | refine AllLt.of ?_ | refine SV.lt_tup ?_ | constructor))),hv.symm,?_⟩
      subst hts
      refine oj_run TT rfl ?_
      (repeat refine oj_nil ?_)
      refine nj_again t ⟨hle1,ht⟩ Nat.zero_lt_one rfl (by (repeat first | exact trivial | refine ⟨rfl,?_⟩)) (by (repeat first | exact trivial | refine ⟨rfl,?_⟩)) rfl ⟨by show 0<4;omega,by show 1<4;omega,trivial,by show 3<4;omega,trivial,trivial⟩ (by exact ⟨⟨by omega,ixCells_lt 4 X⟩,⟨by omega,ixCells_lt 4 _⟩,⟨by omega,by (repeat' (first | exact trivial | refine AllLt.of ?_ | constructor))⟩,trivial⟩)
  dsimp only at hle1 ht ⊢
  have IX:=IX.mono hle1
  cases hq:dropAllG X.xs d.ids with
  | none =>
    rw [hq] at ht
    have ht:e=6:=ht
    subst ht
    (repeat (first | refine cj_seq ?_ | refine cjr TT rfl ?_ | refine oj_then ?_))
    refine cj_if rfl (fun _=>?_) (fun h=>absurd h (by decide))
    (repeat (first | refine cj_seq ?_ | refine cjr TT rfl ?_ | refine oj_then ?_ | refine cj_ret ?_ | refine nj_then_ret ?_))
    refine nj_ret TT rfl fun β w' _ _=>?_
    exact ⟨ix0,6,rfl,ix0_at _,.lines p hp d hd hid hq⟩
  | some ys =>
    rw [hq] at ht
    obtain ⟨rfl,rfl,rfl,HY⟩:=ht
    (repeat (first | refine cj_seq ?_ | refine cjr TT rfl ?_ | refine oj_then ?_))
    refine cj_if rfl (fun h=>absurd h (by decide)) (fun _=>?_)
    have hel:(X.ds.eraseIdx p).length=p+(X.ds.length - (p+1)):=by rw [List.length_eraseIdx_of_lt hpl];omega
    have hdr:(doRows X.ds).length=X.ds.length:=by simp [doRows]
    have hlr:(liRows X.ds).length=X.ds.length:=by simp [liRows]
    have hok:∀ (s:Snap),s1.le s->∀ y∈ys,LnOk s y:=fun s hs y hy=>by
      obtain ⟨x,hx,-,e2,e3,e4⟩:=dropAll_mem hq y hy
      exact ((IX.ok x hx).mono hs).of e2 e3 e4
    (repeat (first | refine cj_seq ?_ | refine cj_skip ?_ | refine nj_then ?_))
    refine cj_drawB 18 [0,3,4,8,11,12,15,17] [(0,.loc 60,ixCells X),(1,.loc 60,ixCells ix0),(3,.loc 57,[.v (.slice bo ys.length bc),.v (.int .i64 X.next)])] mixed (by kernel_rfl) rfl (subH_of (by (repeat first | exact trivial | refine ⟨rfl,?_⟩))) ?_
    refine gb_val (i:=0) TT rfl (by kernel_rfl) (by kernel_rfl) rfl rfl rfl rfl rfl ?_
    refine gb_val (i:=1) TT rfl (by kernel_rfl) (by kernel_rfl) rfl rfl rfl rfl rfl ?_
    refine gb_val (i:=3) TT rfl (by kernel_rfl) (by kernel_rfl) rfl rfl rfl rfl rfl ?_
    refine gb_val (i:=4) TT rfl (by kernel_rfl) (by kernel_rfl) rfl rfl rfl rfl rfl ?_
    refine gb_add (i:=5) rfl rfl (by kernel_rfl) (by kernel_rfl) rfl rfl rfl rfl rfl rfl (by omega) ?_
    refine gb_val (i:=7) TT rfl (by kernel_rfl) (by kernel_rfl) rfl rfl rfl rfl rfl ?_
    refine gb_val (i:=8) TT rfl (by kernel_rfl) (by kernel_rfl) rfl rfl rfl rfl rfl ?_
    refine gb_val (i:=9) TT rfl (by kernel_rfl) (by kernel_rfl) rfl rfl rfl rfl rfl ?_
    refine gb_val (i:=11) TT rfl (by kernel_rfl) (by kernel_rfl) rfl rfl rfl rfl rfl ?_
    refine gb_val (i:=12) TT rfl (by kernel_rfl) (by kernel_rfl) rfl rfl rfl rfl rfl ?_
    refine gb_add (i:=13) rfl rfl (by kernel_rfl) (by kernel_rfl) rfl rfl rfl rfl rfl rfl (by omega) ?_
    refine gb_one (i:=2) (by kernel_rfl) ?_
    refine gb_callF [] (A0:=[]) (Ar:=[]) rfl rfl rfl rfl rfl rfl rfl Tryz.call109 (by (repeat' (first | exact trivial | constructor))) (doClone_c s1 X.ds hl X.o X.c IX.docs) fun v s2 A2 hle2 ⟨qo,qc,hv,hqc,hA⟩=>⟨.a (.v (.slice qo X.ds.length qc)),trivial,hv.symm,?_⟩
    subst hA
    have hdel:=DeleteDo_c s2 (doRows X.ds) (fun r hr=>⟨(doRows_all _ r hr).1,(doRows_all _ r hr).2.2⟩) (by omega) qo qc (by omega) p (p+1) (by omega) (by omega)
    rw [hdr,erase_do] at hdel
    refine gb_one (i:=6) (by kernel_rfl) ?_
    refine gb_callF [0] (A0:=[⟨qo,X.ds.length,qc,90,2,(doRows X.ds).flatten.map AT.val⟩]) (Ar:=[]) rfl rfl rfl rfl rfl rfl rfl Tryz.call113 (by (repeat' (first | exact trivial | constructor))) hdel fun v s3 A3 hle3 ⟨hv,hA⟩=>⟨.a (.v (.slice qo (p+(X.ds.length - (p+1))) qc)),trivial,hv.symm,?_⟩
    subst hA
    have hle23:=Snap.le_trans hle2 hle3
    have HLn:=IX.lines.mono hle23
    refine gb_one (i:=10) (by kernel_rfl) ?_
    refine gb_callF [0] (A0:=[]) (Ar:=[⟨qo,p+(X.ds.length - (p+1)),qc,90,2,(doRows (X.ds.eraseIdx p)).flatten.map AT.val⟩]) rfl rfl rfl rfl rfl rfl rfl Tryz.call111 (by (repeat' (first | exact trivial | constructor))) (liClone_c s3 X.ds hl X.lo X.lc HLn) fun v s4 A4 hle4 ⟨ro,rc,hv,hrc,hA⟩=>⟨.a (.v (.slice ro X.ds.length rc)),trivial,hv.symm,?_⟩
    subst hA
    have hdel2:=DeleteLi_c s4 (liRows X.ds) (fun r hr=>⟨(liRows_all _ r hr).1,(liRows_all _ r hr).2.2⟩) (by omega) ro rc (by omega) p (p+1) (by omega) (by omega)
    rw [hlr,erase_li] at hdel2
    refine gb_one (i:=14) (by kernel_rfl) ?_
    refine gb_callF [0,1] (A0:=[⟨ro,X.ds.length,rc,74,1,(liRows X.ds).flatten.map AT.val⟩]) (Ar:=[⟨qo,p+(X.ds.length - (p+1)),qc,90,2,(doRows (X.ds.eraseIdx p)).flatten.map AT.val⟩]) rfl rfl rfl rfl rfl rfl rfl Tryz.call114 (by (repeat' (first | exact trivial | constructor))) hdel2 fun v s5 A5 hle5 ⟨hv,hA⟩=>⟨.a (.v (.slice ro (p+(X.ds.length - (p+1))) rc)),trivial,hv.symm,?_⟩
    subst hA
    refine gb_order [(15,.pure),(16,.sink),(17,.pure)] rfl rfl (by kernel_rfl) ?_
    refine oj_run TT rfl ?_
    (repeat (first | refine oj_then ?_ | refine cj_ret ?_))
    refine nj_seal 0 rfl rfl fun s6 hle6 hS1=>?_
    refine nj_seal 0 rfl rfl fun s7 hle7 hS2=>?_
    have hle:=Snap.le_trans hle23 (Snap.le_trans hle4 (Snap.le_trans hle5 (Snap.le_trans hle6 hle7)))
    rw [<-hel] at hS1 hS2 ⊢
    have HL2:SlAt s7 ro (X.ds.eraseIdx p).length rc 1 (liRows (X.ds.eraseIdx p)):=(li_sealed (l:=X.ds.eraseIdx p) (cap:=rc) hS1 (by omega)).mono hle7
    have HD2:SlAt s7 qo (X.ds.eraseIdx p).length qc 2 (doRows (X.ds.eraseIdx p)):=do_sealed (l:=X.ds.eraseIdx p) (cap:=qc) hS2 (by omega)
    refine nj_ret TT rfl fun β w' _ _=>?_
    refine ⟨⟨X.ds.eraseIdx p,qo,qc,ys,bo,bc,X.next,ro,rc⟩,0,rfl,⟨HD2,HL2,HY.mono hle,hok s7 hle,fun e he=>?_⟩,.ok p hp d hd hid _ hq rfl rfl⟩
    have:=IX.doc e (List.mem_of_mem_eraseIdx he)
    exact ⟨this.1.mono hle,this.2.mono hle⟩
end Go.Sy
/- Plain law: paths that are counted, and dropped, leave the lines as they were. No program in sight but for what it computes. -/
namespace Go.Sy
def dropRec:List GLine->Int->Option (List GLine)
  | [],_=>none
  | x::l,id=>if x.id=id then (if x.cnt - 1=0 then some l else some (x.less::l)) else (dropRec l id).map (x::·)
theorem dropRec_none:∀ {l:List GLine} {id:Int} {k:Nat},findG (fun x=>decide (x.id=id)) l k<0->dropRec l id=none
  | [],_,_,_=>rfl
  | x::l,id,k,h=>by
    have h0:=findG_neg h x List.mem_cons_self
    have h0:x.id≠id:=by simpa using h0
    simp only [findG] at h
    rw [if_neg (by simpa using h0)] at h
    rw [dropRec,if_neg h0,dropRec_none h]
    rfl
theorem dropRec_some:∀ {l:List GLine} {id:Int} {k j:Nat},findG (fun x=>decide (x.id=id)) l k=(k+j:Nat)->∃ x,l[j]?=some x/\dropRec l id=if x.cnt - 1=0 then some (l.eraseIdx j) else some (l.set j x.less)
  | [],_,_,_,h=>by simp only [findG] at h;omega
  | x::l,id,k,j,h=>by
    simp only [findG] at h
    split at h
    · rename_i hx
      have hx:x.id=id:=by simpa using hx
      have:j=0:=by omega
      subst this
      refine ⟨x,rfl,?_⟩
      rw [dropRec,if_pos hx]
      rfl
    · rename_i hx
      have hx:x.id≠id:=by simpa using hx
      have hb:=findG_ge (fun x:GLine=>decide (x.id=id)) l (k+1)
      obtain ⟨j,rfl⟩:∃ i,j=i+1:=⟨j - 1,by omega⟩
      obtain ⟨y,h1,h2⟩:=dropRec_some (l:=l) (k:=k+1) (j:=j) (by rw [h];congr 1;omega)
      refine ⟨y,h1,?_⟩
      rw [dropRec,if_neg hx,h2]
      split<;>rfl
theorem dropOne_rec (l:List GLine) (id:Int):dropOneG l id=dropRec l id:=by
  unfold dropOneG
  have hb:=idG_bd l id
  split
  · rename_i h
    exact (dropRec_none h).symm
  · rename_i h
    obtain ⟨j,hj⟩:∃ j:Nat,idG l id=j:=⟨(idG l id).toNat,by omega⟩
    obtain ⟨x,h1,h2⟩:=dropRec_some (k:=0) (j:=j) (by rw [Nat.zero_add];exact hj)
    rw [hj,Int.toNat_natCast,h1,h2]
def GLine.at_ (x:GLine) (c:Int):GLine:={ x with cnt:=c }
def shown:List GLine->(Int->Int)->List GLine
  | [],_=>[]
  | x::l,c=>if 0<c x.id then x.at_ (c x.id)::shown l c else shown l c
def lessAt (c:Int->Int) (id:Int):Int->Int:=fun i=>if i=id then c i - 1 else c i
theorem shown_congr:∀ {l:List GLine} {c d:Int->Int},(∀ x∈l,c x.id=d x.id)->shown l c=shown l d
  | [],_,_,_=>rfl
  | x::l,c,d,h=>by
    rw [shown,shown,h x List.mem_cons_self,shown_congr fun y hy=>h y (List.mem_cons_of_mem x hy)]
theorem shown_drop:∀ {l:List GLine} {c:Int->Int} {id:Int},(l.map GLine.id).Nodup->id∈l.map GLine.id->0<c id->dropRec (shown l c) id=some (shown l (lessAt c id))
  | [],_,_,_,h,_=>by simp at h
  | x::l,c,id,hn,hm,hc=>by
    rw [List.map_cons,List.nodup_cons] at hn
    rw [shown,shown]
    by_cases hx:x.id=id
    · subst hx
      have hrest:shown l (lessAt c x.id)=shown l c:=shown_congr fun y hy=>by
        unfold lessAt
        rw [if_neg]
        intro e
        exact hn.1 (by rw [<-e];exact List.mem_map_of_mem hy)
      have hl:lessAt c x.id x.id=c x.id - 1:=by unfold lessAt;rw [if_pos rfl]
      rw [if_pos hc,dropRec,if_pos (show (x.at_ (c x.id)).id=x.id from rfl),hrest,hl]
      show (if c x.id - 1=0 then some (shown l c) else some ((x.at_ (c x.id)).less::shown l c))=_
      by_cases h0:c x.id - 1=0
      · rw [if_pos h0,if_neg (by omega)]
      · rw [if_neg h0,if_pos (by omega)]
        rfl
    · have hm:id∈l.map GLine.id:=by
        rw [List.map_cons,List.mem_cons] at hm
        exact hm.resolve_left fun e=>hx e.symm
      have ih:=shown_drop hn.2 hm hc
      have hl:lessAt c id x.id=c x.id:=by unfold lessAt;rw [if_neg hx]
      rw [hl]
      by_cases h0:0<c x.id
      · rw [if_pos h0,if_pos h0,dropRec,if_neg (show (x.at_ (c x.id)).id≠id from hx),ih]
        rfl
      · rw [if_neg h0,if_neg h0,ih]
def cntId (l:List Int) (id:Int):Int:=(l.countP fun x=>decide (x=id):Nat)
theorem cntId_cons (x:Int) (l:List Int) (id:Int):cntId (x::l) id=cntId l id+if x=id then 1 else 0:=by
  unfold cntId
  rw [List.countP_cons]
  by_cases h:x=id
  · rw [if_pos (by simpa using h),if_pos h];simp
  · rw [if_neg (by simpa using h),if_neg h];simp
theorem cntId_append (a b:List Int) (id:Int):cntId (a++b) id=cntId a id+cntId b id:=by
  unfold cntId
  rw [List.countP_append]
  simp
theorem cntId_nonneg (l:List Int) (id:Int):0<=cntId l id:=by unfold cntId;omega
theorem shown_all:∀ {ids:List Int} {l:List GLine} {c:Int->Int},(l.map GLine.id).Nodup->(∀ id∈ids,id∈l.map GLine.id)->(∀ i,0<=c i)->dropAllG (shown l fun i=>c i+cntId ids i) ids=some (shown l c)
  | [],l,c,_,_,_=>by
    rw [dropAllG]
    congr 1
    exact shown_congr fun x _=>by show c x.id+cntId [] x.id=_;unfold cntId;simp
  | id::ids,l,c,hn,hm,hc=>by
    have hid:=hm id List.mem_cons_self
    have h1:=cntId_cons id ids id
    rw [if_pos rfl] at h1
    have h2:=cntId_nonneg ids id
    have h3:=hc id
    rw [dropAllG,dropOne_rec,shown_drop hn hid (by show 0<c id+cntId (id::ids) id;omega)]
    show dropAllG (shown l (lessAt (fun i=>c i+cntId (id::ids) i) id)) ids=_
    rw [shown_congr (d:=fun i=>c i+cntId ids i) (fun x _=>?_)]
    · exact shown_all hn (fun i hi=>hm i (List.mem_cons_of_mem id hi)) hc
    · unfold lessAt
      dsimp only
      rw [cntId_cons]
      by_cases h:x.id=id
      · rw [if_pos h,if_pos h.symm];omega
      · rw [if_neg h,if_neg (fun e=>h e.symm)];omega
def baseC (xs:List GLine) (i:Int):Int:=if 0<=i then ((xs[i.toNat]?).map GLine.cnt).getD 0 else 0
structure AddR (xs:List GLine) (s:GSt):Prop where
  inv:GInv s
  pre:∀ (j:Nat) x,xs[j]?=some x->∃ y,s.xs[j]?=some y/\y.id=x.id/\y.ao=x.ao/\y.cap=x.cap/\y.st=x.st
  cnt:∀ y∈s.xs,y.cnt=baseC xs y.id+cntId s.ids y.id
  ids:∀ i∈s.ids,i∈s.xs.map GLine.id
theorem AddR.start {xs:List GLine} {next:Int} (h:GInv ⟨xs,next,[]⟩):AddR xs ⟨xs,next,[]⟩ :=
  ⟨h,fun j x hx=>⟨x,hx,rfl,rfl,rfl,rfl⟩,fun y hy=>by
    obtain ⟨j,hj⟩:=List.mem_iff_getElem?.1 hy
    have e:=(h.at_ j y hj).1
    have hj:xs[j]?=some y:=hj
    unfold baseC cntId
    rw [e,if_pos (by omega),Int.toNat_natCast,hj]
    simp,fun i hi=>by cases hi⟩
theorem AddR.step {xs:List GLine} {s:GSt} (h:AddR xs s) (p:SRow):AddR xs (addOne s p):=by
  have hI:=(addOne_spec h.inv p).1
  have hbd:=lineG_bd s.xs p.ss
  by_cases hn:lineG s.xs p.ss<0
  · have hlen:xs.length<=s.xs.length:=by
      apply Classical.byContradiction
      intro hl
      obtain ⟨y,hy,-⟩:=h.pre s.xs.length _ (List.getElem?_eq_getElem (by omega))
      have:=(List.getElem?_eq_some_iff.1 hy).1
      omega
    rw [addOne_new hn] at hI ⊢
    have hnx:=h.inv.next
    have hnid:∀ y∈s.xs,y.id≠s.next:=fun y hy e=>by
      obtain ⟨j,hj⟩:=List.mem_iff_getElem?.1 hy
      have h1:=(h.inv.at_ j y hj).1
      have h2:=(List.getElem?_eq_some_iff.1 hj).1
      omega
    have hni:s.next∉s.ids:=fun hi=>by
      obtain ⟨y,hy,e⟩:=List.mem_map.1 (h.ids _ hi)
      exact hnid y hy e
    refine ⟨hI,fun j x hx=>?_,fun y hy=>?_,fun i hi=>?_⟩
    · obtain ⟨y,hy,e⟩:=h.pre j x hx
      exact ⟨y,by dsimp only;rw [List.getElem?_append_left (List.getElem?_eq_some_iff.1 hy).1];exact hy,e⟩
    · dsimp only at hy ⊢
      rw [cntId_append,cntId_cons]
      rcases List.mem_append.1 hy with hy | hy
      · rw [h.cnt y hy,if_neg (fun e=>hnid y hy e.symm)]
        unfold cntId
        simp
      · rw [List.mem_singleton] at hy
        subst hy
        have e0:baseC xs s.next=0:=by
          unfold baseC
          rw [hnx,if_pos (by omega),Int.toNat_natCast,List.getElem?_eq_none (by omega)]
          rfl
        have e1:cntId s.ids s.next=0:=by
          unfold cntId
          rw [List.countP_eq_zero.2 (fun x hx=>by simp;intro e;exact hni (e▸hx))]
          rfl
        show (0:Int)+1=baseC xs s.next+(cntId s.ids s.next+(cntId [] s.next+if s.next=s.next then 1 else 0))
        rw [e0,e1,if_pos rfl]
        unfold cntId
        simp
    · dsimp only at hi ⊢
      rw [List.map_append,List.mem_append]
      rcases List.mem_append.1 hi with hi | hi
      · exact .inl (h.ids i hi)
      · rw [List.mem_singleton] at hi
        subst hi
        exact .inr (by simp [newLn,GLine.more])
  · obtain ⟨j,hj⟩:∃ j:Nat,lineG s.xs p.ss=j:=⟨(lineG s.xs p.ss).toNat,by omega⟩
    obtain ⟨x,hx,-⟩:=lineG_at hj
    have hlt:=(List.getElem?_eq_some_iff.1 hx).1
    rw [addOne_old hj hx] at hI ⊢
    have hself:(s.xs.set j x.more)[j]?=some x.more:=by rw [List.getElem?_set,if_pos rfl,if_pos hlt]
    have hxid:=(h.inv.at_ j x hx).1
    have hmapid:(s.xs.set j x.more).map GLine.id=s.xs.map GLine.id:=by
      rw [List.map_set]
      apply List.ext_getElem?
      intro i
      rw [List.getElem?_set]
      split
      · rename_i hji
        subst hji
        rw [if_pos (by simpa using hlt),List.getElem?_map,hx]
        rfl
      · rfl
    refine ⟨hI,fun i z hz=>?_,fun y hy=>?_,fun i hi=>?_⟩
    · obtain ⟨y,hy,e1,e2,e3,e4⟩:=h.pre i z hz
      dsimp only
      by_cases hij:j=i
      · subst hij
        rw [hx] at hy
        obtain rfl:=Option.some.inj hy
        exact ⟨x.more,hself,e1,e2,e3,e4⟩
      · exact ⟨y,by rw [List.getElem?_set,if_neg hij];exact hy,e1,e2,e3,e4⟩
    · dsimp only at hy ⊢
      obtain ⟨i,hi⟩:=List.mem_iff_getElem?.1 hy
      rw [cntId_append,cntId_cons]
      by_cases hij:j=i
      · subst hij
        rw [hself] at hi
        obtain rfl:=Option.some.inj hi
        have:=h.cnt x (List.mem_of_getElem? hx)
        show x.cnt+1=baseC xs x.id+(cntId s.ids x.id+(cntId [] x.id+if x.id=x.id then 1 else 0))
        rw [this,if_pos rfl]
        unfold cntId
        simp
        omega
      · rw [List.getElem?_set,if_neg hij] at hi
        have hid:=(h.inv.at_ i y hi).1
        rw [h.cnt y (List.mem_of_getElem? hi),if_neg (by omega)]
        unfold cntId
        simp
    · dsimp only at hi ⊢
      rw [hmapid]
      rcases List.mem_append.1 hi with hi | hi
      · exact h.ids i hi
      · rw [List.mem_singleton] at hi
        rw [hi]
        exact List.mem_map_of_mem (List.mem_of_getElem? hx)
theorem AddR.all {xs:List GLine}:∀ (ps:List SRow) {s:GSt},AddR xs s->AddR xs (addAll s ps)
  | [],_,h=>h
  | p::ps,_,h=>AddR.all ps (h.step p)
theorem inv_nodup {s:GSt} (h:GInv s):(s.xs.map GLine.id).Nodup:=by
  rw [List.nodup_iff_pairwise_ne,List.pairwise_map,List.pairwise_iff_getElem]
  intro i j hi hj hij e
  have h1:=(h.at_ i _ (List.getElem?_eq_getElem hi)).1
  have h2:=(h.at_ j _ (List.getElem?_eq_getElem hj)).1
  omega
theorem shown_id:∀ {l:List GLine} {c:Int->Int},(∀ x∈l,x.cnt=c x.id/\0<x.cnt)->shown l c=l
  | [],_,_=>rfl
  | x::l,c,h=>by
    obtain ⟨h1,h2⟩:=h x List.mem_cons_self
    rw [shown,if_pos (by omega),shown_id fun y hy=>h y (List.mem_cons_of_mem x hy),<-h1]
    rfl
theorem shown_base {xs:List GLine}:∀ {l:List GLine} {k:Nat},(∀ (j:Nat) y,l[j]?=some y->y.id=((k+j:Nat):Int))->(∀ (j:Nat) x,xs[k+j]?=some x->∃ y,l[j]?=some y/\y.id=x.id/\y.ao=x.ao/\y.cap=x.cap/\y.st=x.st) ->
    (∀ x∈xs,1<=x.cnt)->shown l (baseC xs)=xs.drop k
  | [],k,_,h2,_=>by
    rw [shown]
    cases hx:xs[k]? with
    | none=>rw [List.drop_of_length_le (List.getElem?_eq_none_iff.1 hx)]
    | some x =>
      obtain ⟨y,hy,-⟩:=h2 0 x hx
      cases hy
  | y::l,k,h1,h2,h3=>by
    have hid:=h1 0 y rfl
    rw [Nat.add_zero] at hid
    have hb:baseC xs y.id=((xs[k]?).map GLine.cnt).getD 0:=by
      unfold baseC
      rw [hid,if_pos (by omega),Int.toNat_natCast]
    have ih:=shown_base (xs:=xs) (l:=l) (k:=k+1) (fun j z hz=>by
      have:=h1 (j+1) z hz
      rw [this]
      congr 1
      omega) (fun j x hx=>by
      obtain ⟨z,hz,e⟩:=h2 (j+1) x (by rw [show k+(j+1)=k+1+j by omega];exact hx)
      exact ⟨z,hz,e⟩) h3
    rw [shown,hb]
    cases hx:xs[k]? with
    | none =>
      have hk:=List.getElem?_eq_none_iff.1 hx
      rw [if_neg (by simp),ih,List.drop_of_length_le hk,List.drop_of_length_le (by omega)]
    | some x =>
      obtain ⟨hk,he⟩:=List.getElem?_eq_some_iff.1 hx
      have hp:=h3 x (List.mem_of_getElem? hx)
      obtain ⟨z,hz,e1,e2,e3,e4⟩:=h2 0 x (by rw [Nat.add_zero];exact hx)
      obtain rfl:=Option.some.inj hz
      rw [if_pos (by show 0<x.cnt;omega),ih,List.drop_eq_getElem_cons hk,he]
      congr 1
      show GLine.at_ y x.cnt=x
      cases y
      cases x
      simp only [GLine.at_] at e1 e2 e3 e4 ⊢
      subst e1 e2 e3 e4
      rfl
theorem drop_add {xs:List GLine} {next:Int} (h:GInv ⟨xs,next,[]⟩) (ps:List SRow):dropAllG (addAll ⟨xs,next,[]⟩ ps).xs (addAll ⟨xs,next,[]⟩ ps).ids=some xs:=by
  have A:=AddR.all ps (AddR.start h)
  generalize addAll ⟨xs,next,[]⟩ ps=s at *
  have hpos:∀ x∈s.xs,1<=x.cnt:=fun x hx=>by
    obtain ⟨j,hj⟩:=List.mem_iff_getElem?.1 hx
    exact (A.inv.at_ j x hj).2.1
  have hpos0:∀ x∈xs,1<=x.cnt:=fun x hx=>by
    obtain ⟨j,hj⟩:=List.mem_iff_getElem?.1 hx
    exact (h.at_ j x hj).2.1
  have h1:shown s.xs (fun i=>baseC xs i+cntId s.ids i)=s.xs:=shown_id fun x hx=>⟨A.cnt x hx,by have:=hpos x hx;omega⟩
  have h2:shown s.xs (baseC xs)=xs:=by
    have:=shown_base (xs:=xs) (l:=s.xs) (k:=0) (fun j y hj=>by rw [Nat.zero_add];exact (A.inv.at_ j y hj).1) (fun j x hx=>A.pre j x (by rw [Nat.zero_add] at hx;exact hx)) hpos0
    rw [this,List.drop_zero]
  have hb:∀ i,0<=baseC xs i:=fun i=>by
    unfold baseC
    split
    · cases hx:xs[i.toNat]? with
      | none=>exact Int.le_refl 0
      | some x =>
        have:=hpos0 x (List.mem_of_getElem? hx)
        show 0<=x.cnt
        omega
    · exact Int.le_refl 0
  have:=shown_all (ids:=s.ids) (l:=s.xs) (c:=baseC xs) (inv_nodup A.inv) A.ids hb
  rw [h1,h2] at this
  exact this
theorem snd_next {all:List GLine} {n m:Int} (hnm:n<=m):∀ {l:List GLine} {k:Nat} {last:Int},sndFrom all n l k last=true->sndFrom all m l k last=true
  | [],_,_,_=>rfl
  | x::l,k,last,h=>by
    rw [sndFrom] at h ⊢
    split at h
    · cases h
    · rename_i h1
      rw [if_neg h1]
      split at h
      · cases h
      · rename_i h2
        rw [if_neg (by omega)]
        split at h
        · cases h
        · rename_i h3
          rw [if_neg h3]
          split at h
          · rename_i h4
            rw [if_pos h4]
            exact snd_next hnm h
          · cases h
end Go.Sy
