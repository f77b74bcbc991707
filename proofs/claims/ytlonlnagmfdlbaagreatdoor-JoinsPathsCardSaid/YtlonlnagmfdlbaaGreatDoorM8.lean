/- Parts of the proof of CJoinsPaths: F35, F36, F37, F38, Lg, Lh, Jb, Jc, Jd, SyU, SyW. No conditions. -/
import Derived.Test.YtlonlnagmfdlbaaGreatDoorM7
namespace Go.Sy
open Go.Proofs
def prefB (s p:ByteArray):Bool:=decide ((s.size:Int)≥p.size)&&decide (s.extract 0 p.size=p)
set_option maxRecDepth 100000 in
set_option maxHeartbeats 1000000 in
theorem HasPrefix_c (σ:Snap) (s p:ByteArray):PlainS Tryz.prog 257 [.a (.v (.string s)),.a (.v (.string p))] σ (fun v=>v=.bool (prefB s p)):=by
  refine enter_p Tryz.func257 rfl rfl (by (repeat' (first | exact trivial | constructor))) fun w=>?_
  (repeat (first | refine cj_seq ?_ | refine cjr TT rfl ?_ | refine oj_then ?_))
  refine oj_split 10 rfl (fun h=>?_) (fun h=>?_)
  · have h:decide ((s.size:Int)≥p.size)=true:=h
    have hle:=of_decide_eq_true h
    refine oj_run TT rfl ?_
    refine oj_slice_str TT 0 p.size rfl rfl rfl rfl rfl rfl rfl rfl rfl (.inl ⟨rfl,rfl⟩) (.inr ⟨_,_,rfl,rfl⟩) (Nat.zero_le _) (by omega) (oj_run TT rfl ?_)
    (repeat (first | refine oj_then ?_ | refine cj_ret ?_))
    refine nj_ret TT rfl fun β w' _ _=>?_
    unfold prefB
    rw [h,Bool.true_and]
    rfl
  · have h:decide ((s.size:Int)≥p.size)=false:=h
    refine oj_run TT rfl ?_
    (repeat (first | refine oj_then ?_ | refine cj_ret ?_))
    refine nj_ret TT rfl fun β w' _ _=>?_
    unfold prefB
    rw [h,Bool.false_and]
    rfl
def cutB (s p:ByteArray):ByteArray:=if prefB s p then s.extract p.size s.size else s
set_option maxRecDepth 100000 in
set_option maxHeartbeats 1000000 in
theorem CutPrefix0_c (σ:Snap) (s p:ByteArray):PlainS Tryz.prog 247 [.a (.v (.string s)),.a (.v (.string p))] σ (fun v=>v=.tuple #[.string (cutB s p),.bool (prefB s p)]):=by
  refine enter_p Tryz.func247 rfl rfl (by (repeat' (first | exact trivial | constructor))) fun w=>?_
  (repeat (first | refine cj_seq ?_ | refine cjr TT rfl ?_ | refine oj_then ?_))
  refine oj_callP rfl rfl rfl rfl rfl Tryz.call257 (by (repeat' (first | exact trivial | constructor))) (HasPrefix_c σ s p) fun v hv=>⟨.a (.b (prefB s p)),trivial,hv.symm,?_⟩
  refine oj_run TT rfl ?_
  (repeat refine oj_then ?_)
  refine cj_if rfl (fun h=>?_) (fun h=>?_)
  · have h:prefB s p=false:=by simpa using h
    (repeat (first | refine cj_seq ?_ | refine cjr TT rfl ?_ | refine oj_then ?_ | refine cj_ret ?_ | refine nj_then_ret ?_))
    refine nj_ret TT rfl fun β w' _ _=>?_
    unfold cutB
    rw [h]
    rfl
  · have h:prefB s p=true:=by simpa using h
    have hle:p.size<=s.size:=by
      unfold prefB at h
      rw [Bool.and_eq_true] at h
      have:=of_decide_eq_true h.1
      omega
    (repeat (first | refine cj_seq ?_ | refine cjr TT rfl ?_ | refine cj_skip ?_ | refine nj_then ?_))
    refine oj_slice_str TT p.size s.size rfl rfl rfl rfl rfl rfl rfl rfl rfl (.inr ⟨_,_,rfl,rfl⟩) (.inl ⟨rfl,rfl⟩) hle (Nat.le_refl _) (oj_run TT rfl ?_)
    (repeat (first | refine oj_then ?_ | refine cj_ret ?_))
    refine nj_ret TT rfl fun β w' _ _=>?_
    unfold cutB
    rw [h]
    rfl
set_option maxRecDepth 100000 in
set_option maxHeartbeats 1000000 in
theorem CutPrefix_c (σ:Snap) (s p:ByteArray):PlainS Tryz.prog 234 [.a (.v (.string s)),.a (.v (.string p))] σ (fun v=>v=.tuple #[.string (cutB s p),.bool (prefB s p)]):=by
  refine enter_p Tryz.func234 rfl rfl (by (repeat' (first | exact trivial | constructor))) fun w=>?_
  (repeat (first | refine cj_seq ?_ | refine cjr TT rfl ?_ | refine oj_then ?_))
  refine oj_callP rfl rfl rfl rfl rfl Tryz.call247 (by (repeat' (first | exact trivial | constructor))) (CutPrefix0_c σ s p) fun v hv=>⟨.tup [.a (.v (.string (cutB s p))),.a (.b (prefB s p))],(by (repeat' (first | exact trivial | refine SV.lt_tup ?_ | constructor))),hv.symm,?_⟩
  refine oj_run TT rfl ?_
  (repeat (first | refine oj_then ?_ | refine cj_ret ?_))
  refine nj_ret TT rfl fun β w' _ _=>?_
  rfl
structure GPat where
  what:Int
  name:ByteArray
def ptCells (p:GPat):List AT:=[.v (.int .i64 p.what),.v (.string p.name)]
def ptRows (l:List GPat):List (List AT):=l.map ptCells
theorem ptRows_get {l:List GPat} {i:Nat} {x:GPat} (h:l[i]?=some x):(ptRows l)[i]?=some (ptCells x):=by unfold ptRows;rw [List.getElem?_map,h];rfl
def dotP:ByteArray:=⟨#[46]⟩
def elemP:ByteArray:=⟨#[91,93]⟩
def fitsP (p:GPat) (s:ByteArray):Bool:=if p.what=1 then (prefB s dotP&&decide (cutB s dotP=p.name)) else if p.what=2 then true else if p.what=3 then decide (s=elemP) else false
set_option maxRecDepth 100000 in
set_option maxHeartbeats 1000000 in
theorem fitsP_c (σ:Snap) (p:GPat) (s:ByteArray):PlainS Tryz.prog 212 [.agg (ptCells p),.a (.v (.string s))] σ (fun v=>v=.bool (fitsP p s)):=by
  have hf:fitsP p s=if p.what=1 then (prefB s dotP&&decide (cutB s dotP=p.name)) else if p.what=2 then true else if p.what=3 then decide (s=elemP) else false:=rfl
  refine enter_p Tryz.func212 rfl rfl ⟨(by unfold ptCells;(repeat' (first | exact trivial | refine AllLt.of ?_ | constructor))),trivial,trivial⟩ fun w=>?_
  (repeat (first | refine cj_seq ?_ | refine cjr TT rfl ?_ | refine oj_then ?_ | refine cj_block ?_))
  refine cj_if rfl (fun h=>?_) (fun h=>?_)
  · rw [if_pos (of_decide_eq_true h)] at hf
    (repeat (first | refine cj_seq ?_ | refine cjr TT rfl ?_))
    refine oj_callP rfl rfl rfl rfl rfl Tryz.call234 (by (repeat' (first | exact trivial | constructor))) (CutPrefix_c σ s dotP) fun v hv=>⟨.tup [.a (.v (.string (cutB s dotP))),.a (.b (prefB s dotP))],(by (repeat' (first | exact trivial | refine SV.lt_tup ?_ | constructor))),hv.symm,?_⟩
    refine oj_run TT rfl ?_
    (repeat (first | refine cj_seq ?_ | refine cjr TT rfl ?_ | refine oj_then ?_))
    refine oj_split 17 rfl (fun h=>?_) (fun h=>?_)
    · have h:prefB s dotP=true:=h
      refine oj_run TT rfl ?_
      (repeat (first | refine oj_then ?_ | refine cj_ret ?_ | refine nj_then_ret ?_ | refine nj_block_ret ?_))
      refine nj_ret TT rfl fun β w' _ _=>?_
      rw [hf,h,Bool.true_and]
      rfl
    · have h:prefB s dotP=false:=h
      refine oj_run TT rfl ?_
      (repeat (first | refine oj_then ?_ | refine cj_ret ?_ | refine nj_then_ret ?_ | refine nj_block_ret ?_))
      refine nj_ret TT rfl fun β w' _ _=>?_
      rw [hf,h,Bool.false_and]
      rfl
  rw [if_neg (of_decide_eq_false h)] at hf
  (repeat (first | refine cj_seq ?_ | refine cjr TT rfl ?_ | refine oj_then ?_))
  refine cj_if rfl (fun h=>?_) (fun h=>?_)
  · rw [if_pos (of_decide_eq_true h)] at hf
    (repeat (first | refine cj_seq ?_ | refine cjr TT rfl ?_ | refine oj_then ?_ | refine cj_ret ?_ | refine nj_then_ret ?_ | refine nj_block_ret ?_))
    refine nj_ret TT rfl fun β w' _ _=>?_
    rw [hf]
    rfl
  rw [if_neg (of_decide_eq_false h)] at hf
  (repeat (first | refine cj_seq ?_ | refine cjr TT rfl ?_ | refine oj_then ?_))
  refine cj_if rfl (fun h=>?_) (fun h=>?_)
  · rw [if_pos (of_decide_eq_true h)] at hf
    (repeat (first | refine cj_seq ?_ | refine cjr TT rfl ?_ | refine oj_then ?_ | refine cj_ret ?_ | refine nj_then_ret ?_ | refine nj_block_ret ?_))
    refine nj_ret TT rfl fun β w' _ _=>?_
    rw [hf]
    rfl
  rw [if_neg (of_decide_eq_false h)] at hf
  (repeat (first | refine cj_seq ?_ | refine cjr TT rfl ?_ | refine oj_then ?_ | refine cj_skip ?_ | refine cj_ret ?_ | refine nj_then ?_ | refine nj_block ?_))
  refine nj_ret TT rfl fun β w' _ _=>?_
  rw [hf]
  rfl
structure AlS where
  k:Nat
  o:List Int
  oo:Option Addr
  oc:Nat
def allG (q:Nat->GLine->Bool):List GLine->Nat->List Int
  | [],_=>[]
  | x::l,k=>if q k x then x.id::allG q l (k+1) else allG q l (k+1)
set_option maxRecDepth 100000 in
set_option maxHeartbeats 1000000 in
theorem all_c (σ:Snap) (xs:List GLine) (hl:xs.length<=1000000) (ao:Option Addr) (cap:Nat) (next:Int) (H:SlAt σ ao xs.length cap 3 (lnRows xs)) (f:FuncId) (caps:List PT) (hcap:LtAll (caps.map ptSV))
    (hcall:∀ args w,(callFunc f args).run Tryz.prog w=.ok (.enter f args) w) (q:Nat->GLine->Bool) (hq:∀ (k:Nat) x,xs[k]?=some x->PlainS Tryz.prog f (.a (.v (.int .i64 k))::.agg (lnCells x)::caps.map ptSV) σ (fun v=>v=.bool (q k x))) (hlt:(SV.a (.fn (.func f) caps)).lt 0) :
    PureS Tryz.prog 156 [.agg [.v (.slice ao xs.length cap),.v (.int .i64 next)],.a (.fn (.func f) caps)] σ (fun v σ'=>∃ oo oc,v=.slice oo (allG q xs 0).length oc/\SlAt σ' oo (allG q xs 0).length oc 1 (idRows (allG q xs 0))):=by
  refine enter_s Tryz.func156 rfl rfl ⟨(by (repeat' (first | exact trivial | refine AllLt.of ?_ | constructor))),hlt,trivial⟩ fun w=>?_
  (repeat (first | refine cj_seq ?_ | refine cjr TT rfl ?_ | refine oj_then ?_ | refine cj_block ?_))
  refine cj_nilarr 3 1 ?_
  skip
  refine cj_loop (fun (_:AlS)=>σ) (fun t=>[(1,.a (.fn (.func f) caps)),(5,.a (.v (.slice t.oo t.o.length t.oc))),(9,.a (.v (.slice ao xs.length cap))),(10,.a (.v (.int .i64 xs.length))),(11,.a (.v (.int .i64 (t.k:Nat))))]) (fun _=>[]) (fun t=>[idE t.oo t.oc t.o]) 0
    (fun t=>t.k<=xs.length/\t.o++allG q (xs.drop t.k) t.k=allG q xs 0/\t.o.length<=t.oc/\t.o.length<=t.k) (fun t=>xs.length - t.k) ⟨0,[],none,0⟩ ⟨Nat.zero_le _,rfl,Nat.le_refl _,Nat.le_refl _⟩ rfl (by (repeat first | exact trivial | refine ⟨rfl,?_⟩)) (by (repeat first | exact trivial | refine ⟨rfl,?_⟩)) rfl ⟨hlt,trivial,trivial,trivial,trivial,trivial⟩ trivial fun ⟨k,o,oo,oc⟩ ⟨hk,hp,hoc,hok⟩=>?_
  dsimp only at hk hp hoc hok ⊢
  (repeat (first | refine cj_seq ?_ | refine cjr TT rfl ?_ | refine oj_then ?_))
  refine cj_if rfl (fun h=>?_) (fun h=>?_)
  rotate_left
  · have hk0:k=xs.length:=by have:=of_decide_eq_false h;omega
    rw [hk0,List.drop_length,allG,List.append_nil] at hp
    subst hp
    (repeat (first | refine cj_seq ?_ | refine cjr TT rfl ?_ | refine oj_then ?_ | refine cj_exit ?_ | refine cj_ret ?_ | refine nj_then ?_ | refine nj_then_exit ?_ | refine nj_block_out ?_))
    refine nj_seal 0 rfl rfl fun σ' hle' hS=>?_
    refine nj_ret TT rfl fun β w' _ _=>?_
    exact ⟨oo,oc,rfl,id_sealed hS hoc⟩
  have hkl:k<xs.length:=by have:=of_decide_eq_true h;omega
  have hxk:xs[k]?=some xs[k]:=List.getElem?_eq_getElem hkl
  have hra:=lnRows_get hxk
  have hqx:=hq k xs[k] hxk
  rw [List.drop_eq_getElem_cons hkl,allG] at hp
  generalize xs[k]=x at *
  (repeat (first | refine cj_seq ?_ | refine cjr TT rfl ?_ | refine cj_skip ?_ | refine cj_block ?_ | refine nj_then ?_))
  refine oj_idx TT rfl rfl rfl rfl rfl rfl rfl rfl rfl H (by omega) hra (oj_run TT rfl ?_)
  (repeat (first | refine cj_seq ?_ | refine cjr TT rfl ?_ | refine oj_then ?_))
  refine oj_callP (ys:=.a (.v (.int .i64 k))::.agg (lnCells x)::caps.map ptSV) rfl rfl rfl rfl rfl hcall ⟨trivial,lnCells_lt 0 x,hcap⟩ hqx fun v hv=>⟨.a (.b (q k x)),trivial,hv.symm,?_⟩
  refine oj_run TT rfl ?_
  (repeat refine oj_then ?_)
  refine cj_if rfl (fun h=>?_) (fun h=>?_)
  · rw [h,if_pos rfl] at hp
    (repeat refine cjr TT rfl ?_)
    refine oj_append_lit TT 0 rfl rfl rfl rfl rfl rfl rfl rfl rfl rfl rfl rfl rfl rfl rfl rfl rfl rfl (by (repeat' (first | exact trivial | refine AllLt.of ?_ | constructor))) rfl (by omega) (by show (o.length+1)*8<=_;omega) fun oo' oc' hoc'=>oj_run TT rfl ?_
    (repeat (first | refine cjr TT rfl ?_ | refine oj_nil ?_ | refine nj_then ?_ | refine nj_block ?_ | (refine oj_add rfl rfl rfl rfl rfl rfl (by omega) ?_;refine oj_run TT rfl ?_)))
    refine nj_again (⟨k+1,o++[x.id],oo',oc'⟩:AlS) ⟨hkl,by dsimp only;rw [List.append_assoc];exact hp,by dsimp only;rw [List.length_append];exact hoc',by dsimp only;rw [List.length_append,List.length_singleton];omega⟩ (by dsimp only;omega) rfl ?_ (by (repeat first | exact trivial | refine ⟨rfl,?_⟩)) ?_ ⟨hlt,trivial,trivial,trivial,trivial,trivial⟩ trivial
    · dsimp only
      rw [List.length_append]
      (repeat first | exact trivial | refine ⟨rfl,?_⟩)
    · show [_]=[_]
      dsimp only
      unfold idE idXs
      rw [List.map_append,List.length_append]
      rfl
  · rw [h,if_neg (by simp)] at hp
    (repeat (first | refine cjr TT rfl ?_ | refine oj_nil ?_ | refine cj_skip ?_ | refine nj_then ?_ | refine nj_block ?_ | (refine oj_add rfl rfl rfl rfl rfl rfl (by omega) ?_;refine oj_run TT rfl ?_)))
    refine nj_again (⟨k+1,o,oo,oc⟩:AlS) ⟨hkl,hp,hoc,by dsimp only;omega⟩ (by dsimp only;omega) rfl (by (repeat first | exact trivial | refine ⟨rfl,?_⟩)) (by (repeat first | exact trivial | refine ⟨rfl,?_⟩)) rfl ⟨hlt,trivial,trivial,trivial,trivial,trivial⟩ trivial
end Go.Sy
namespace Go.Sy
open Go.Proofs
theorem cell_of {σ:Snap} {g e sz:Nat} {v:Value} (hS:ArrSealed σ ⟨some ⟨g,0,none⟩,1,1,e,sz,[v]⟩):σ.cell ⟨g,0,none⟩=some v:=by
  rcases hS with ⟨h,_⟩ | ⟨g',h1,h2⟩
  · cases h
  · obtain rfl:g=g':=by simpa using h1
    exact h2 0 _ rfl
theorem fn_lt2 (f:Fn) (g1 g2 n:Nat):(SV.a (.fn f [ptrTo g1,ptrTo g2])).lt n:=by
  intro x hx
  simp only [List.mem_cons,List.not_mem_nil,or_false] at hx
  rcases hx with rfl | rfl<;>trivial
end Go.Sy
namespace Go.Sy
open Go.Proofs
def deepAt (ps:List GPat) (V:List Bool) (k:Nat):List Bool:=match ps[k]? with
  | some p=>if p.what=4 then (if V.getD k false then V.set (k+1) true else V) else V
  | none=>V
def deepV (ps:List GPat) (V:List Bool):List Bool:=(List.range ps.length).foldl (deepAt ps) V
def patAt (ps:List GPat) (V:List Bool) (s:ByteArray) (N:List Bool) (k:Nat):List Bool:=match ps[k]? with
  | some p=>if V.getD k false then (if p.what=4 then N.set k true else if fitsP p s then N.set (k+1) true else N) else N
  | none=>N
def nextV (ps:List GPat) (V:List Bool) (s:ByteArray):List Bool:=(List.range ps.length).foldl (patAt ps V s) (List.replicate (ps.length+1) false)
def startV (ps:List GPat):List Bool:=deepV ps ((List.replicate (ps.length+1) false).set 0 true)
def runV (ps:List GPat) (ss:List ByteArray):List Bool:=ss.foldl (fun V s=>deepV ps (nextV ps V s)) (startV ps)
def matchG (ss:List ByteArray) (ps:List GPat):Bool:=(runV ps ss).getD ps.length false
theorem deepAt_len (ps:List GPat) (V:List Bool) (k:Nat):(deepAt ps V k).length=V.length:=by
  unfold deepAt
  split
  · split
    · split
      · rw [List.length_set]
      · rfl
    · rfl
  · rfl
theorem fold_len {α β:Type} (f:List α->β->List α) (hf:∀ l b,(f l b).length=l.length):∀ (bs:List β) (l:List α),(bs.foldl f l).length=l.length
  | [],_=>rfl
  | b::bs,l=>by rw [List.foldl_cons,fold_len f hf bs,hf]
theorem deepV_len (ps:List GPat) (V:List Bool):(deepV ps V).length=V.length:=fold_len _ (deepAt_len ps) _ _
theorem patAt_len (ps:List GPat) (V:List Bool) (s:ByteArray) (N:List Bool) (k:Nat):(patAt ps V s N k).length=N.length:=by
  unfold patAt
  split
  · split
    · split
      · rw [List.length_set]
      · split
        · rw [List.length_set]
        · rfl
    · rfl
  · rfl
theorem nextV_len (ps:List GPat) (V:List Bool) (s:ByteArray):(nextV ps V s).length=ps.length+1:=by
  unfold nextV
  rw [fold_len _ (patAt_len ps V s),List.length_replicate]
theorem startV_len (ps:List GPat):(startV ps).length=ps.length+1:=by
  unfold startV
  rw [deepV_len,List.length_set,List.length_replicate]
theorem range_fold {α:Type} (f:α->Nat->α) (a:α) (k:Nat):(List.range (k+1)).foldl f a=f ((List.range k).foldl f a) k:=by
  rw [List.range_succ,List.foldl_append]
  rfl
def blE (g:Nat) (V:List Bool):AE:=⟨some ⟨g,0,none⟩,V.length,V.length,4,1,V.map Value.bool⟩
def nwE (g5 gb n:Nat):AE:=⟨some ⟨g5,0,none⟩,1,1,78,1,[.slice (some ⟨gb,0,none⟩) n n]⟩
theorem bl_get {V:List Bool} {k:Nat} {b:Bool} (h:V[k]?=some b):(V.map Value.bool)[k]?=some (AT.b b).val:=by rw [List.getElem?_map,h];rfl
theorem bl_set (g:Nat) (V:List Bool) (k:Nat):(⟨some ⟨g,0,none⟩,V.length,V.length,4,1,(V.map Value.bool).set k (AT.val .tt)⟩:AE)=blE g (V.set k true):=by
  unfold blE
  rw [List.length_set,List.map_set]
  rfl
theorem getD_of {V:List Bool} {k:Nat} {b:Bool} (h:V[k]?=some b):V.getD k false=b:=by rw [List.getD_eq_getElem?_getD,h];rfl
set_option maxRecDepth 100000 in
set_option maxHeartbeats 1000000 in
theorem deep_c (σ:Snap) (ps:List GPat) (hl:ps.length<=1000000) (po:Option Addr) (pc:Nat) (P:SlAt σ po ps.length pc 2 (ptRows ps)) (g3 g5 gb:Nat) (h3:σ.cell ⟨g3,0,none⟩=some (.slice po ps.length pc)) (V:List Bool) (hV:V.length=ps.length+1) :
    FnS Tryz.prog 211 ([ptrTo g3,ptrTo g5].map ptSV) σ [nwE g5 gb V.length,blE gb V] (fun v _ A'=>v=.tuple #[]/\A'=[nwE g5 gb V.length,blE gb (deepV ps V)]):=by
  refine enter_f Tryz.func211 rfl rfl ⟨trivial,trivial,trivial⟩ fun w=>?_
  refine cj_seq ?_
  refine cj_region ?_
  refine oj_ldS (c:=.v (.slice po ps.length pc)) TT rfl rfl rfl rfl rfl rfl rfl rfl h3 trivial (oj_run TT rfl ?_)
  (repeat (first | refine oj_then ?_ | refine cj_block ?_))
  refine cj_loop (fun (_:Nat)=>σ) (fun k=>[(1,.a (.v (.pointer (some ⟨g5,0,none⟩)))),(4,.a (.v (.slice po ps.length pc))),(5,.a (.v (.int .i64 ps.length))),(6,.a (.v (.int .i64 (k:Nat))))]) (fun _=>[]) (fun k=>[nwE g5 gb V.length,blE gb ((List.range k).foldl (deepAt ps) V)]) 0
    (fun k=>k<=ps.length) (fun k=>ps.length - k) 0 (Nat.zero_le _) rfl (by (repeat first | exact trivial | refine ⟨rfl,?_⟩)) (by (repeat first | exact trivial | refine ⟨rfl,?_⟩)) rfl (by (repeat' (first | exact trivial | constructor))) (by (repeat' exact trivial)) fun k hk=>?_
  (repeat (first | refine cj_seq ?_ | refine cjr TT rfl ?_ | refine oj_then ?_))
  refine cj_if rfl (fun h=>?_) (fun h=>?_)
  rotate_left
  · have hk0:k=ps.length:=by have:=of_decide_eq_false h;omega
    subst hk0
    (repeat (first | refine cj_exit ?_ | refine nj_then_exit ?_ | refine nj_block_out ?_))
    refine nj_fend TT rfl fun β w' _ _=>?_
    exact ⟨rfl,rfl⟩
  have hkl:k<ps.length:=by have:=of_decide_eq_true h;omega
  have hra:=ptRows_get (List.getElem?_eq_getElem hkl)
  have hnx:=range_fold (deepAt ps) V k
  have hlen:((List.range k).foldl (deepAt ps) V).length=ps.length+1:=by rw [fold_len _ (deepAt_len ps),hV]
  generalize (List.range k).foldl (deepAt ps) V=Vk at *
  have hd:deepAt ps Vk k=match ps[k]? with | some p=>if p.what=4 then (if Vk.getD k false then Vk.set (k+1) true else Vk) else Vk | none=>Vk:=rfl
  rw [List.getElem?_eq_getElem hkl] at hd
  dsimp only at hd
  have hbk:Vk[k]?=some (Vk[k]'(by omega)):=List.getElem?_eq_getElem _
  rw [getD_of hbk] at hd
  generalize Vk[k]'(by omega)=b at *
  generalize ps[k]=p at *
  have hnw:∀ W:List Bool,W.length=ps.length+1->nwE g5 gb V.length=nwE g5 gb W.length:=fun W hW=>by rw [hV,hW]
  have had:∀ q:Nat,some (SV.a (AT.v (.pointer (some (Addr.add ⟨gb,0,none⟩ ((q:Int).toNat*1))))))=some (SV.a (AT.v (.pointer (some ⟨gb,q,none⟩)))):=fun q=>by
    rw [Int.toNat_natCast,add0,Nat.mul_one]
  (repeat (first | refine cj_seq ?_ | refine cjr TT rfl ?_ | refine cj_skip ?_ | refine cj_block ?_ | refine nj_then ?_))
  refine oj_idx TT rfl rfl rfl rfl rfl rfl rfl rfl rfl P (by omega) hra (oj_run TT rfl ?_)
  (repeat (first | refine cj_seq ?_ | refine cjr TT rfl ?_ | refine oj_then ?_))
  refine oj_split 14 rfl (fun h1=>?_) (fun h1=>?_)
  rotate_left
  · have h1:decide (p.what=4)=false:=h1
    rw [if_neg (of_decide_eq_false h1)] at hd
    refine oj_run TT rfl ?_
    (repeat (first | refine cjr TT rfl ?_ | refine oj_then ?_ | refine oj_nil ?_ | refine cj_if_f rfl ?_ | refine cj_skip ?_ | refine nj_then ?_ | refine nj_block ?_ | (refine oj_add rfl rfl rfl rfl rfl rfl (by omega) ?_;refine oj_run TT rfl ?_)))
    refine nj_again (k+1) hkl (by omega) rfl (by (repeat first | exact trivial | refine ⟨rfl,?_⟩)) (by (repeat first | exact trivial | refine ⟨rfl,?_⟩)) ?_ (by (repeat' (first | exact trivial | constructor))) (by (repeat' exact trivial))
    rw [hnx,hd]
  have h1:decide (p.what=4)=true:=h1
  rw [if_pos (of_decide_eq_true h1)] at hd
  refine oj_run TT rfl ?_
  refine oj_ldA 0 (off:=0) (c:=.v (.slice (some ⟨gb,0,none⟩) V.length V.length)) TT rfl rfl rfl rfl rfl rfl rfl rfl rfl rfl rfl trivial (oj_run TT rfl ?_)
  refine oj_indexAddr TT rfl rfl rfl rfl rfl rfl rfl rfl rfl ⟨by omega,by omega⟩ (oj_run TT rfl ?_)
  refine oj_ldA 1 (off:=k) (c:=.b b) TT rfl rfl rfl rfl rfl (had k) rfl rfl rfl rfl (bl_get hbk) trivial (oj_run TT rfl ?_)
  (repeat refine oj_then ?_)
  refine cj_if rfl (fun h2=>?_) (fun h2=>?_)
  rotate_left
  · rw [h2,if_neg (by simp)] at hd
    (repeat (first | refine cjr TT rfl ?_ | refine oj_nil ?_ | refine cj_skip ?_ | refine nj_then ?_ | refine nj_block ?_ | (refine oj_add rfl rfl rfl rfl rfl rfl (by omega) ?_;refine oj_run TT rfl ?_)))
    refine nj_again (k+1) hkl (by omega) rfl (by (repeat first | exact trivial | refine ⟨rfl,?_⟩)) (by (repeat first | exact trivial | refine ⟨rfl,?_⟩)) ?_ (by (repeat' (first | exact trivial | constructor))) (by (repeat' exact trivial))
    rw [hnx,hd]
  rw [h2,if_pos rfl] at hd
  (repeat refine cjr TT rfl ?_)
  refine oj_ldA 0 (off:=0) (c:=.v (.slice (some ⟨gb,0,none⟩) V.length V.length)) TT rfl rfl rfl rfl rfl rfl rfl rfl rfl rfl rfl trivial (oj_run TT rfl ?_)
  refine oj_add rfl rfl rfl rfl rfl rfl (by omega) (oj_run TT rfl ?_)
  refine oj_indexAddr TT rfl rfl rfl rfl rfl rfl rfl rfl rfl ⟨by omega,by omega⟩ (oj_run TT rfl ?_)
  refine oj_stA 1 (off:=k+1) (c:=.tt) (A':=[nwE g5 gb V.length,blE gb (Vk.set (k+1) true)]) TT rfl rfl rfl rfl (had (k+1)) rfl rfl rfl rfl rfl (by show k+1<Vk.length*1;omega) trivial rfl ?_ (oj_run TT rfl ?_)
  · show [_,_]=[_,_]
    rw [<-bl_set]
    rfl
  (repeat (first | refine cjr TT rfl ?_ | refine oj_nil ?_ | refine nj_then ?_ | refine nj_block ?_ | (refine oj_add rfl rfl rfl rfl rfl rfl (by omega) ?_;refine oj_run TT rfl ?_)))
  refine nj_again (k+1) hkl (by omega) rfl (by (repeat first | exact trivial | refine ⟨rfl,?_⟩)) (by (repeat first | exact trivial | refine ⟨rfl,?_⟩)) ?_ (by (repeat' (first | exact trivial | constructor))) (by (repeat' exact trivial))
  rw [hnx,hd]
theorem bl_rep (g n:Nat):(⟨some ⟨g,0,none⟩,n,n,4,1,List.replicate n (AT.val .ff)⟩:AE)=blE g (List.replicate n false):=by
  unfold blE
  rw [List.length_replicate,List.map_replicate]
  rfl
structure MtS where
  k:Nat
  gb:Nat
  V:List Bool
set_option maxRecDepth 100000 in
set_option maxHeartbeats 1000000 in
theorem matches_c (σ:Snap) (ss:List ByteArray) (hs:ss.length<=140737488355328) (so:Option Addr) (sc:Nat) (S:SlAt σ so ss.length sc 1 (strRows ss)) (ps:List GPat) (hl:ps.length<=1000000) (po:Option Addr) (pc:Nat) (P:SlAt σ po ps.length pc 2 (ptRows ps)) :
    PlainS Tryz.prog 158 [.a (.v (.slice so ss.length sc)),.a (.v (.slice po ps.length pc))] σ (fun v=>v=.bool (matchG ss ps)):=by
  refine enter_p Tryz.func158 rfl rfl (by (repeat' (first | exact trivial | constructor))) fun w=>?_
  (repeat (first | refine cj_seq ?_ | refine cjr TT rfl ?_ | refine oj_then ?_ | (refine oj_add rfl rfl rfl rfl rfl rfl (by omega) ?_;refine oj_run TT rfl ?_)))
  refine oj_makeSlice (n:=ps.length+1) TT rfl rfl rfl rfl rfl rfl rfl rfl rfl rfl rfl rfl trivial (by show (ps.length+1)*1<=_;omega) (by omega) fun gb=>oj_run TT rfl ?_
  refine oj_own 1 1 1 rfl (by (repeat' (first | exact trivial | refine AllLt.of ?_ | constructor))) rfl (by decide) fun g5=>?_
  refine oj_own 0 1 1 rfl (by (repeat' (first | exact trivial | refine AllLt.of ?_ | constructor))) rfl (by decide) fun g3=>?_
  refine oj_seal 2 rfl rfl rfl fun σ1 hle1 hS3=>?_
  have h3:σ1.cell ⟨g3,0,none⟩=some (.slice po ps.length pc):=cell_of hS3
  have P1:=P.mono hle1
  have S1:=S.mono hle1
  have hdeep:∀ (s:Snap) (_:σ1.le s) (gb:Nat) (V:List Bool),V.length=ps.length+1->FnS Tryz.prog 211 ([ptrTo g3,ptrTo g5].map ptSV) s [nwE g5 gb (ps.length+1),blE gb V] (fun v _ A'=>v=.tuple #[]/\A'=[nwE g5 gb (ps.length+1),blE gb (deepV ps V)]):=by
    intro s hs gb V hV
    have:=deep_c s ps hl po pc (P1.mono hs) g3 g5 gb (hs.cell h3) V hV
    rw [hV] at this
    exact this
  refine oj_then ?_
  refine cj_re [1,0] (A':=[nwE g5 gb (ps.length+1),blE gb (List.replicate (ps.length+1) false)]) (by show [_,_]=[_,_];rw [<-bl_rep];rfl) rfl ?_
  have had:∀ (g q:Nat),some (SV.a (AT.v (.pointer (some (Addr.add ⟨g,0,none⟩ ((q:Int).toNat*1))))))=some (SV.a (AT.v (.pointer (some ⟨g,q,none⟩)))):=fun g q=>by
    rw [Int.toNat_natCast,add0,Nat.mul_one]
  have hrl:(List.replicate (ps.length+1) false).length=ps.length+1:=List.length_replicate
  (repeat (first | refine cj_seq ?_ | refine cjr TT rfl ?_))
  refine oj_ldA 0 (off:=0) (c:=.v (.slice (some ⟨gb,0,none⟩) (ps.length+1) (ps.length+1))) TT rfl rfl rfl rfl rfl rfl rfl rfl rfl rfl rfl trivial (oj_run TT rfl ?_)
  refine oj_indexAddr TT rfl rfl rfl rfl rfl rfl rfl rfl rfl ⟨by omega,by omega⟩ (oj_run TT rfl ?_)
  refine oj_stA 1 (off:=0) (c:=.tt) (A':=[nwE g5 gb (ps.length+1),blE gb ((List.replicate (ps.length+1) false).set 0 true)]) TT rfl rfl rfl rfl (had gb 0) rfl rfl rfl rfl rfl (by show 0<(List.replicate (ps.length+1) false).length*1;omega) trivial rfl ?_ (oj_run TT rfl ?_)
  · show [_,_]=[_,_]
    rw [<-bl_set]
    rfl
  (repeat (first | refine cj_seq ?_ | refine cjr TT rfl ?_ | refine oj_then ?_))
  refine oj_callF [0,1] (A0:=[nwE g5 gb (ps.length+1),blE gb ((List.replicate (ps.length+1) false).set 0 true)]) (Ar:=[]) rfl rfl rfl rfl rfl rfl rfl Tryz.call211 ⟨trivial,trivial,trivial⟩ (hdeep σ1 (Snap.le_refl _) gb _ (by rw [List.length_set,hrl])) fun v σ2 A2 hle2 ⟨hv,hA⟩=>⟨.tup [],(by (repeat' (first | exact trivial | refine SV.lt_tup ?_))),hv.symm,?_⟩
  subst hA
  have hst:deepV ps ((List.replicate (ps.length+1) false).set 0 true)=startV ps:=rfl
  rw [hst]
  refine oj_run TT rfl ?_
  (repeat (first | refine cj_seq ?_ | refine cjr TT rfl ?_ | refine oj_then ?_ | refine cj_block ?_))
  refine cj_loop2 (fun (s:Snap) (_:MtS)=>s) (fun _ t=>[(3,.a (.v (.pointer (some ⟨g3,0,none⟩)))),(5,.a (.v (.pointer (some ⟨g5,0,none⟩)))),(6,.a (.fn (.func 211) [ptrTo g3,ptrTo g5])),(21,.a (.v (.slice so ss.length sc))),(22,.a (.v (.int .i64 ss.length))),(23,.a (.v (.int .i64 (t.k:Nat))))]) (fun _ _=>[]) (fun _ t=>[nwE g5 t.gb (ps.length+1),blE t.gb t.V]) 0
    (fun s t=>σ1.le s/\t.k<=ss.length/\t.V=runV ps (ss.take t.k)/\t.V.length=ps.length+1) (fun _ t=>ss.length - t.k) σ2 ⟨0,gb,startV ps⟩ ⟨hle2,Nat.zero_le _,rfl,startV_len ps⟩ rfl (by (repeat first | exact trivial | refine ⟨rfl,?_⟩)) (by (repeat first | exact trivial | refine ⟨rfl,?_⟩)) rfl ⟨trivial,trivial,fn_lt2 (.func 211) g3 g5 0,trivial,trivial,trivial,trivial⟩ trivial fun s ⟨k,gb,V⟩ ⟨hle,hk,hV,hVl⟩=>?_
  dsimp only at hk hV hVl ⊢
  have h3:=hle.cell h3
  have P1:=P1.mono hle
  have S1:=S1.mono hle
  (repeat (first | refine cj_seq ?_ | refine cjr TT rfl ?_ | refine oj_then ?_))
  refine cj_if rfl (fun h=>?_) (fun h=>?_)
  rotate_left
  · have hk0:k=ss.length:=by have:=of_decide_eq_false h;omega
    rw [hk0,List.take_length] at hV
    have hb:V[ps.length]?=some (V[ps.length]'(by omega)):=List.getElem?_eq_getElem _
    have hm:matchG ss ps=V[ps.length]'(by omega):=by
      unfold matchG
      rw [<-hV]
      exact getD_of hb
    generalize V[ps.length]'(by omega)=b at *
    (repeat (first | refine cj_seq ?_ | refine cjr TT rfl ?_ | refine cj_exit ?_ | refine nj_then ?_ | refine nj_then_exit ?_ | refine nj_block_out ?_))
    refine oj_ldA 0 (off:=0) (c:=.v (.slice (some ⟨gb,0,none⟩) (ps.length+1) (ps.length+1))) TT rfl rfl rfl rfl rfl rfl rfl rfl rfl rfl rfl trivial (oj_run TT rfl ?_)
    refine oj_ldS (c:=.v (.slice po ps.length pc)) TT rfl rfl rfl rfl rfl rfl rfl rfl h3 trivial (oj_run TT rfl ?_)
    refine oj_indexAddr TT rfl rfl rfl rfl rfl rfl rfl rfl rfl ⟨by omega,by omega⟩ (oj_run TT rfl ?_)
    refine oj_ldA 1 (off:=ps.length) (c:=.b b) TT rfl rfl rfl rfl rfl (had gb ps.length) rfl rfl rfl rfl (bl_get hb) trivial (oj_run TT rfl ?_)
    (repeat (first | refine oj_then ?_ | refine cj_ret ?_))
    refine nj_ret TT rfl fun β w' _ _=>?_
    rw [hm]
    rfl
  have hkl:k<ss.length:=by have:=of_decide_eq_true h;omega
  have hrow:=strRows_get (List.getElem?_eq_getElem hkl)
  have hnext:runV ps (ss.take (k+1))=deepV ps (nextV ps V ss[k]):=by
    unfold runV
    rw [List.take_succ_eq_append_getElem hkl,List.foldl_append]
    rw [hV]
    rfl
  clear hV
  generalize ss[k]=x at *
  (repeat (first | refine cj_seq ?_ | refine cjr TT rfl ?_ | refine cj_skip ?_ | refine cj_block ?_ | refine nj_then ?_))
  refine oj_idx TT rfl rfl rfl rfl rfl rfl rfl rfl rfl S1 (by omega) hrow (oj_run TT rfl ?_)
  (repeat (first | refine cj_seq ?_ | refine cjr TT rfl ?_ | refine oj_then ?_))
  refine oj_ldS (c:=.v (.slice po ps.length pc)) TT rfl rfl rfl rfl rfl rfl rfl rfl h3 trivial (oj_run TT rfl ?_)
  refine oj_add rfl rfl rfl rfl rfl rfl (by omega) (oj_run TT rfl ?_)
  refine oj_makeSlice (n:=ps.length+1) TT rfl rfl rfl rfl rfl rfl rfl rfl rfl rfl rfl rfl trivial (by show (ps.length+1)*1<=_;omega) (by omega) fun g2=>oj_run TT rfl ?_
  refine oj_then ?_
  refine cj_re [0,1,2] (A':=[nwE g5 gb (ps.length+1),blE gb V,blE g2 (List.replicate (ps.length+1) false)]) (by show [_,_,_]=[_,_,_];rw [<-bl_rep]) rfl ?_
  (repeat (first | refine cj_seq ?_ | refine cjr TT rfl ?_))
  refine oj_ldS (c:=.v (.slice po ps.length pc)) TT rfl rfl rfl rfl rfl rfl rfl rfl h3 trivial (oj_run TT rfl ?_)
  (repeat (first | refine oj_then ?_ | refine cj_block ?_))
  refine cj_loop (fun (_:Nat)=>s) (fun j=>[(3,.a (.v (.pointer (some ⟨g3,0,none⟩)))),(5,.a (.v (.pointer (some ⟨g5,0,none⟩)))),(6,.a (.fn (.func 211) [ptrTo g3,ptrTo g5])),(8,.a (.v (.string x))),(9,.a (.v (.slice (some ⟨g2,0,none⟩) (ps.length+1) (ps.length+1)))),(21,.a (.v (.slice so ss.length sc))),(22,.a (.v (.int .i64 ss.length))),(23,.a (.v (.int .i64 (k:Nat)))),(31,.a (.v (.slice po ps.length pc))),(32,.a (.v (.int .i64 ps.length))),(33,.a (.v (.int .i64 (j:Nat))))])
    (fun _=>[]) (fun j=>[nwE g5 gb (ps.length+1),blE gb V,blE g2 ((List.range j).foldl (patAt ps V x) (List.replicate (ps.length+1) false))]) 0
    (fun j=>j<=ps.length) (fun j=>ps.length - j) 0 (Nat.zero_le _) rfl (by (repeat first | exact trivial | refine ⟨rfl,?_⟩)) (by (repeat first | exact trivial | refine ⟨rfl,?_⟩)) rfl ⟨trivial,trivial,fn_lt2 (.func 211) g3 g5 0,trivial,trivial,trivial,trivial,trivial,trivial,trivial,trivial,trivial⟩ trivial fun j hj=>?_
  (repeat (first | refine cj_seq ?_ | refine cjr TT rfl ?_ | refine oj_then ?_))
  refine cj_if rfl (fun h=>?_) (fun h=>?_)
  rotate_left
  · have hj0:j=ps.length:=by have:=of_decide_eq_false h;omega
    subst hj0
    have hN:(List.range ps.length).foldl (patAt ps V x) (List.replicate (ps.length+1) false)=nextV ps V x:=rfl
    have hNl:=nextV_len ps V x
    rw [hN]
    generalize nextV ps V x=N at *
    (repeat (first | refine cj_seq ?_ | refine cjr TT rfl ?_ | refine cj_exit ?_ | refine nj_then ?_ | refine nj_then_exit ?_ | refine nj_block_out ?_))
    refine oj_stA 0 (off:=0) (c:=.v (.slice (some ⟨g2,0,none⟩) (ps.length+1) (ps.length+1))) (A':=[nwE g5 g2 (ps.length+1),blE gb V,blE g2 N]) TT rfl rfl rfl rfl rfl rfl rfl rfl rfl rfl (by show 0<1*1;omega) trivial rfl rfl (oj_run TT rfl ?_)
    (repeat (first | refine cjr TT rfl ?_ | refine oj_then ?_))
    refine oj_callF [0,2] (A0:=[nwE g5 g2 (ps.length+1),blE g2 N]) (Ar:=[]) rfl rfl rfl rfl rfl rfl rfl Tryz.call211 ⟨trivial,trivial,trivial⟩ (hdeep s hle g2 N hNl) fun v σ3 A3 hle3 ⟨hv,hA⟩=>⟨.tup [],(by (repeat' (first | exact trivial | refine SV.lt_tup ?_))),hv.symm,?_⟩
    subst hA
    refine oj_run TT rfl ?_
    (repeat (first | refine cjr TT rfl ?_ | refine oj_nil ?_ | refine nj_then ?_ | refine nj_block ?_ | (refine oj_add rfl rfl rfl rfl rfl rfl (by omega) ?_;refine oj_run TT rfl ?_)))
    refine nj_again (σ3,(⟨k+1,g2,deepV ps N⟩:MtS)) ⟨Snap.le_trans hle hle3,hkl,hnext.symm,by dsimp only;rw [deepV_len,hNl]⟩ (by dsimp only;omega) rfl (by (repeat first | exact trivial | refine ⟨rfl,?_⟩)) (by (repeat first | exact trivial | refine ⟨rfl,?_⟩)) rfl ⟨trivial,trivial,fn_lt2 (.func 211) g3 g5 0,trivial,trivial,trivial,trivial⟩ trivial
  have hjl:j<ps.length:=by have:=of_decide_eq_true h;omega
  have hra:=ptRows_get (List.getElem?_eq_getElem hjl)
  have hnx:=range_fold (patAt ps V x) (List.replicate (ps.length+1) false) j
  have hNl:((List.range j).foldl (patAt ps V x) (List.replicate (ps.length+1) false)).length=ps.length+1:=by rw [fold_len _ (patAt_len ps V x),List.length_replicate]
  generalize (List.range j).foldl (patAt ps V x) (List.replicate (ps.length+1) false)=N at *
  have hd:patAt ps V x N j=match ps[j]? with | some p=>if V.getD j false then (if p.what=4 then N.set j true else if fitsP p x then N.set (j+1) true else N) else N | none=>N:=rfl
  rw [List.getElem?_eq_getElem hjl] at hd
  dsimp only at hd
  have hbk:V[j]?=some (V[j]'(by omega)):=List.getElem?_eq_getElem _
  rw [getD_of hbk] at hd
  generalize V[j]'(by omega)=b at *
  generalize ps[j]=p at *
  have hlt:EnvLt 0 [(3,.a (.v (.pointer (some ⟨g3,0,none⟩)))),(5,.a (.v (.pointer (some ⟨g5,0,none⟩)))),(6,.a (.fn (.func 211) [ptrTo g3,ptrTo g5])),(8,.a (.v (.string x))),(9,.a (.v (.slice (some ⟨g2,0,none⟩) (ps.length+1) (ps.length+1)))),(21,.a (.v (.slice so ss.length sc))),(22,.a (.v (.int .i64 ss.length))),(23,.a (.v (.int .i64 (k:Nat)))),(31,.a (.v (.slice po ps.length pc))),(32,.a (.v (.int .i64 ps.length))),(33,.a (.v (.int .i64 ((j+1:Nat):Int))))]:=⟨trivial,trivial,fn_lt2 (.func 211) g3 g5 0,trivial,trivial,trivial,trivial,trivial,trivial,trivial,trivial,trivial⟩
  (repeat (first | refine cj_seq ?_ | refine cjr TT rfl ?_ | refine cj_skip ?_ | refine cj_block ?_ | refine nj_then ?_))
  refine oj_idx TT rfl rfl rfl rfl rfl rfl rfl rfl rfl P1 (by omega) hra (oj_run TT rfl ?_)
  (repeat (first | refine cj_seq ?_ | refine cjr TT rfl ?_ | refine oj_then ?_))
  refine oj_ldA 0 (off:=0) (c:=.v (.slice (some ⟨gb,0,none⟩) (ps.length+1) (ps.length+1))) TT rfl rfl rfl rfl rfl rfl rfl rfl rfl rfl rfl trivial (oj_run TT rfl ?_)
  refine oj_indexAddr TT rfl rfl rfl rfl rfl rfl rfl rfl rfl ⟨by omega,by omega⟩ (oj_run TT rfl ?_)
  refine oj_ldA 1 (off:=j) (c:=.b b) TT rfl rfl rfl rfl rfl (had gb j) rfl rfl rfl rfl (bl_get hbk) trivial (oj_run TT rfl ?_)
  refine oj_split 42 rfl (fun h1=>?_) (fun h1=>?_)
  · have h1:b=true:=h1
    rw [h1,if_pos rfl] at hd
    refine oj_run TT rfl ?_
    (repeat refine oj_then ?_)
    refine cj_if rfl (fun h2=>?_) (fun h2=>?_)
    · rw [if_pos (of_decide_eq_true h2)] at hd
      (repeat refine cjr TT rfl ?_)
      refine oj_indexAddr TT rfl rfl rfl rfl rfl rfl rfl rfl rfl ⟨by omega,by omega⟩ (oj_run TT rfl ?_)
      refine oj_stA 2 (off:=j) (c:=.tt) (A':=[nwE g5 gb (ps.length+1),blE gb V,blE g2 (N.set j true)]) TT rfl rfl rfl rfl (had g2 j) rfl rfl rfl rfl rfl (by show j<N.length*1;omega) trivial rfl ?_ (oj_run TT rfl ?_)
      · show [_,_,_]=[_,_,_]
        rw [<-bl_set]
        rfl
      (repeat (first | refine cjr TT rfl ?_ | refine oj_nil ?_ | refine nj_then ?_ | refine nj_block ?_ | (refine oj_add rfl rfl rfl rfl rfl rfl (by omega) ?_;refine oj_run TT rfl ?_)))
      refine nj_again (j+1) hjl (by omega) rfl (by (repeat first | exact trivial | refine ⟨rfl,?_⟩)) (by (repeat first | exact trivial | refine ⟨rfl,?_⟩)) ?_ hlt trivial
      rw [hnx,hd]
    · rw [if_neg (of_decide_eq_false h2)] at hd
      (repeat (first | refine cj_seq ?_ | refine cjr TT rfl ?_))
      refine oj_ldA 0 (off:=0) (c:=.v (.slice (some ⟨gb,0,none⟩) (ps.length+1) (ps.length+1))) TT rfl rfl rfl rfl rfl rfl rfl rfl rfl rfl rfl trivial (oj_run TT rfl ?_)
      refine oj_indexAddr TT rfl rfl rfl rfl rfl rfl rfl rfl rfl ⟨by omega,by omega⟩ (oj_run TT rfl ?_)
      refine oj_ldA 1 (off:=j) (c:=.b b) TT rfl rfl rfl rfl rfl (had gb j) rfl rfl rfl rfl (bl_get hbk) trivial (oj_run TT rfl ?_)
      refine oj_split 54 rfl (fun _=>?_) (fun h3=>absurd (show b=false from h3) (by rw [h1];decide))
      refine oj_run TT rfl ?_
      refine oj_callP rfl rfl rfl rfl rfl Tryz.call212 ⟨(by (repeat' (first | exact trivial | refine AllLt.of ?_ | constructor))),trivial,trivial⟩ (fitsP_c s p x) fun v hv=>⟨.a (.b (fitsP p x)),trivial,hv.symm,?_⟩
      refine oj_run TT rfl ?_
      (repeat refine oj_then ?_)
      refine cj_if rfl (fun h4=>?_) (fun h4=>?_)
      · rw [h4,if_pos rfl] at hd
        (repeat (first | refine cjr TT rfl ?_ | (refine oj_add rfl rfl rfl rfl rfl rfl (by omega) ?_;refine oj_run TT rfl ?_)))
        refine oj_indexAddr TT rfl rfl rfl rfl rfl rfl rfl rfl rfl ⟨by omega,by omega⟩ (oj_run TT rfl ?_)
        refine oj_stA 2 (off:=j+1) (c:=.tt) (A':=[nwE g5 gb (ps.length+1),blE gb V,blE g2 (N.set (j+1) true)]) TT rfl rfl rfl rfl (had g2 (j+1)) rfl rfl rfl rfl rfl (by show j+1<N.length*1;omega) trivial rfl ?_ (oj_run TT rfl ?_)
        · show [_,_,_]=[_,_,_]
          rw [<-bl_set]
          rfl
        (repeat (first | refine cjr TT rfl ?_ | refine oj_nil ?_ | refine nj_then ?_ | refine nj_block ?_ | (refine oj_add rfl rfl rfl rfl rfl rfl (by omega) ?_;refine oj_run TT rfl ?_)))
        refine nj_again (j+1) hjl (by omega) rfl (by (repeat first | exact trivial | refine ⟨rfl,?_⟩)) (by (repeat first | exact trivial | refine ⟨rfl,?_⟩)) ?_ hlt trivial
        rw [hnx,hd]
      · rw [h4,if_neg (by simp)] at hd
        (repeat (first | refine cjr TT rfl ?_ | refine oj_nil ?_ | refine cj_skip ?_ | refine nj_then ?_ | refine nj_block ?_ | (refine oj_add rfl rfl rfl rfl rfl rfl (by omega) ?_;refine oj_run TT rfl ?_)))
        refine nj_again (j+1) hjl (by omega) rfl (by (repeat first | exact trivial | refine ⟨rfl,?_⟩)) (by (repeat first | exact trivial | refine ⟨rfl,?_⟩)) ?_ hlt trivial
        rw [hnx,hd]
  · have h1:b=false:=h1
    rw [h1,if_neg (by simp)] at hd
    refine oj_run TT rfl ?_
    (repeat (first | refine cj_seq ?_ | refine cjr TT rfl ?_ | refine oj_then ?_ | refine cj_if_f rfl ?_))
    refine oj_ldA 0 (off:=0) (c:=.v (.slice (some ⟨gb,0,none⟩) (ps.length+1) (ps.length+1))) TT rfl rfl rfl rfl rfl rfl rfl rfl rfl rfl rfl trivial (oj_run TT rfl ?_)
    refine oj_indexAddr TT rfl rfl rfl rfl rfl rfl rfl rfl rfl ⟨by omega,by omega⟩ (oj_run TT rfl ?_)
    refine oj_ldA 1 (off:=j) (c:=.b b) TT rfl rfl rfl rfl rfl (had gb j) rfl rfl rfl rfl (bl_get hbk) trivial (oj_run TT rfl ?_)
    refine oj_split 54 rfl (fun h3=>absurd (show b=true from h3) (by rw [h1];decide)) (fun _=>?_)
    refine oj_run TT rfl ?_
    (repeat (first | refine cjr TT rfl ?_ | refine oj_then ?_ | refine oj_nil ?_ | refine cj_if_f rfl ?_ | refine cj_skip ?_ | refine nj_then ?_ | refine nj_block ?_ | (refine oj_add rfl rfl rfl rfl rfl rfl (by omega) ?_;refine oj_run TT rfl ?_)))
    refine nj_again (j+1) hjl (by omega) rfl (by (repeat first | exact trivial | refine ⟨rfl,?_⟩)) (by (repeat first | exact trivial | refine ⟨rfl,?_⟩)) ?_ hlt trivial
    rw [hnx,hd]
end Go.Sy
namespace Go.Sy
open Go.Proofs
set_option maxRecDepth 100000 in
set_option maxHeartbeats 1000000 in
theorem match1_c (σ:Snap) (k:Nat) (x:GLine) (hx:LnOk σ x) (ps:List GPat) (hl:ps.length<=1000000) (po:Option Addr) (pc:Nat) (P:SlAt σ po ps.length pc 2 (ptRows ps)) (g:Nat) (hg:σ.cell ⟨g,0,none⟩=some (.slice po ps.length pc)) :
    PlainS Tryz.prog 157 (.a (.v (.int .i64 k))::.agg (lnCells x)::[ptrTo g].map ptSV) σ (fun v=>v=.bool (matchG x.st ps)):=by
  refine enter_p Tryz.func157 rfl rfl ⟨trivial,lnCells_lt 0 x,trivial,trivial⟩ fun w=>?_
  (repeat (first | refine cj_seq ?_ | refine cjr TT rfl ?_ | refine oj_then ?_))
  refine oj_ldS (c:=.v (.slice po ps.length pc)) TT rfl rfl rfl rfl rfl rfl rfl rfl hg trivial (oj_run TT rfl ?_)
  refine oj_callP rfl rfl rfl rfl rfl Tryz.call158 (by (repeat' (first | exact trivial | constructor))) (matches_c σ x.st hx.1 x.ao x.cap hx.2 ps hl po pc P) fun v hv=>⟨.a (.b (matchG x.st ps)),trivial,hv.symm,?_⟩
  refine oj_run TT rfl ?_
  (repeat (first | refine oj_then ?_ | refine cj_ret ?_))
  refine nj_ret TT rfl fun β w' _ _=>?_
  rfl
def matchIds (xs:List GLine) (ps:List GPat):List Int:=allG (fun _ x=>matchG x.st ps) xs 0
set_option maxRecDepth 100000 in
set_option maxHeartbeats 1000000 in
theorem Match_c (σ:Snap) (xs:List GLine) (hxl:xs.length<=1000000) (ao:Option Addr) (cap:Nat) (next:Int) (H:SlAt σ ao xs.length cap 3 (lnRows xs)) (hx:∀ x∈xs,LnOk σ x)
    (ps:List GPat) (hl:ps.length<=1000000) (po:Option Addr) (pc:Nat) (P:SlAt σ po ps.length pc 2 (ptRows ps)) :
    PureS Tryz.prog 82 [.agg [.v (.slice ao xs.length cap),.v (.int .i64 next)],.a (.v (.slice po ps.length pc))] σ (fun v σ'=>∃ oo oc,v=.slice oo (matchIds xs ps).length oc/\SlAt σ' oo (matchIds xs ps).length oc 1 (idRows (matchIds xs ps))):=by
  refine enter_s Tryz.func82 rfl rfl (by (repeat' (first | exact trivial | refine AllLt.of ?_ | constructor))) fun w=>?_
  (repeat (first | refine cj_seq ?_ | refine cjr TT rfl ?_ | refine oj_then ?_))
  refine oj_own 1 1 1 rfl (by (repeat' (first | exact trivial | refine AllLt.of ?_ | constructor))) rfl (by decide) fun g=>?_
  refine oj_seal 0 rfl rfl rfl fun σ1 hle1 hS=>?_
  refine oj_callS rfl rfl rfl rfl rfl Tryz.call156 ⟨(by (repeat' (first | exact trivial | refine AllLt.of ?_ | constructor))),fn_lt1 (.func 157) g 0,trivial⟩ (all_c σ1 xs hxl ao cap next (H.mono hle1) 157 [ptrTo g] ⟨trivial,trivial⟩ Tryz.call157 (fun _ x=>matchG x.st ps) (fun k x hk=>match1_c σ1 k x ((hx x (List.mem_of_getElem? hk)).mono hle1) ps hl po pc (P.mono hle1) g (cell_of hS)) (fn_lt1 (.func 157) g 0)) fun v σ2 hle2 ⟨oo,oc,hv,HO⟩=>⟨.a (.v (.slice oo (matchIds xs ps).length oc)),trivial,hv.symm,?_⟩
  refine oj_run TT rfl ?_
  (repeat (first | refine oj_then ?_ | refine cj_ret ?_))
  refine nj_ret TT rfl fun β w' _ _=>?_
  exact ⟨oo,oc,rfl,HO⟩
end Go.Sy
/- Plain laws: counts of lines; single patterns; paths of records. No program in sight. -/
namespace Go.Sy
def deepP:GPat:=⟨4,emptyS⟩
theorem pathsF_len:∀ (L:List GRec) (way:List ByteArray),(pathsF way L).length=L.length
  | [],_=>rfl
  | r::l,way=>by rw [pathsF,List.length_cons,List.length_cons,pathsF_len l]
end Go.Sy
/- Plain law of GuideCounts. No program in sight. -/
namespace Go.Sy
theorem shredI_lv_of (gap:Int):∀ (xs:List Itm),(∀ x∈xs,∀ (lv:Int) (nm:Bool) (name:ByteArray) (now:Int) (r:GRec),r∈(shredV gap x.v lv nm name now).1->(r.lv=lv/\r.nm=nm)\/lv<r.lv) ->
    ∀ (lv now:Int) (r:GRec),r∈(shredI gap xs lv now).1->(∃ x∈xs,r.lv=lv/\r.nm=x.nm)\/lv<r.lv
  | [],_,_,_,_,h=>by simp [shredI] at h
  | x::xs,H,lv,now,r,h=>by
    unfold shredI at h
    rcases List.mem_append.1 h with h | h
    · rcases H x List.mem_cons_self _ _ _ _ _ h with ⟨a,b⟩ | h
      · exact .inl ⟨x,List.mem_cons_self,a,b⟩
      · exact .inr h
    · rcases shredI_lv_of gap xs (fun y hy=>H y (List.mem_cons_of_mem _ hy)) _ _ _ h with ⟨y,hy,e⟩ | h
      · exact .inl ⟨y,List.mem_cons_of_mem _ hy,e⟩
      · exact .inr h
theorem cntV_mem:∀ {gs:List GVal} {g:GVal},g∈gs->cntV g<=cntL gs:=by
  intro gs g h
  obtain ⟨a,b,rfl⟩:=List.append_of_mem h
  rw [cntL_append,cntL]
  omega
theorem shredV_lv (gap:Int):∀ (n:Nat) (g:GVal),cntV g<=n->g.wf->∀ (lv:Int) (nm:Bool) (name:ByteArray) (now:Int) (r:GRec),r∈(shredV gap g lv nm name now).1->(r.lv=lv/\r.nm=nm)\/lv<r.lv
  | 0,g,hn,_,_,_,_,_,_,_=>by have:=cntV_pos g;omega
  | n+1,g,hn,hw,lv,nm,name,now,r,h=>by
    rw [shredV_its gap g lv nm name now hw] at h
    rcases List.mem_cons.1 h with h | h
    · subst h
      exact .inl ⟨rfl,rfl⟩
    · have:=shredI_lv_of gap (its g) (fun x hx=>shredV_lv gap n x.v (by
        have h1:=cntV_mem (its_mem hw hx)
        have h2:=cntI_its hw
        rw [cntI,vals_its hw] at h2
        omega) (its_wf hw hx)) _ _ _ h
      rcases this with ⟨x,-,e,-⟩ | h
      · exact .inr (by omega)
      · exact .inr (by omega)
end Go.Sy
/- Plain law: how many stand in how many, of values' records. No program in sight. -/
namespace Go.Sy
def itemOf (id:Int) (r:GRec) (i:Nat):GItem:=⟨id,i,r.st,r.en,r.lv⟩
def itemsD (id:Int) (L:List GRec):List GItem:=L.zipIdx.map fun x=>itemOf id x.1 x.2
theorem itemsD_len (id:Int) (L:List GRec):(itemsD id L).length=L.length:=by simp [itemsD]
theorem itemsD_get {id:Int} {L:List GRec} {i:Nat} {r:GRec} (h:L[i]?=some r):(itemsD id L)[i]?=some (itemOf id r i):=by
  unfold itemsD
  rw [List.getElem?_map,List.getElem?_zipIdx,h]
  simp
structure LamS (l:Sk):Prop where
  se:∀ x∈l,x.1<x.2
  pw:l.Pairwise fun x y=>x.1<y.1/\(y.2<x.2\/x.2<y.1)
mutual
theorem lamV {gap:Int} (hg:0<gap):∀ (g:GVal) (now:Int),LamS (skV gap g now)
  | .mk k b n s l ks vs,now=>by
    have h1:=lamL hg l (now+gap)
    have h2:=lamL hg vs (now+gap+wL gap l)
    have b1:=skL_bd hg l (now+gap)
    have b2:=skL_bd hg vs (now+gap+wL gap l)
    have n1:=wL_nn hg l
    have n2:=wL_nn hg vs
    rw [skV]
    refine ⟨fun x hx=>?_,?_⟩
    · rcases List.mem_cons.1 hx with rfl | hx
      · show now+gap<now+(gap+(wL gap l+wL gap vs)+gap)
        omega
      · rcases List.mem_append.1 hx with hx | hx
        · exact h1.se x hx
        · exact h2.se x hx
    · rw [List.pairwise_cons,List.pairwise_append]
      refine ⟨fun y hy=>?_,h1.pw,h2.pw,fun x hx y hy=>?_⟩
      · show now+gap<y.1/\(y.2<now+(gap+(wL gap l+wL gap vs)+gap)\/_)
        rcases List.mem_append.1 hy with hy | hy
        · have:=b1 y hy
          omega
        · have:=b2 y hy
          omega
      · have:=b1 x hx
        have:=b2 y hy
        omega
theorem lamL {gap:Int} (hg:0<gap):∀ (gs:List GVal) (now:Int),LamS (skL gap gs now)
  | [],_=>⟨fun _ h=>(by simp [skL] at h),by simp [skL]⟩
  | g::gs,now=>by
    have h1:=lamV hg g now
    have h2:=lamL hg gs (now+wV gap g)
    have b1:=skV_bd hg g now
    have b2:=skL_bd hg gs (now+wV gap g)
    rw [skL]
    refine ⟨fun x hx=>?_,?_⟩
    · rcases List.mem_append.1 hx with hx | hx
      · exact h1.se x hx
      · exact h2.se x hx
    · rw [List.pairwise_append]
      refine ⟨h1.pw,h2.pw,fun x hx y hy=>?_⟩
      have:=b1 x hx
      have:=b2 y hy
      omega
end
theorem lam_items {id:Int} {L:List GRec} (h:LamS (L.map se)):Lam (itemsD id L):=by
  have hp:=List.pairwise_map.1 h.pw
  refine ⟨fun x hx=>?_,?_⟩
  · obtain ⟨⟨r,i⟩,hr,rfl⟩:=List.mem_map.1 hx
    have hr:r∈L:=by
      have:=List.mem_zipIdx hr
      simp at this
      exact List.mem_of_getElem? (i:=i) (by rw [this.2];exact List.getElem?_eq_getElem _)
    exact h.se (se r) (List.mem_map_of_mem hr)
  · unfold itemsD
    rw [List.pairwise_map]
    have h2:(L.zipIdx.map Prod.fst).Pairwise fun x y=>(se x).1<(se y).1/\((se y).2<(se x).2\/(se x).2<(se y).1):=by
      rw [List.zipIdx_map_fst]
      exact hp
    refine (List.pairwise_map.1 h2).imp fun {x y} hxy=>?_
    show aheadI (itemOf id x.1 x.2) (itemOf id y.1 y.2)=true/\_
    rw [aheadI_iff,holdsI_iff,overI_iff]
    have h3:x.1.st<y.1.st/\(y.1.en<x.1.en\/x.1.en<y.1.st):=hxy
    show (id<id\/id=id/\x.1.st<y.1.st)/\((id=id/\x.1.st<y.1.st/\y.1.en<x.1.en)\/(id≠id\/x.1.en<y.1.st))
    omega
theorem lam_docs:∀ (ds:List (Int×List GRec)),(ds.Pairwise fun x y=>x.1<y.1)->(∀ d∈ds,LamS (d.2.map se))->Lam (ds.flatMap fun d=>itemsD d.1 d.2)
  | [],_,_=>Lam.nil
  | d::ds,hp,h=>by
    rw [List.flatMap_cons]
    have h1:=lam_items (id:=d.1) (h d List.mem_cons_self)
    have h2:=lam_docs ds (List.pairwise_cons.1 hp).2 fun x hx=>h x (List.mem_cons_of_mem d hx)
    have hd:∀ (e:Int×List GRec),∀ x∈itemsD e.1 e.2,x.doc=e.1:=by
      intro e x hx
      obtain ⟨y,_,rfl⟩:=List.mem_map.1 hx
      rfl
    refine ⟨fun x hx=>?_,List.pairwise_append.2 ⟨h1.pw,h2.pw,fun x hx y hy=>?_⟩⟩
    · rcases List.mem_append.1 hx with hx | hx
      · exact h1.se x hx
      · exact h2.se x hx
    · obtain ⟨e,he,hy⟩:=List.mem_flatMap.1 hy
      have h3:=(List.pairwise_cons.1 hp).1 e he
      have hx':=hd d x hx
      have hy':=hd e y hy
      rw [aheadI_iff,overI_iff]
      omega
def inR (x y:GRec):Bool:=decide (x.st<y.st)&&decide (y.en<x.en)
theorem inR_iff {x y:GRec}:inR x y=true↔x.st<y.st/\y.en<x.en:=by simp [inR]
def relR (kid:Bool) (x y:GRec):Bool:=inR x y&&(!kid||decide (y.lv=x.lv+1))
theorem mem_se {L:List GRec} {r:GRec} (h:r∈L):se r∈L.map se:=List.mem_map_of_mem h
end Go.Sy
/- Plain law: paths of records, by what stands in what. No program in sight. -/
namespace Go.Sy
abbrev RP:=GRec×List ByteArray
def endW:List ByteArray->List GRec->List ByteArray
  | way,[]=>way
  | way,r::l=>endW (pathStep way r) l
theorem pathsF_append:∀ (a b:List GRec) (way:List ByteArray),pathsF way (a++b)=pathsF way a++pathsF (endW way a) b
  | [],_,_=>rfl
  | r::a,b,way=>by
    rw [List.cons_append,pathsF,pathsF,endW,pathsF_append a b,List.cons_append]
theorem endW_append:∀ (a b:List GRec) (way:List ByteArray),endW way (a++b)=endW (endW way a) b
  | [],_,_=>rfl
  | r::a,b,way=>by rw [List.cons_append,endW,endW,endW_append a b]
def zipP (way:List ByteArray) (L:List GRec):List RP:=L.zip (pathsF way L)
theorem zipP_append (way:List ByteArray) (a b:List GRec):zipP way (a++b)=zipP way a++zipP (endW way a) b:=by
  unfold zipP
  rw [pathsF_append,List.zip_append (pathsF_len a way).symm]
theorem zipP_cons (way:List ByteArray) (r:GRec) (l:List GRec):zipP way (r::l)=(r,pathStep way r)::zipP (pathStep way r) l:=rfl
structure PathOk (own:List ByteArray) (Z:List RP):Prop where
  pre:∀ y∈Z,own <+: y.2/\(y.2.length:Int)=y.1.lv
  up:∀ x∈Z,∀ y∈Z,inR x.1 y.1=true->x.1.lv<y.1.lv/\x.2=y.2.take x.1.lv.toNat
  has:∀ y∈Z,∀ j:Int,own.length<j->j<y.1.lv->∃ x∈Z,inR x.1 y.1=true/\x.1.lv=j
theorem mem_zipP {way:List ByteArray} {L:List GRec} {y:RP} (h:y∈zipP way L):y.1∈L:=(List.of_mem_zip (a:=y.1) (b:=y.2) h).1
theorem path_all {gap:Int} (hg:0<gap):∀ (n:Nat) (g:GVal),cntV g<=n->g.wf->∀ (pre:List ByteArray) (lv:Nat) (nm:Bool) (name:ByteArray) (now:Int) (way:List ByteArray),
    lv=pre.length+1->way.take pre.length=pre->PathOk pre (zipP way (shredV gap g lv nm name now).1)/\(endW way (shredV gap g lv nm name now).1).take pre.length=pre /\
      (∀ y∈zipP way (shredV gap g lv nm name now).1,(pre++[if nm then dotS++name else elemS]) <+: y.2)
  | 0,g,hn,_,_,_,_,_,_,_,_,_=>by have:=cntV_pos g;omega
  | n+1,g,hn,hw,pre,lv,nm,name,now,way,hlv,hway=>by
    have hI:∀ (own:List ByteArray),own.length=lv->∀ (xs:List Itm),cntI xs<=n->(∀ x∈xs,x.v.wf)->∀ (now:Int) (way:List ByteArray),way.take own.length=own ->
        PathOk own (zipP way (shredI gap xs (lv+1:Nat) now).1)/\(endW way (shredI gap xs (lv+1:Nat) now).1).take own.length=own:=by
      intro own hown xs
      induction xs with
      | nil=>intro _ _ now way hw;exact ⟨⟨fun _ h=>(by cases h),fun _ h=>(by cases h),fun _ h=>(by cases h)⟩,hw⟩
      | cons x xs ih =>
        intro hc hwx now way hway
        have hcx:cntI (x::xs)=cntV x.v+cntI xs:=rfl
        have hxw:=hwx x List.mem_cons_self
        obtain ⟨A,hA,-⟩:=path_all hg n x.v (by omega) hxw own (lv+1) x.nm x.name now way (by omega) hway
        obtain ⟨B,hB⟩:=ih (by omega) (fun y hy=>hwx y (List.mem_cons_of_mem x hy)) (shredV gap x.v (lv+1:Nat) x.nm x.name now).2 (endW way (shredV gap x.v (lv+1:Nat) x.nm x.name now).1) hA
        have hsk:=shredV_sk gap x.v (lv+1:Nat) x.nm x.name now hxw
        have hwfs:GVal.wfs (valsI xs):=by
          have:∀ (ys:List Itm),(∀ y∈ys,y.v.wf)->GVal.wfs (valsI ys):=by
            intro ys
            induction ys with
            | nil=>intro _;trivial
            | cons y ys ih=>intro h;exact ⟨h y List.mem_cons_self,ih fun z hz=>h z (List.mem_cons_of_mem y hz)⟩
          exact this xs fun y hy=>hwx y (List.mem_cons_of_mem x hy)
        have hsI:=shredI_sk gap xs (lv+1:Nat) (shredV gap x.v (lv+1:Nat) x.nm x.name now).2 hwfs
        have hap:∀ u∈(shredV gap x.v (lv+1:Nat) x.nm x.name now).1,∀ v∈(shredI gap xs (lv+1:Nat) (shredV gap x.v (lv+1:Nat) x.nm x.name now).2).1,inR u v=false/\inR v u=false:=by
          intro u hu v hv
          have h1:=mem_se hu
          have h2:=mem_se hv
          rw [hsk.1] at h1
          rw [hsI.1] at h2
          have e1:=skV_bd hg _ _ _ h1
          have e2:=skL_bd hg _ _ _ h2
          have e3:=hsk.2
          have f1:(se u).1=u.st:=rfl
          have f2:(se u).2=u.en:=rfl
          have f3:(se v).1=v.st:=rfl
          have f4:(se v).2=v.en:=rfl
          rw [Bool.eq_false_iff,Bool.eq_false_iff,Ne,Ne,inR_iff,inR_iff]
          omega
        show PathOk own (zipP way ((shredV gap x.v (lv+1:Nat) x.nm x.name now).1++(shredI gap xs (lv+1:Nat) (shredV gap x.v (lv+1:Nat) x.nm x.name now).2).1))/\(endW way ((shredV gap x.v (lv+1:Nat) x.nm x.name now).1++(shredI gap xs (lv+1:Nat) (shredV gap x.v (lv+1:Nat) x.nm x.name now).2).1)).take own.length=own
        rw [zipP_append,endW_append]
        refine ⟨⟨fun y hy=>?_,fun u hu v hv huv=>?_,fun y hy j h1 h2=>?_⟩,hB⟩
        · rcases List.mem_append.1 hy with hy | hy
          · exact A.pre y hy
          · exact B.pre y hy
        · rcases List.mem_append.1 hu with hu' | hu'<;>rcases List.mem_append.1 hv with hv' | hv'
          · exact A.up u hu' v hv' huv
          · rw [(hap _ (mem_zipP hu') _ (mem_zipP hv')).1] at huv;cases huv
          · rw [(hap _ (mem_zipP hv') _ (mem_zipP hu')).2] at huv;cases huv
          · exact B.up u hu' v hv' huv
        · rcases List.mem_append.1 hy with hy | hy
          · obtain ⟨u,hu,h⟩:=A.has y hy j h1 h2
            exact ⟨u,List.mem_append_left _ hu,h⟩
          · obtain ⟨u,hu,h⟩:=B.has y hy j h1 h2
            exact ⟨u,List.mem_append_right _ hu,h⟩
    have hx:∀ x∈its g,x.v.wf:=fun x hx=>its_wf hw hx
    have hcn:=cntI_its hw
    have hsk:=shredI_sk gap (its g) (lv+1:Nat) (now+gap) (wfs_its hw)
    have hwe:=wI_its (gap:=gap) hw
    rw [shredV_its gap g lv nm name now hw]
    have hstep:pathStep way ⟨now+gap,now+wV gap g,lv,g.kind,nm,name,g.b,g.n,g.s⟩=pre++[if nm then dotS++name else elemS]:=by
      unfold pathStep
      dsimp only
      rw [show ((lv:Int) - 1).toNat=pre.length by omega,hway]
      cases nm
      · rw [if_neg (by decide),if_pos (by omega)]
        rfl
      · rfl
    generalize hown:pre++[if nm then dotS++name else elemS]=own at *
    have hol:own.length=lv:=by rw [<-hown,List.length_append,List.length_singleton];omega
    have hpo:pre <+: own:=⟨_,hown⟩
    obtain ⟨B,hB⟩:=hI own hol (its g) (by omega) hx (now+gap) own (List.take_length)
    have hcast:((lv:Int)+1)=((lv+1:Nat):Int):=by omega
    rw [zipP_cons,hstep]
    show PathOk pre (_::zipP own (shredI gap (its g) ((lv:Int)+1) (now+gap)).1)/\(endW (pathStep way _) (shredI gap (its g) ((lv:Int)+1) (now+gap)).1).take pre.length=pre/\_
    rw [hstep,hcast]
    have hpt:own.take pre.length=pre:=by rw [<-hown];exact List.take_left
    generalize hM:(shredI gap (its g) (lv+1:Nat) (now+gap)).1=M at *
    generalize hr0:(⟨now+gap,now+wV gap g,lv,g.kind,nm,name,g.b,g.n,g.s⟩:GRec)=r0
    have hlv0:r0.lv=lv:=by rw [<-hr0]
    have hin:∀ y∈M,inR r0 y=true/\inR y r0=false:=by
      intro y hy
      have h1:=mem_se hy
      rw [hsk.1] at h1
      have e1:=skL_bd hg _ _ _ h1
      have f1:(se y).1=y.st:=rfl
      have f2:(se y).2=y.en:=rfl
      have hst:r0.st=now+gap:=by rw [<-hr0]
      have hen:r0.en=now+wV gap g:=by rw [<-hr0]
      have hwI:wL gap (valsI (its g))=wI gap (its g):=rfl
      rw [Bool.eq_false_iff,Ne,inR_iff,inR_iff]
      omega
    have hself:inR r0 r0=false:=by unfold inR;simp
    refine ⟨⟨fun y hy=>?_,fun u hu v hv huv=>?_,fun y hy j h1 h2=>?_⟩,?_,fun y hy=>?_⟩
    · rcases List.mem_cons.1 hy with rfl | hy
      · exact ⟨hpo,by rw [hol,hlv0]⟩
      · exact ⟨hpo.trans (B.pre y hy).1,(B.pre y hy).2⟩
    · rcases List.mem_cons.1 hu with rfl | hu'<;>rcases List.mem_cons.1 hv with rfl | hv'
      · rw [hself] at huv;cases huv
      · obtain ⟨hb1,hb2⟩:=B.pre v hv'
        show r0.lv<v.1.lv/\own=v.2.take r0.lv.toNat
        have:r0.lv.toNat=own.length:=by omega
        rw [this]
        refine ⟨?_,(List.prefix_iff_eq_take.1 hb1)⟩
        have hl:=hb1.length_le
        rcases Nat.lt_or_ge own.length v.2.length with h | h
        · omega
        · exfalso
          have hlv:(lv:Int)+1<=v.1.lv:=by
            rcases shredI_lv_of gap (its g) (fun y hy lv' nm' name' now' r' hr'=>shredV_lv gap (cntV y.v) y.v (Nat.le_refl _) (its_wf hw hy) lv' nm' name' now' r' hr') (lv+1:Nat) (now+gap) v.1 (by rw [hM];exact mem_zipP hv') with ⟨_,_,h,_⟩ | h<;>omega
          omega
      · rw [(hin _ (mem_zipP hu')).2] at huv;cases huv
      · exact B.up u hu' v hv' huv
    · rcases List.mem_cons.1 hy with rfl | hy
      · have h2:j<r0.lv:=h2
        omega
      · by_cases hj:j=lv
        · subst hj
          exact ⟨_,List.mem_cons_self,(hin _ (mem_zipP hy)).1,hlv0⟩
        · obtain ⟨u,hu,h⟩:=B.has y hy j (by omega) h2
          exact ⟨u,List.mem_cons_of_mem _ hu,h⟩
    · have:=congrArg (List.take pre.length) hB
      rw [List.take_take,hpt] at this
      rw [Nat.min_eq_left (by omega)] at this
      exact this
    · rcases List.mem_cons.1 hy with rfl | hy
      · exact List.prefix_rfl
      · exact (B.pre y hy).1
structure DocOk (Z:List RP):Prop where
  len:∀ y∈Z,(y.2.length:Int)=y.1.lv
  up:∀ x∈Z,∀ y∈Z,inR x.1 y.1=true->x.1.lv<y.1.lv/\x.2=y.2.take x.1.lv.toNat
  has:∀ y∈Z,∀ j:Int,0<=j->j<y.1.lv->∃ x∈Z,inR x.1 y.1=true/\x.1.lv=j
theorem doc_ok {gap:Int} (hg:0<gap) (g:GVal) (hw:g.wf) (now:Int):DocOk (zipP [] (shredV gap g 0 false emptyS now).1):=by
  have hI:∀ (xs:List Itm),(∀ x∈xs,x.v.wf)->∀ (now:Int) (way:List ByteArray),PathOk [] (zipP way (shredI gap xs 1 now).1):=by
    intro xs
    induction xs with
    | nil=>intro _ now way;exact ⟨fun _ h=>(by cases h),fun _ h=>(by cases h),fun _ h=>(by cases h)⟩
    | cons x xs ih =>
      intro hwx now way
      have hxw:=hwx x List.mem_cons_self
      obtain ⟨A,-,-⟩:=path_all hg (cntV x.v) x.v (Nat.le_refl _) hxw [] 1 x.nm x.name now way rfl rfl
      have B:=ih (fun y hy=>hwx y (List.mem_cons_of_mem x hy)) (shredV gap x.v 1 x.nm x.name now).2 (endW way (shredV gap x.v 1 x.nm x.name now).1)
      have hsk:=shredV_sk gap x.v 1 x.nm x.name now hxw
      have hwfs:GVal.wfs (valsI xs):=by
        have:∀ (ys:List Itm),(∀ y∈ys,y.v.wf)->GVal.wfs (valsI ys):=by
          intro ys
          induction ys with
          | nil=>intro _;trivial
          | cons y ys ih=>intro h;exact ⟨h y List.mem_cons_self,ih fun z hz=>h z (List.mem_cons_of_mem y hz)⟩
        exact this xs fun y hy=>hwx y (List.mem_cons_of_mem x hy)
      have hsI:=shredI_sk gap xs 1 (shredV gap x.v 1 x.nm x.name now).2 hwfs
      have hap:∀ u∈(shredV gap x.v 1 x.nm x.name now).1,∀ v∈(shredI gap xs 1 (shredV gap x.v 1 x.nm x.name now).2).1,inR u v=false/\inR v u=false:=by
        intro u hu v hv
        have h1:=mem_se hu
        have h2:=mem_se hv
        rw [hsk.1] at h1
        rw [hsI.1] at h2
        have e1:=skV_bd hg _ _ _ h1
        have e2:=skL_bd hg _ _ _ h2
        have e3:=hsk.2
        have f1:(se u).1=u.st:=rfl
        have f2:(se u).2=u.en:=rfl
        have f3:(se v).1=v.st:=rfl
        have f4:(se v).2=v.en:=rfl
        rw [Bool.eq_false_iff,Bool.eq_false_iff,Ne,Ne,inR_iff,inR_iff]
        omega
      show PathOk [] (zipP way ((shredV gap x.v 1 x.nm x.name now).1++(shredI gap xs 1 (shredV gap x.v 1 x.nm x.name now).2).1))
      rw [zipP_append]
      refine ⟨fun y hy=>?_,fun u hu v hv huv=>?_,fun y hy j h1 h2=>?_⟩
      · rcases List.mem_append.1 hy with hy | hy
        · exact A.pre y hy
        · exact B.pre y hy
      · rcases List.mem_append.1 hu with hu' | hu'<;>rcases List.mem_append.1 hv with hv' | hv'
        · exact A.up u hu' v hv' huv
        · rw [(hap _ (mem_zipP hu') _ (mem_zipP hv')).1] at huv;cases huv
        · rw [(hap _ (mem_zipP hv') _ (mem_zipP hu')).2] at huv;cases huv
        · exact B.up u hu' v hv' huv
      · rcases List.mem_append.1 hy with hy | hy
        · obtain ⟨u,hu,h⟩:=A.has y hy j h1 h2
          exact ⟨u,List.mem_append_left _ hu,h⟩
        · obtain ⟨u,hu,h⟩:=B.has y hy j h1 h2
          exact ⟨u,List.mem_append_right _ hu,h⟩
  have hsk:=shredI_sk gap (its g) 1 (now+gap) (wfs_its hw)
  have hwe:=wI_its (gap:=gap) hw
  rw [shredV_its gap g 0 false emptyS now hw,zipP_cons]
  have B:=hI (its g) (fun x hx=>its_wf hw hx) (now+gap) []
  show DocOk ((_,[])::zipP [] (shredI gap (its g) 1 (now+gap)).1)
  have hlvM:∀ y∈zipP [] (shredI gap (its g) 1 (now+gap)).1,1<=y.1.lv:=by
    intro y hy
    rcases shredI_lv_of gap (its g) (fun y hy lv' nm' name' now' r' hr'=>shredV_lv gap (cntV y.v) y.v (Nat.le_refl _) (its_wf hw hy) lv' nm' name' now' r' hr') 1 (now+gap) y.1 (mem_zipP hy) with ⟨_,_,h,_⟩ | h<;>omega
  generalize hM:(shredI gap (its g) 1 (now+gap)).1=M at *
  generalize hr0:(⟨now+gap,now+wV gap g,0,g.kind,false,emptyS,g.b,g.n,g.s⟩:GRec)=r0
  have hlv0:r0.lv=0:=by rw [<-hr0]
  have hin:∀ y∈M,inR r0 y=true/\inR y r0=false:=by
    intro y hy
    have h1:=mem_se hy
    rw [hsk.1] at h1
    have e1:=skL_bd hg _ _ _ h1
    have f1:(se y).1=y.st:=rfl
    have f2:(se y).2=y.en:=rfl
    have hst:r0.st=now+gap:=by rw [<-hr0]
    have hen:r0.en=now+wV gap g:=by rw [<-hr0]
    have hwI:wL gap (valsI (its g))=wI gap (its g):=rfl
    rw [Bool.eq_false_iff,Ne,inR_iff,inR_iff]
    omega
  have hself:inR r0 r0=false:=by unfold inR;simp
  refine ⟨fun y hy=>?_,fun u hu v hv huv=>?_,fun y hy j h1 h2=>?_⟩
  · rcases List.mem_cons.1 hy with rfl | hy
    · show ((0:Nat):Int)=r0.lv
      omega
    · exact (B.pre y hy).2
  · rcases List.mem_cons.1 hu with rfl | hu'<;>rcases List.mem_cons.1 hv with rfl | hv'
    · rw [hself] at huv;cases huv
    · have:=hlvM v hv'
      show r0.lv<v.1.lv/\[]=v.2.take r0.lv.toNat
      rw [hlv0]
      exact ⟨by omega,rfl⟩
    · rw [(hin _ (mem_zipP hu')).2] at huv;cases huv
    · exact B.up u hu' v hv' huv
  · rcases List.mem_cons.1 hy with rfl | hy
    · have h2:j<r0.lv:=h2
      omega
    · by_cases hj:j=0
      · subst hj
        exact ⟨_,List.mem_cons_self,(hin _ (mem_zipP hy)).1,hlv0⟩
      · obtain ⟨u,hu,h⟩:=B.has y hy j (by show ((0:Nat):Int)<j;omega) h2
        exact ⟨u,List.mem_cons_of_mem _ hu,h⟩
def nameP (a:ByteArray):GPat:=⟨1,a⟩
theorem run_snoc (ps:List GPat) (ss:List ByteArray) (s:ByteArray):runV ps (ss++[s])=deepV ps (nextV ps (runV ps ss) s):=by
  unfold runV
  rw [List.foldl_append]
  rfl
theorem run1 (p:GPat) (hp:p.what=1) (ss:List ByteArray):runV [deepP,p] ss=[true,true,match ss.getLast? with | some s=>fitsP p s | none=>false]:=by
  obtain ⟨w,nm⟩:=p
  subst hp
  induction ss using snocRec with
  | nil=>rfl
  | snoc ss s ih =>
    rw [run_snoc,ih,List.getLast?_concat]
    generalize (match ss.getLast? with | some s=>fitsP ⟨1,nm⟩ s | none=>false)=x
    have:∀ y:Bool,fitsP ⟨1,nm⟩ s=y->deepV [deepP,⟨1,nm⟩] (nextV [deepP,⟨1,nm⟩] [true,true,x] s)=[true,true,y]:=by
      intro y hy
      simp only [nextV,patAt,deepV,deepAt,deepP,List.length_cons,List.length_nil,List.range,List.range.loop,List.foldl]
      simp [hy]
      cases y<;>simp
    exact this _ rfl
theorem match1 (p:GPat) (hp:p.what=1) (ss:List ByteArray):matchG ss [deepP,p]=match ss.getLast? with | some s=>fitsP p s | none=>false:=by
  unfold matchG
  rw [run1 p hp]
  rfl
theorem run2 (p q:GPat) (hp:p.what=1) (hq:q.what=1) (ss:List ByteArray):runV [deepP,p,q] ss=[true,true,match ss.getLast? with | some s=>fitsP p s | none=>false,match ss.getLast?,ss.dropLast.getLast? with | some s,some t=>fitsP q s&&fitsP p t | _,_=>false]:=by
  obtain ⟨w,nm⟩:=p
  obtain ⟨w',nm'⟩:=q
  subst hp hq
  induction ss using snocRec with
  | nil=>rfl
  | snoc ss s ih =>
    rw [run_snoc,ih,List.getLast?_concat,List.dropLast_concat]
    have hz:(match some s,ss.getLast? with | some s,some t=>fitsP ⟨1,nm'⟩ s&&fitsP ⟨1,nm⟩ t | _,_=>false)=(fitsP ⟨1,nm'⟩ s&&(match ss.getLast? with | some s=>fitsP ⟨1,nm⟩ s | none=>false)):=by
      cases ss.getLast?<;>simp
    rw [hz]
    generalize (match ss.getLast? with | some s=>fitsP ⟨1,nm⟩ s | none=>false)=x
    generalize (match ss.getLast?,ss.dropLast.getLast? with | some s,some t=>fitsP ⟨1,nm'⟩ s&&fitsP ⟨1,nm⟩ t | _,_=>false)=z
    have:∀ y y':Bool,fitsP ⟨1,nm⟩ s=y->fitsP ⟨1,nm'⟩ s=y'->deepV [deepP,⟨1,nm⟩,⟨1,nm'⟩] (nextV [deepP,⟨1,nm⟩,⟨1,nm'⟩] [true,true,x,z] s)=[true,true,y,y'&&x]:=by
      intro y y' hy hy'
      simp only [nextV,patAt,deepV,deepAt,deepP,List.length_cons,List.length_nil,List.range,List.range.loop,List.foldl]
      simp [hy,hy']
      cases y<;>cases y'<;>cases x<;>simp
    exact this _ _ rfl rfl
theorem match2 (p q:GPat) (hp:p.what=1) (hq:q.what=1) (ss:List ByteArray):matchG ss [deepP,p,q]=match ss.getLast?,ss.dropLast.getLast? with | some s,some t=>fitsP q s&&fitsP p t | _,_=>false:=by
  unfold matchG
  rw [run2 p q hp hq]
  rfl
theorem run3 (p q:GPat) (hp:p.what=1) (hq:q.what=1) (ss:List ByteArray):runV [deepP,p,deepP,q] ss=[true,true,ss.any (fitsP p),ss.any (fitsP p),match ss.getLast? with | some s=>fitsP q s&&ss.dropLast.any (fitsP p) | none=>false]:=by
  obtain ⟨w,nm⟩:=p
  obtain ⟨w',nm'⟩:=q
  subst hp hq
  induction ss using snocRec with
  | nil=>rfl
  | snoc ss s ih =>
    rw [run_snoc,ih,List.getLast?_concat,List.dropLast_concat,List.any_append]
    generalize ss.any (fitsP ⟨1,nm⟩)=x
    generalize (match ss.getLast? with | some s=>fitsP ⟨1,nm'⟩ s&&ss.dropLast.any (fitsP ⟨1,nm⟩) | none=>false)=z
    have h1:[s].any (fitsP ⟨1,nm⟩)=fitsP ⟨1,nm⟩ s:=by simp
    rw [h1]
    have:∀ y y':Bool,fitsP ⟨1,nm⟩ s=y->fitsP ⟨1,nm'⟩ s=y'->deepV [deepP,⟨1,nm⟩,deepP,⟨1,nm'⟩] (nextV [deepP,⟨1,nm⟩,deepP,⟨1,nm'⟩] [true,true,x,x,z] s)=[true,true,x||y,x||y,y'&&x]:=by
      intro y y' hy hy'
      simp only [nextV,patAt,deepV,deepAt,deepP,List.length_cons,List.length_nil,List.range,List.range.loop,List.foldl]
      simp [hy,hy']
      cases y<;>cases y'<;>cases x<;>simp
    exact this _ _ rfl rfl
theorem match3 (p q:GPat) (hp:p.what=1) (hq:q.what=1) (ss:List ByteArray):matchG ss [deepP,p,deepP,q]=match ss.getLast? with | some s=>fitsP q s&&ss.dropLast.any (fitsP p) | none=>false:=by
  unfold matchG
  rw [run3 p q hp hq]
  rfl
theorem last_take {α:Type} {l:List α} {j:Nat} (h:0<j) (hj:j<=l.length):(l.take j).getLast?=l[j - 1]?:=by
  rw [List.getLast?_eq_getElem?,List.length_take,Nat.min_eq_left hj,List.getElem?_take,if_pos (by omega)]
theorem doc_join {Z:List RP} (D:DocOk Z) (a b:ByteArray) {y:RP} (hy:y∈Z) (hb:matchG y.2 [deepP,nameP b]=true) (kid:Bool) :
    (Z.any fun x=>matchG x.2 [deepP,nameP a]&&relR kid x.1 y.1)=matchG y.2 (if kid then [deepP,nameP a,nameP b] else [deepP,nameP a,deepP,nameP b]):=by
  have hlen:=D.len y hy
  rw [match1 _ rfl] at hb
  rw [Bool.eq_iff_iff,List.any_eq_true]
  have hlast:∃ s,y.2.getLast?=some s/\fitsP (nameP b) s=true:=by
    cases h:y.2.getLast? with
    | none=>rw [h] at hb;cases hb
    | some s=>rw [h] at hb;exact ⟨s,rfl,hb⟩
  obtain ⟨s,hs,hsb⟩:=hlast
  have hne:0<y.2.length:=by
    cases h:y.2 with
    | nil=>rw [h] at hs;cases hs
    | cons _ _=>simp
  constructor
  · rintro ⟨x,hx,h⟩
    rw [Bool.and_eq_true,match1 _ rfl] at h
    obtain ⟨h1,h2⟩:=h
    unfold relR at h2
    rw [Bool.and_eq_true] at h2
    obtain ⟨hl,hp⟩:=D.up x hx y hy h2.1
    have hlx:=D.len x hx
    have hx0:0<x.2.length:=by
      cases h:x.2 with
      | nil=>rw [h] at h1;cases h1
      | cons _ _=>simp
    have hxl:x.1.lv.toNat=x.2.length:=by omega
    have hle:x.2.length<y.2.length:=by omega
    have hg:x.2.getLast?=y.2[x.2.length - 1]?:=by
      conv=>lhs;rw [hp,hxl]
      exact last_take hx0 (by omega)
    rw [hg] at h1
    rw [List.getElem?_eq_getElem (by omega)] at h1
    cases kid with
    | true =>
      have h3:y.1.lv=x.1.lv+1:=by simpa using h2.2
      rw [if_pos rfl,match2 _ _ rfl rfl,hs]
      have:y.2.dropLast.getLast?=some (y.2[x.2.length - 1]'(by omega)):=by
        rw [List.getLast?_eq_getElem?,List.length_dropLast,List.getElem?_dropLast,if_pos (by omega),<-List.getElem?_eq_getElem (by omega)]
        congr 1
        omega
      rw [this]
      show (fitsP (nameP b) s&&fitsP (nameP a) _)=true
      rw [hsb,Bool.true_and]
      exact h1
    | false =>
      rw [if_neg (by decide),match3 _ _ rfl rfl,hs]
      show (fitsP (nameP b) s&&y.2.dropLast.any (fitsP (nameP a)))=true
      rw [hsb,Bool.true_and,List.any_eq_true]
      refine ⟨_,?_,h1⟩
      rw [List.mem_iff_getElem?]
      refine ⟨x.2.length - 1,?_⟩
      rw [List.getElem?_dropLast,if_pos (by omega),List.getElem?_eq_getElem]
  · intro h
    have hk:∃ j:Nat,j+1<y.2.length/\(∃ t,y.2[j]?=some t/\fitsP (nameP a) t=true)/\(kid=true->j+2=y.2.length):=by
      cases kid with
      | true =>
        rw [if_pos rfl,match2 _ _ rfl rfl,hs] at h
        cases ht:y.2.dropLast.getLast? with
        | none=>rw [ht] at h;cases h
        | some t =>
          rw [ht] at h
          have h:(fitsP (nameP b) s&&fitsP (nameP a) t)=true:=h
          rw [Bool.and_eq_true] at h
          rw [List.getLast?_eq_getElem?,List.length_dropLast,List.getElem?_dropLast] at ht
          split at ht
          · exact ⟨y.2.length - 1 - 1,by omega,⟨t,ht,h.2⟩,fun _=>by omega⟩
          · cases ht
      | false =>
        rw [if_neg (by decide),match3 _ _ rfl rfl,hs] at h
        have h:(fitsP (nameP b) s&&y.2.dropLast.any (fitsP (nameP a)))=true:=h
        rw [Bool.and_eq_true,List.any_eq_true] at h
        obtain ⟨-,t,ht,hf⟩:=h
        obtain ⟨j,hj⟩:=List.mem_iff_getElem?.1 ht
        rw [List.getElem?_dropLast] at hj
        split at hj
        · exact ⟨j,by omega,⟨t,hj,hf⟩,fun h=>(by cases h)⟩
        · cases hj
    obtain ⟨j,hj,⟨t,ht,hf⟩,hkid⟩:=hk
    obtain ⟨x,hx,hin,hlv⟩:=D.has y hy (j+1:Nat) (by omega) (by omega)
    have hlx:=D.len x hx
    obtain ⟨-,hp⟩:=D.up x hx y hy hin
    refine ⟨x,hx,?_⟩
    rw [Bool.and_eq_true,match1 _ rfl]
    constructor
    · have hxl:x.1.lv.toNat=j+1:=by omega
      have hg:x.2.getLast?=some t:=by
        rw [hp,hxl,last_take (by omega) (by omega)]
        exact ht
      rw [hg]
      exact hf
    · unfold relR
      rw [hin,Bool.true_and]
      cases kid with
      | true =>
        have:=hkid rfl
        simp
        omega
      | false=>rfl
end Go.Sy
/- Plain law: an index of documents: its items, and what is asked of paths. No program in sight. -/
namespace Go.Sy
structure GDoc where
  id:Int
  o:Option Addr
  cap:Nat
  L:List GRec
  lo:Option Addr
  lcap:Nat
  ids:List Int
structure SInv (ps:List SRow) (s:GSt):Prop where
  inv:GInv s
  len:s.ids.length=ps.length
  st:∀ (k:Nat) (d:Int),s.ids[k]?=some d->∃ (j:Nat) (x:GLine) (p:SRow),s.xs[j]?=some x/\x.id=d/\ps[k]?=some p/\x.st=p.ss
theorem SInv.step {ps:List SRow} {s:GSt} (h:SInv ps s) (p:SRow):SInv (ps++[p]) (addOne s p):=by
  obtain ⟨h1,h2,j,y,h3,h4,h5⟩:=addOne_spec h.inv p
  refine ⟨h1,by rw [h5,List.length_append,List.length_append,h.len];rfl,fun k d hd=>?_⟩
  rw [h5] at hd
  by_cases hk:k<s.ids.length
  · rw [List.getElem?_append_left hk] at hd
    obtain ⟨j',x,q,e1,e2,e3,e4⟩:=h.st k d hd
    obtain ⟨y',f1,f2,f3⟩:=h2 j' x e1
    exact ⟨j',y',q,f1,by rw [f3,e2],by rw [List.getElem?_append_left (by rw [<-h.len];exact hk)];exact e3,by rw [f2,e4]⟩
  · rw [List.getElem?_append_right (by omega)] at hd
    have h0:k - s.ids.length=0:=by
      have:=(List.getElem?_eq_some_iff.1 hd).1
      simp only [List.length_singleton] at this
      omega
    rw [h0] at hd
    injection hd with hd
    refine ⟨j,y,p,h3,hd,?_,h4⟩
    rw [List.getElem?_append_right (by rw [<-h.len];omega),<-h.len,h0]
    rfl
theorem SInv.all:∀ (qs ps:List SRow) {s:GSt},SInv ps s->SInv (ps++qs) (addAll s qs)
  | [],ps,s,h=>by rw [List.append_nil];exact h
  | q::qs,ps,s,h=>by
    have:=SInv.all qs (ps++[q]) (h.step q)
    rw [List.append_assoc] at this
    exact this
theorem SInv.start {xs:List GLine} {next:Int} {ids:List Int} (h:GInv ⟨xs,next,ids⟩):SInv [] ⟨xs,next,[]⟩:=⟨⟨h.next,h.at_⟩,rfl,fun k d hd=>by cases hd⟩
def LinesOk (xs:List GLine) (d:GDoc):Prop:=d.ids.length=d.L.length/\∀ (i:Nat) (k:Int) (p:List ByteArray),d.ids[i]?=some k->(pathsG d.L)[i]?=some p->∃ (j:Nat) (x:GLine),xs[j]?=some x/\x.st=p/\x.id=k
structure IdxP (ds:List GDoc) (xs:List GLine) (next:Int):Prop where
  inv:GInv ⟨xs,next,[]⟩
  ord:ds.Pairwise fun x y=>x.id<y.id
  doc:∀ d∈ds,LinesOk xs d
theorem IdxP.nil:IdxP [] [] 0:=⟨⟨rfl,fun j x h=>(by cases h)⟩,List.Pairwise.nil,fun _ h=>(by cases h)⟩
theorem IdxP.add {ds:List GDoc} {xs:List GLine} {next:Int} (h:IdxP ds xs next) {d:GDoc} (hd:∀ x∈ds,x.id<d.id) {rows:List SRow} (hr:rows.map SRow.ss=pathsG d.L) (hi:d.ids=(addAll ⟨xs,next,[]⟩ rows).ids) :
    IdxP (ds++[d]) (addAll ⟨xs,next,[]⟩ rows).xs (addAll ⟨xs,next,[]⟩ rows).next:=by
  have hS:=SInv.all rows [] (SInv.start h.inv)
  obtain ⟨h1,h2,-⟩:=addAll_inv rows h.inv
  rw [List.nil_append] at hS
  have hpl:(pathsG d.L).length=d.L.length:=pathsF_len _ _
  refine ⟨⟨h1.next,h1.at_⟩,?_,fun x hx=>?_⟩
  · rw [List.pairwise_append]
    refine ⟨h.ord,List.pairwise_singleton _ _,fun x hx y hy=>?_⟩
    rw [List.mem_singleton] at hy
    subst hy
    exact hd x hx
  · rcases List.mem_append.1 hx with hx | hx
    · obtain ⟨e1,e2⟩:=h.doc x hx
      refine ⟨e1,fun i k p hk hp=>?_⟩
      obtain ⟨j,y,f1,f2,f3⟩:=e2 i k p hk hp
      obtain ⟨z,g1,g2,g3⟩:=h2 j y f1
      exact ⟨j,z,g1,by rw [g2,f2],by rw [g3,f3]⟩
    · rw [List.mem_singleton] at hx
      subst hx
      refine ⟨by rw [hi,hS.len,<-hpl,<-hr,List.length_map],fun i k p hk hp=>?_⟩
      rw [hi] at hk
      obtain ⟨j,y,q,f1,f2,f3,f4⟩:=hS.st i k hk
      rw [<-hr,List.getElem?_map,f3] at hp
      injection hp with hp
      exact ⟨j,y,f1,by rw [f4];exact hp,f2⟩
def onD (lines:Int->Bool) (d:GDoc):List GItem:=(((itemsD d.id d.L).zip d.ids).filter fun x=>lines x.2).map Prod.fst
def onG (lines:Int->Bool) (ds:List GDoc):List GItem:=ds.flatMap (onD lines)
def pItems (d:GDoc):List (GItem×List ByteArray):=(itemsD d.id d.L).zip (pathsG d.L)
theorem mem_allG {q:Nat->GLine->Bool} {y:Int}:∀ (l:List GLine) (k:Nat),y∈allG q l k↔∃ (j:Nat) (x:GLine),l[j]?=some x/\q (k+j) x=true/\x.id=y
  | [],k=>by simp [allG]
  | x::l,k=>by
    have ih:=mem_allG (q:=q) (y:=y) l (k+1)
    have hsp:(∃ (j:Nat) (z:GLine),(x::l)[j]?=some z/\q (k+j) z=true/\z.id=y)↔(q k x=true/\x.id=y)\/∃ (j:Nat) (z:GLine),l[j]?=some z/\q (k+1+j) z=true/\z.id=y:=by
      constructor
      · rintro ⟨j,z,h1,h2,h3⟩
        cases j with
        | zero =>
          injection h1 with h1
          subst h1
          exact .inl ⟨h2,h3⟩
        | succ j=>exact .inr ⟨j,z,h1,by rw [show k+1+j=k+(j+1) by omega];exact h2,h3⟩
      · rintro (⟨h1,h2⟩ | ⟨j,z,h1,h2,h3⟩)
        · exact ⟨0,x,rfl,h1,h2⟩
        · exact ⟨j+1,z,h1,by rw [show k+(j+1)=k+1+j by omega];exact h2,h3⟩
    rw [hsp,<-ih]
    show y∈(if q k x then x.id::allG q l (k+1) else allG q l (k+1))↔_
    cases hq:q k x
    · simp
    · rw [if_pos rfl,List.mem_cons]
      constructor
      · rintro (h | h)
        · exact .inl ⟨rfl,h.symm⟩
        · exact .inr h
      · rintro (h | h)
        · exact .inl h.2.symm
        · exact .inr h
theorem mem_match {xs:List GLine} {next:Int} (h:GInv ⟨xs,next,[]⟩) {j:Nat} {x:GLine} (hx:xs[j]?=some x) (ps:List GPat):x.id∈matchIds xs ps↔matchG x.st ps=true:=by
  unfold matchIds
  rw [mem_allG]
  constructor
  · rintro ⟨i,y,h1,h2,h3⟩
    have e1:=(h.at_ i y h1).1
    have e2:=(h.at_ j x hx).1
    have:i=j:=by omega
    subst this
    rw [hx] at h1
    injection h1 with h1
    subst h1
    exact h2
  · intro h1
    exact ⟨j,x,hx,h1,rfl⟩
theorem filter_zip3 {α β γ:Type} (f:β->Bool) (g:γ->Bool):∀ (a:List α) (b:List β) (c:List γ),a.length=b.length->a.length=c.length->(∀ (i:Nat) y z,b[i]?=some y->c[i]?=some z->f y=g z) ->
    ((a.zip b).filter fun x=>f x.2).map Prod.fst=((a.zip c).filter fun x=>g x.2).map Prod.fst
  | [],_,_,_,_,_=>by simp
  | x::a,[],_,h,_,_=>by simp at h
  | x::a,_::_,[],_,h,_=>by simp at h
  | x::a,y::b,z::c,h1,h2,h=>by
    have ih:=filter_zip3 f g a b c (by simpa using h1) (by simpa using h2) fun i y z hy hz=>h (i+1) y z hy hz
    have h0:=h 0 y z rfl rfl
    rw [List.zip_cons_cons,List.zip_cons_cons,List.filter_cons,List.filter_cons]
    dsimp only
    rw [h0]
    split
    · rw [List.map_cons,List.map_cons,ih]
    · exact ih
theorem on_match {ds:List GDoc} {xs:List GLine} {next:Int} (h:IdxP ds xs next) (ps:List GPat) :
    onG (fun k=>decide (k∈matchIds xs ps)) ds=((ds.flatMap pItems).filter fun x=>matchG x.2 ps).map Prod.fst:=by
  have hd:∀ d∈ds,onD (fun k=>decide (k∈matchIds xs ps)) d=((pItems d).filter fun x=>matchG x.2 ps).map Prod.fst:=by
    intro d hd
    obtain ⟨e1,e2⟩:=h.doc d hd
    have hpl:(pathsG d.L).length=d.L.length:=pathsF_len _ _
    refine filter_zip3 (fun k=>decide (k∈matchIds xs ps)) (fun p=>matchG p ps) _ _ _ (by rw [itemsD_len,e1]) (by rw [itemsD_len,hpl]) fun i k p hk hp=>?_
    obtain ⟨j,x,f1,f2,f3⟩:=e2 i k p hk hp
    rw [<-f3,<-f2,Bool.eq_iff_iff,decide_eq_true_eq]
    exact mem_match h.inv f1 ps
  clear h
  unfold onG
  induction ds with
  | nil=>rfl
  | cons d ds ih =>
    rw [List.flatMap_cons,List.flatMap_cons,List.filter_append,List.map_append,ih fun x hx=>hd x (List.mem_cons_of_mem d hx),hd d List.mem_cons_self]
theorem pItems_fst (d:GDoc):(pItems d).map Prod.fst=itemsD d.id d.L:=by
  unfold pItems
  rw [List.map_fst_zip]
  rw [itemsD_len]
  unfold pathsG
  rw [pathsF_len]
  exact Nat.le_refl _
theorem flat_fst (ds:List GDoc):(ds.flatMap pItems).map Prod.fst=ds.flatMap fun d=>itemsD d.id d.L:=by
  induction ds with
  | nil=>rfl
  | cons d ds ih=>rw [List.flatMap_cons,List.flatMap_cons,List.map_append,ih,pItems_fst]
def ShrD (d:GDoc):Prop:=∃ (gap:Int) (g:GVal),0<gap/\g.wf/\d.L=(shredV gap g 0 false emptyS 0).1
theorem ShrD.lam {d:GDoc} (h:ShrD d):LamS (d.L.map se):=by
  obtain ⟨gap,g,hg,hw,e⟩:=h
  rw [e,(shredV_sk gap g 0 false emptyS 0 hw).1]
  exact lamV hg g 0
theorem lam_idx {ds:List GDoc} (ho:ds.Pairwise fun x y=>x.id<y.id) (h:∀ d∈ds,ShrD d):Lam (ds.flatMap fun d=>itemsD d.id d.L):=by
  have:=lam_docs (ds.map fun d=>(d.id,d.L)) (by rw [List.pairwise_map];exact ho) (fun x hx=>by
    obtain ⟨d,hd,rfl⟩:=List.mem_map.1 hx
    exact (h d hd).lam)
  rw [List.flatMap_map] at this
  exact this
theorem mem_pItems {d:GDoc} {y:GItem×List ByteArray} (h:y∈pItems d):∃ (r:GRec) (i:Nat),y.1=itemOf d.id r i/\(r,y.2)∈zipP [] d.L:=by
  obtain ⟨k,hk,rfl⟩:=List.mem_iff_getElem.1 h
  unfold pItems at hk ⊢
  rw [List.length_zip,itemsD_len] at hk
  have hpl:(pathsG d.L).length=d.L.length:=pathsF_len _ _
  have hkl:k<d.L.length:=by omega
  refine ⟨d.L[k],k,?_,?_⟩
  · rw [List.getElem_zip]
    have:=itemsD_get (id:=d.id) (List.getElem?_eq_getElem hkl)
    rw [List.getElem?_eq_getElem (by rw [itemsD_len];exact hkl)] at this
    exact Option.some.inj this
  · rw [List.getElem_zip]
    show (d.L[k],(pathsG d.L)[k]'(by omega))∈d.L.zip (pathsF [] d.L)
    rw [List.mem_iff_getElem]
    refine ⟨k,by rw [List.length_zip];show k<min d.L.length (pathsG d.L).length;omega,?_⟩
    rw [List.getElem_zip]
    rfl
theorem of_zipP {d:GDoc} {x:RP} (h:x∈zipP [] d.L):∃ i:Nat,(itemOf d.id x.1 i,x.2)∈pItems d:=by
  obtain ⟨k,hk,rfl⟩:=List.mem_iff_getElem.1 h
  unfold zipP at hk ⊢
  rw [List.length_zip] at hk
  have hkl:k<d.L.length:=by omega
  refine ⟨k,?_⟩
  unfold pItems
  rw [List.mem_iff_getElem]
  have hpl:(pathsG d.L).length=d.L.length:=pathsF_len _ _
  refine ⟨k,by rw [List.length_zip,itemsD_len];omega,?_⟩
  rw [List.getElem_zip,List.getElem_zip]
  have:=itemsD_get (id:=d.id) (List.getElem?_eq_getElem hkl)
  rw [List.getElem?_eq_getElem (by rw [itemsD_len];exact hkl)] at this
  rw [Option.some.inj this]
  rfl
theorem join_paths {ds:List GDoc} (ho:ds.Pairwise fun x y=>x.id<y.id) (h:∀ d∈ds,ShrD d) (a b:ByteArray) (kid:Bool) :
    ((((ds.flatMap pItems).filter fun x=>matchG x.2 [deepP,nameP b]).map Prod.fst).filter fun y=>(((ds.flatMap pItems).filter fun x=>matchG x.2 [deepP,nameP a]).map Prod.fst).any fun z=>fitsI z y kid) =
      ((ds.flatMap pItems).filter fun x=>matchG x.2 (if kid then [deepP,nameP a,nameP b] else [deepP,nameP a,deepP,nameP b])).map Prod.fst:=by
  rw [List.filter_map,List.filter_filter]
  congr 1
  apply List.filter_congr
  intro y hy
  obtain ⟨d,hd,hyd⟩:=List.mem_flatMap.1 hy
  obtain ⟨r,i,e1,hz⟩:=mem_pItems hyd
  obtain ⟨gap,g,hg,hw,eL⟩:=h d hd
  have D:DocOk (zipP [] d.L):=by rw [eL];exact doc_ok hg g hw 0
  cases hb:matchG y.2 [deepP,nameP b] with
  | false =>
    rw [Bool.and_false]
    symm
    rw [match1 _ rfl] at hb
    cases hl:y.2.getLast? with
    | none =>
      cases kid with
      | true=>rw [if_pos rfl,match2 _ _ rfl rfl,hl]
      | false=>rw [if_neg (by decide),match3 _ _ rfl rfl,hl]
    | some s =>
      rw [hl] at hb
      have hb:fitsP (nameP b) s=false:=hb
      cases kid with
      | true =>
        rw [if_pos rfl,match2 _ _ rfl rfl,hl]
        cases y.2.dropLast.getLast? with
        | none=>rfl
        | some t=>show (fitsP (nameP b) s&&_)=false;rw [hb,Bool.false_and]
      | false =>
        rw [if_neg (by decide),match3 _ _ rfl rfl,hl]
        show (fitsP (nameP b) s&&_)=false
        rw [hb,Bool.false_and]
  | true =>
    rw [Bool.and_true,<-doc_join D a b hz hb kid]
    show (List.any (((ds.flatMap pItems).filter fun x=>matchG x.2 [deepP,nameP a]).map Prod.fst) fun z=>fitsI z y.1 kid)=_
    rw [Bool.eq_iff_iff,List.any_eq_true,List.any_eq_true]
    constructor
    · rintro ⟨z,hzm,hf⟩
      obtain ⟨x,hx,rfl⟩:=List.mem_map.1 hzm
      obtain ⟨hx,hxa⟩:=List.mem_filter.1 hx
      obtain ⟨d',hd',hxd⟩:=List.mem_flatMap.1 hx
      obtain ⟨r',i',e1',hz'⟩:=mem_pItems hxd
      rw [e1,e1'] at hf
      unfold fitsI at hf
      rw [Bool.and_eq_true,holdsI_iff] at hf
      have hdd:d'=d:=by
        have hid:d'.id=d.id:=hf.1.1
        obtain ⟨m,hm,rfl⟩:=List.mem_iff_getElem.1 hd
        obtain ⟨n,hn,rfl⟩:=List.mem_iff_getElem.1 hd'
        rw [List.pairwise_iff_getElem] at ho
        rcases Nat.lt_trichotomy m n with h | h | h
        · have:=ho m n hm hn h;omega
        · subst h;rfl
        · have:=ho n m hn hm h;omega
      subst hdd
      refine ⟨(r',x.2),hz',?_⟩
      rw [Bool.and_eq_true]
      refine ⟨hxa,?_⟩
      unfold relR
      rw [Bool.and_eq_true,inR_iff]
      exact ⟨hf.1.2,hf.2⟩
    · rintro ⟨x,hx,hf⟩
      rw [Bool.and_eq_true] at hf
      obtain ⟨i',hi'⟩:=of_zipP hx
      refine ⟨itemOf d.id x.1 i',List.mem_map.2 ⟨_,List.mem_filter.2 ⟨List.mem_flatMap.2 ⟨d,hd,hi'⟩,hf.1⟩,rfl⟩,?_⟩
      have h2:=hf.2
      unfold relR at h2
      rw [Bool.and_eq_true,inR_iff] at h2
      rw [e1]
      unfold fitsI
      rw [Bool.and_eq_true,holdsI_iff]
      exact ⟨⟨rfl,h2.1⟩,h2.2⟩
end Go.Sy
/- Regions whose orders fork: of two operations that change the world, either may come first, and both ways are gone. No program in sight. -/
namespace Go.Sy
structure GJ (cf:Cf) (ops:Array Oper) (U bef:List Nat) (n:Nat) (listed:Array Bool) (fst:Bool) (Q:Exit->Act->World->Prop) (σ:Snap) (env:Env) (hp:HP) (A:List AE) (nh:Nat):Prop where
  run:Region.noSelect ops=true->Bd env hp nh->∀ a β,StA cf env β a->(∃ w,StW cf σ hp A β w)->Closed ops listed->∀ E0:World->Prop,(∀ x,StW cf σ hp A β x->E0 x) ->
    (fst=true->∀ x,E0 x->StW cf σ hp A β x)->wpAnyC cf.P ops U Q n listed a E0 (fun w=>StW cf σ hp A β w)
structure GK (cf:Cf) (ops:Array Oper) (U bef:List Nat) (n:Nat) (listed:Array Bool) (j:Nat) (Q:Exit->Act->World->Prop) (σ:Snap) (env:Env) (hp:HP) (A:List AE) (nh:Nat):Prop where
  run:Region.noSelect ops=true->Bd env hp nh->∀ a β,StA cf env β a->(∃ w,StW cf σ hp A β w)->Closed ops listed->j∈Region.ready .any ops listed->∀ E0:World->Prop,(∀ x,StW cf σ hp A β x->E0 x) ->
    stepC cf.P ops U Q j (wpAnyC cf.P ops U Q n (listed.setIfInBounds j true)) a E0 (fun w=>StW cf σ hp A β w)
section
variable {cf:Cf} {Q:Exit->Act->World->Prop} {σ:Snap} {env:Env} {hp:HP} {A:List AE} {nh:Nat} {ops:Array Oper} {U bef:List Nat} {n:Nat} {listed:Array Bool} {fst:Bool}
theorem cj_drawG {id:Nat} (m:Nat) (U:List Nat) (hm:cf.P.follows .mixedOrders=true) (hs:Region.noSelect ops=true) (hn:ops.size=m)
    (h:GJ cf ops U [] m (Array.replicate m false) true Q σ env hp A nh) (hd:okRd cf.rd ops=true:=by rfl):CJ cf (.region id ops true) Q σ env hp A nh:=by
  subst hn
  refine ⟨fun hb a β w ha hw=>wpIn_region_any hm ?_⟩
  have hc:Closed ops (Array.replicate ops.size false):=⟨by simp,fun j oj _ hl=>by
    exfalso
    rcases Nat.lt_or_ge j ops.size with h | h
    · simp [h] at hl
    · simp [h] at hl⟩
  exact wpAnyIn_of_C (okRd_mem hd) _ _ _ _ _ _ hw.drew (h.run hs hb a β ha ⟨_,hw⟩ hc _ (fun _ h=>h) (fun _ _ h=>h))
theorem gj_valT {i d:Nat} {o:Oper} (y:SV) (hi:ops[i]?=some o) (hr:(Region.ready .any ops listed).contains i=true) (hf:Region.free .any ops listed i=true) (hk:(U.contains i||fst)=true)
    (hd:o.dst=some d) (hg:guardVal (slotOf ops o) env=some true) (hN:Nat.blt d cf.N=true) (hlt:y.lt nh)
    (hrun:Bd env hp nh->∀ a β,StA cf env β a->∀ w,(U.contains i=false->StW cf σ hp A β w)->(execOp a.eval o).run cf.P w=.ok (.value (y.den β)) w)
    (k:GJ cf ops U (bef++[i]) n (listed.setIfInBounds i true) fst Q σ ((d,y)::env) hp A nh):GJ cf ops U bef (n+1) listed fst Q σ env hp A nh:=by
  refine ⟨fun hs hb a β ha hex hc E0 hE hF=>?_⟩
  have hN':d<cf.N:=by simpa [Nat.blt_eq] using hN
  have hr':i∈Region.ready .any ops listed:=by simpa using hr
  have hw:Region.wanted o (yielded ops a.tmps)=true:=by rw [<-wantedS_slotOf];exact guardVal_ok ha hg
  have hrest:=k.run hs (hb.put hlt d) _ β (ha.put hN' y) hex (hc.set hr') E0 hE hF
  refine wpAnyC_first hi (Region.noSelect_spec hs) n listed a E0 _ hc hE (Region.free_spec hi hf) hr' ⟨.inl ⟨hw,fun w hE0=>.inl ?_⟩,fun hu=>.inl ⟨hw,fun w _=>.inl ?_⟩⟩ (by rw [hd];exact hrest)
  · refine hrun hb a β ha w fun hu=>?_
    rw [hu,Bool.false_or] at hk
    exact hF hk w hE0
  · exact hrun hb a β ha w fun hu'=>absurd (List.contains_iff_mem.2 hu) (by rw [hu'];simp)
theorem gj_val {i d:Nat} {o:Oper} {T:List (Nat×TI)} (hT:TTok cf.P T) {x:SV} (hi:ops[i]?=some o) (hr:(Region.ready .any ops listed).contains i=true) (hf:Region.free .any ops listed i=true)
    (hk:(bif U.contains i then !isLoad o.op else fst)=true) (hd:o.dst=some d) (hg:guardVal (slotOf ops o) env=some true) (hN:Nat.blt d cf.N=true) (h:stepOp T o.op env hp nh=some (.val x))
    (k:GJ cf ops U (bef++[i]) n (listed.setIfInBounds i true) fst Q σ ((d,x)::env) hp A nh):GJ cf ops U bef (n+1) listed fst Q σ env hp A nh:=by
  refine ⟨fun hs hb a β ha hex hc E0 hE hF=>?_⟩
  have hx:x.lt nh:=(step_ok (o:=o) hT ha hb h).1
  refine (gj_valT x hi hr hf ?_ hd hg hN hx (fun hb a β ha w hw=>?_) k).run hs hb a β ha hex hc E0 hE hF
  · cases hu:U.contains i<;>rw [hu] at hk
    · simpa using hk
    · rfl
  · refine (step_ok (o:=o) hT ha hb h).2 w fun hl=>⟨σ,A,hw ?_⟩
    cases hu:U.contains i with
    | false=>rfl
    | true=>rw [hu,cond_true,hl] at hk;cases hk
theorem gj_fork (js:List Nat) (hr:(Region.ready .any ops listed == js)=true) (hne:js.isEmpty=false) (k:∀ j,j∈js->GK cf ops U bef n listed j Q σ env hp A nh):GJ cf ops U bef (n+1) listed fst Q σ env hp A nh:=by
  refine ⟨fun hs hb a β ha hex hc E0 hE hF=>?_⟩
  have hr':=eq_of_beq hr
  refine ⟨fun h0=>?_,fun j hj=>(k j (by rw [<-hr'];exact hj)).run hs hb a β ha hex hc hj E0 hE⟩
  rw [hr'] at h0
  subst h0
  cases hne
theorem gj_two {i j:Nat} (hr:(Region.ready .any ops listed == [i,j])=true) (ki:GK cf ops U bef n listed i Q σ env hp A nh) (kj:GK cf ops U bef n listed j Q σ env hp A nh):GJ cf ops U bef (n+1) listed fst Q σ env hp A nh :=
  gj_fork [i,j] hr rfl fun m hm=>by
    simp only [List.mem_cons,List.not_mem_nil,or_false] at hm
    rcases hm with rfl | rfl
    · exact ki
    · exact kj
theorem gk_call {j d:Nat} {o:Oper} {f:FuncId} {ys:List SV} {Φ:Value->Snap->Prop} (hj:ops[j]?=some o) (hc:callee env o.op=some (f,ys)) (hd:o.dst=some d) (hg:guardVal (slotOf ops o) env=some true)
    (hN:Nat.blt d cf.N=true) (hcall:∀ args w,(callFunc f args).run cf.P w=.ok (.enter f args) w) (hlt:LtAll ys) (hC:PureS cf.P f ys σ Φ)
    (k:∀ v σ',σ.le σ'->Φ v σ'->∃ y:SV,y.lt 0/\y.den β0=v/\GJ cf ops U (bef++[j]) n (listed.setIfInBounds j true) false Q σ' ((d,y)::env) hp A nh):GK cf ops U bef n listed j Q σ env hp A nh:=by
  refine ⟨fun hs hb a β ha hex hcl hr E0 hE=>?_⟩
  have hN':d<cf.N:=by simpa [Nat.blt_eq] using hN
  have den0:∀ {y:SV},y.lt 0->y.den β=y.den β0:=fun hy=>SV.den_congr (n:=0) (fun i hi=>by omega) hy
  have hargs:(ys.map (SV.den β)).toArray=(ys.map (SV.den β0)).toArray:=by
    rw [List.map_congr_left fun y hy=>den0 (hlt.of y hy)]
  have hwant:Region.wanted o (yielded ops a.tmps)=true:=by rw [<-wantedS_slotOf];exact guardVal_ok ha hg
  unfold stepC
  simp only [hj]
  rw [if_pos hwant]
  intro w hw
  unfold Oper.wq
  rw [callee_ok ha hc hcall]
  simp only [Oper.uponIn]
  rw [hargs]
  refine ⟨fun h=>(by cases h),CallsIn.mono (callsIn_FR.2 (hC w hw.sealed)) fun e w' ⟨v,σ',he,h1,h2,h3,h4⟩=>?_⟩
  subst he
  have hw':=hw.after h1 h2 h3
  have hσ:∀ {b},σ' b=none->σ b=none:=fun hb=>Snap.none_of_le h2.le hb
  have hsub:∀ x,StW cf σ' hp A β x->StW cf σ hp A β x:=by
    intro x hx
    refine ⟨hx.os,hx.tape,hx.output,hx.size,hx.fr,fun b o hb=>hx.sealed b o (h2.le b o hb),hw.le,hw.grow,fun i e cs hi=>?_,hw.ro,hx.inj,fun i E hE=>(hx.arr i E hE).weak hσ,hx.arrd,hx.arrh⟩
    obtain ⟨q1,q2,q3,q4⟩:=hx.loc i e cs hi
    exact ⟨q1,q2,hσ q3,q4⟩
  obtain ⟨y,hy,hyv,hk⟩:=k v σ' h2.le h4
  refine ⟨E0,_,hw',fun x hx=>hE x (hsub x hx),.inl fun _ h=>h,?_⟩
  have:=hk.run hs (hb.put (SV.lt_mono (Nat.zero_le _) hy) d) (a.put (some d) (y.den β)) β (ha.put hN' y) ⟨_,hw'⟩ (hcl.set hr) E0 (fun x hx=>hE x (hsub x hx)) (fun h=>by cases h)
  rw [hd,<-hyv,<-den0 hy]
  exact this
theorem gk_new {j d:Nat} {o:Oper} {T:List (Nat×TI)} (hT:TTok cf.P T) {e:TypeId} {cs:List AT} {x:AT} (hj:ops[j]?=some o) (h:stepOp T o.op env hp nh=some (.new e cs x)) (hd:o.dst=some d) (hg:guardVal (slotOf ops o) env=some true)
    (hN:Nat.blt d cf.N=true) (k:GJ cf ops U (bef++[j]) n (listed.setIfInBounds j true) false Q σ ((d,.a x)::env) ((nh,.loc e,cs)::hp) A (nh+1)):GK cf ops U bef n listed j Q σ env hp A nh:=by
  refine ⟨fun hs hb a β ha hex hcl hr E0 hE=>?_⟩
  have hN':d<cf.N:=by simpa [Nat.blt_eq] using hN
  have hwant:Region.wanted o (yielded ops a.tmps)=true:=by rw [<-wantedS_slotOf];exact guardVal_ok ha hg
  obtain ⟨hcs,hx,hrun⟩:=step_ok (o:=o) hT ha hb h
  have hxl:(SV.a x).lt (nh+1):=by
    rcases hx with rfl | ⟨n,rfl⟩<;>exact Nat.lt_succ_self nh
  unfold stepC
  simp only [hj]
  rw [if_pos hwant]
  intro w hw
  unfold Oper.wq
  rw [hrun w]
  have hw':=hw.alloc (e:=e) hb hcs
  have hβ:=upd_old β nh w
  have hg2:∀ {i k l},hp.get i=some (k,l)->HP.get ((nh,HK.loc e,cs)::hp) i=some (k,l):=by
    intro i k l hi
    have hlt:=(hb.hp i k l hi).1
    rw [HP.get_cons,if_neg (by omega)]
    exact hi
  have keepS:∀ w',StW cf σ ((nh,.loc e,cs)::hp) A (upd β nh w) w'->StW cf σ hp A β w':=by
    intro w' s
    refine ⟨s.os,s.tape,s.output,s.size,s.fr,s.sealed,s.le,s.grow,fun i e' l hi=>?_,fun i l hi j c hc=>?_,fun i j e1 e2 l1 l2 hi hj heq=>?_,s.arr,s.arrd,fun i j E e' l hE hj=>?_⟩
    · obtain ⟨hlt,hl⟩:=hb.hp i _ l hi
      have:=s.loc i e' l (hg2 hi)
      rw [hβ i hlt,AT.denL_congr hβ hl] at this
      exact this
    · obtain ⟨hlt,hl⟩:=hb.hp i _ l hi
      have:=s.ro i l (hg2 hi) j c hc
      rw [hβ i hlt,AT.den_congr hβ (hl c (List.mem_of_getElem? hc))] at this
      exact this
    · have h1:=(hb.hp i _ l1 hi).1
      have h2:=(hb.hp j _ l2 hj).1
      exact s.inj i j e1 e2 l1 l2 (hg2 hi) (hg2 hj) (by rw [hβ i h1,hβ j h2];exact heq)
    · have h1:=(hb.hp j _ l hj).1
      have:=s.arrh i j E e' l hE (hg2 hj)
      rw [hβ j h1] at this
      exact this
  refine ⟨E0,_,hw',fun x hx=>hE x (keepS x hx),.inl fun _ h=>h,?_⟩
  rw [hd]
  exact k.run hs ((hb.mono (Nat.le_succ nh)).row (Nat.lt_succ_self nh) (fun c hc=>AT.lt_mono (Nat.le_succ nh) (hcs c hc)) |>.put hxl d) _ (upd β nh w) ((ha.congr hb hβ).put hN' (.a x)) ⟨_,hw'⟩ (hcl.set hr) E0 (fun x hx=>hE x (keepS x hx)) (fun h=>by cases h)
theorem gj_order (l:List (Nat×Tag)) (hl:(l.all fun p=>decide (p.1<ops.size))=true) (hq:noQuiet (itemsOf ops l)=true) (ho:orderFrom ops U bef l listed=true) (h:OJ cf (itemsOf ops l) Q σ env hp A nh) :
    GJ cf ops U bef l.length listed fst Q σ env hp A nh:=by
  refine ⟨fun hs hb a β ha hex hc E0 hE _=>?_⟩
  have:=run_wider hE _ _ a hq (h.run hb a β ha hex)
  exact run_order hs l bef listed a E0 _ hc hE (fun p hp=>by simpa using List.all_eq_true.1 hl p hp) ho this
end
end Go.Sy
/- More rules: room made by 'append(nil, make(..)..)'; values read in a wider class. No program in sight. -/
namespace Go.Sy
section
variable {cf:Cf} {Q:Exit->Act->World->Prop} {σ:Snap} {env:Env} {hp:HP} {A:List AE} {nh:Nat} {it:Item} {rest:List Item}
variable {W:(Nat->Addr)->World->Prop}
theorem StW.dropA {β:Nat->Addr} {w:World} (h:StW cf σ hp A β w):StW cf σ hp [] β w :=
  { h with arr:=fun i E hi=>(by simp at hi),arrd:=fun i j E F hi=>(by simp at hi),arrh:=fun i j E e cs hi=>(by simp at hi) }
end
end Go.Sy
