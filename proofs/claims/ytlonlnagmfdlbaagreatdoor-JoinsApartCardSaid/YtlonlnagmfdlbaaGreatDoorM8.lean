/- Parts of the proof of CJoinsApart: F37, F38, Lg, Jb, Jd, SyU, SyW, H1, SyY. No conditions. -/
import Derived.Test.YtlonlnagmfdlbaaGreatDoorM7
namespace Go.Sy
open Go.Proofs
def deepAt (ps:List GPat) (V:List Bool) (k:Nat):List Bool:=match ps[k]? with
  | some p=>if p.what=4 then (if V.getD k false then V.set (k+1) true else V) else V
  | none=>V
def deepV (ps:List GPat) (V:List Bool):List Bool:=(List.range ps.length).foldl (deepAt ps) V
def patAt (ps:List GPat) (V:List Bool) (s:ByteArray) (N:List Bool) (k:Nat):List Bool:=match ps[k]? with
  | some p=>if V.getD k false then (if p.what=4 then N.set k true else if fitsP p s then N.set (k+1) true else N) else N
  | none=>N
def nextV (ps:List GPat) (V:List Bool) (s:ByteArray):List Bool:=(List.range ps.length).foldl (patAt ps V s) (List.replicate (ps.length+1) false)
def startV (ps:List GPat):List Bool:=deepV ps ((List.replicate (ps.length+1) false).set 0 true)
def runV (ps:List GPat) (ss:List ByteArray):List Bool:=ss.foldl (fun V s=>deepV ps (nextV ps V s)) (startV ps)
def matchG (ss:List ByteArray) (ps:List GPat):Bool:=(runV ps ss).getD ps.length false
theorem deepAt_len (ps:List GPat) (V:List Bool) (k:Nat):(deepAt ps V k).length=V.length:=by
  unfold deepAt
  split
  · split
    · split
      · rw [List.length_set]
      · rfl
    · rfl
  · rfl
theorem fold_len {α β:Type} (f:List α->β->List α) (hf:∀ l b,(f l b).length=l.length):∀ (bs:List β) (l:List α),(bs.foldl f l).length=l.length
  | [],_=>rfl
  | b::bs,l=>by rw [List.foldl_cons,fold_len f hf bs,hf]
theorem deepV_len (ps:List GPat) (V:List Bool):(deepV ps V).length=V.length:=fold_len _ (deepAt_len ps) _ _
theorem patAt_len (ps:List GPat) (V:List Bool) (s:ByteArray) (N:List Bool) (k:Nat):(patAt ps V s N k).length=N.length:=by
  unfold patAt
  split
  · split
    · split
      · rw [List.length_set]
      · split
        · rw [List.length_set]
        · rfl
    · rfl
  · rfl
theorem nextV_len (ps:List GPat) (V:List Bool) (s:ByteArray):(nextV ps V s).length=ps.length+1:=by
  unfold nextV
  rw [fold_len _ (patAt_len ps V s),List.length_replicate]
theorem startV_len (ps:List GPat):(startV ps).length=ps.length+1:=by
  unfold startV
  rw [deepV_len,List.length_set,List.length_replicate]
theorem range_fold {α:Type} (f:α->Nat->α) (a:α) (k:Nat):(List.range (k+1)).foldl f a=f ((List.range k).foldl f a) k:=by
  rw [List.range_succ,List.foldl_append]
  rfl
def blE (g:Nat) (V:List Bool):AE:=⟨some ⟨g,0,none⟩,V.length,V.length,4,1,V.map Value.bool⟩
def nwE (g5 gb n:Nat):AE:=⟨some ⟨g5,0,none⟩,1,1,78,1,[.slice (some ⟨gb,0,none⟩) n n]⟩
theorem bl_get {V:List Bool} {k:Nat} {b:Bool} (h:V[k]?=some b):(V.map Value.bool)[k]?=some (AT.b b).val:=by rw [List.getElem?_map,h];rfl
theorem bl_set (g:Nat) (V:List Bool) (k:Nat):(⟨some ⟨g,0,none⟩,V.length,V.length,4,1,(V.map Value.bool).set k (AT.val .tt)⟩:AE)=blE g (V.set k true):=by
  unfold blE
  rw [List.length_set,List.map_set]
  rfl
theorem getD_of {V:List Bool} {k:Nat} {b:Bool} (h:V[k]?=some b):V.getD k false=b:=by rw [List.getD_eq_getElem?_getD,h];rfl
set_option maxRecDepth 100000 in
set_option maxHeartbeats 1000000 in
theorem deep_c (σ:Snap) (ps:List GPat) (hl:ps.length<=1000000) (po:Option Addr) (pc:Nat) (P:SlAt σ po ps.length pc 2 (ptRows ps)) (g3 g5 gb:Nat) (h3:σ.cell ⟨g3,0,none⟩=some (.slice po ps.length pc)) (V:List Bool) (hV:V.length=ps.length+1) :
    FnS Tryz.prog 211 ([ptrTo g3,ptrTo g5].map ptSV) σ [nwE g5 gb V.length,blE gb V] (fun v _ A'=>v=.tuple #[]/\A'=[nwE g5 gb V.length,blE gb (deepV ps V)]):=by
  refine enter_f Tryz.func211 rfl rfl ⟨trivial,trivial,trivial⟩ fun w=>?_
  refine cj_seq ?_
  refine cj_region ?_
  refine oj_ldS (c:=.v (.slice po ps.length pc)) TT rfl rfl rfl rfl rfl rfl rfl rfl h3 trivial (oj_run TT rfl ?_)
  (repeat (first | refine oj_then ?_ | refine cj_block ?_))
  refine cj_loop (fun (_:Nat)=>σ) (fun k=>[(1,.a (.v (.pointer (some ⟨g5,0,none⟩)))),(4,.a (.v (.slice po ps.length pc))),(5,.a (.v (.int .i64 ps.length))),(6,.a (.v (.int .i64 (k:Nat))))]) (fun _=>[]) (fun k=>[nwE g5 gb V.length,blE gb ((List.range k).foldl (deepAt ps) V)]) 0
    (fun k=>k<=ps.length) (fun k=>ps.length - k) 0 (Nat.zero_le _) rfl (by (repeat first | exact trivial | refine ⟨rfl,?_⟩)) (by (repeat first | exact trivial | refine ⟨rfl,?_⟩)) rfl (by (repeat' (first | exact trivial | constructor))) (by (repeat' exact trivial)) fun k hk=>?_
  (repeat (first | refine cj_seq ?_ | refine cjr TT rfl ?_ | refine oj_then ?_))
  refine cj_if rfl (fun h=>?_) (fun h=>?_)
  rotate_left
  · have hk0:k=ps.length:=by have:=of_decide_eq_false h;omega
    subst hk0
    (repeat (first | refine cj_exit ?_ | refine nj_then_exit ?_ | refine nj_block_out ?_))
    refine nj_fend TT rfl fun β w' _ _=>?_
    exact ⟨rfl,rfl⟩
  have hkl:k<ps.length:=by have:=of_decide_eq_true h;omega
  have hra:=ptRows_get (List.getElem?_eq_getElem hkl)
  have hnx:=range_fold (deepAt ps) V k
  have hlen:((List.range k).foldl (deepAt ps) V).length=ps.length+1:=by rw [fold_len _ (deepAt_len ps),hV]
  generalize (List.range k).foldl (deepAt ps) V=Vk at *
  have hd:deepAt ps Vk k=match ps[k]? with | some p=>if p.what=4 then (if Vk.getD k false then Vk.set (k+1) true else Vk) else Vk | none=>Vk:=rfl
  rw [List.getElem?_eq_getElem hkl] at hd
  dsimp only at hd
  have hbk:Vk[k]?=some (Vk[k]'(by omega)):=List.getElem?_eq_getElem _
  rw [getD_of hbk] at hd
  generalize Vk[k]'(by omega)=b at *
  generalize ps[k]=p at *
  have hnw:∀ W:List Bool,W.length=ps.length+1->nwE g5 gb V.length=nwE g5 gb W.length:=fun W hW=>by rw [hV,hW]
  have had:∀ q:Nat,some (SV.a (AT.v (.pointer (some (Addr.add ⟨gb,0,none⟩ ((q:Int).toNat*1))))))=some (SV.a (AT.v (.pointer (some ⟨gb,q,none⟩)))):=fun q=>by
    rw [Int.toNat_natCast,add0,Nat.mul_one]
  (repeat (first | refine cj_seq ?_ | refine cjr TT rfl ?_ | refine cj_skip ?_ | refine cj_block ?_ | refine nj_then ?_))
  refine oj_idx TT rfl rfl rfl rfl rfl rfl rfl rfl rfl P (by omega) hra (oj_run TT rfl ?_)
  (repeat (first | refine cj_seq ?_ | refine cjr TT rfl ?_ | refine oj_then ?_))
  refine oj_split 14 rfl (fun h1=>?_) (fun h1=>?_)
  rotate_left
  · have h1:decide (p.what=4)=false:=h1
    rw [if_neg (of_decide_eq_false h1)] at hd
    refine oj_run TT rfl ?_
    (repeat (first | refine cjr TT rfl ?_ | refine oj_then ?_ | refine oj_nil ?_ | refine cj_if_f rfl ?_ | refine cj_skip ?_ | refine nj_then ?_ | refine nj_block ?_ | (refine oj_add rfl rfl rfl rfl rfl rfl (by omega) ?_;refine oj_run TT rfl ?_)))
    refine nj_again (k+1) hkl (by omega) rfl (by (repeat first | exact trivial | refine ⟨rfl,?_⟩)) (by (repeat first | exact trivial | refine ⟨rfl,?_⟩)) ?_ (by (repeat' (first | exact trivial | constructor))) (by (repeat' exact trivial))
    rw [hnx,hd]
  have h1:decide (p.what=4)=true:=h1
  rw [if_pos (of_decide_eq_true h1)] at hd
  refine oj_run TT rfl ?_
  refine oj_ldA 0 (off:=0) (c:=.v (.slice (some ⟨gb,0,none⟩) V.length V.length)) TT rfl rfl rfl rfl rfl rfl rfl rfl rfl rfl rfl trivial (oj_run TT rfl ?_)
  refine oj_indexAddr TT rfl rfl rfl rfl rfl rfl rfl rfl rfl ⟨by omega,by omega⟩ (oj_run TT rfl ?_)
  refine oj_ldA 1 (off:=k) (c:=.b b) TT rfl rfl rfl rfl rfl (had k) rfl rfl rfl rfl (bl_get hbk) trivial (oj_run TT rfl ?_)
  (repeat refine oj_then ?_)
  refine cj_if rfl (fun h2=>?_) (fun h2=>?_)
  rotate_left
  · rw [h2,if_neg (by simp)] at hd
    (repeat (first | refine cjr TT rfl ?_ | refine oj_nil ?_ | refine cj_skip ?_ | refine nj_then ?_ | refine nj_block ?_ | (refine oj_add rfl rfl rfl rfl rfl rfl (by omega) ?_;refine oj_run TT rfl ?_)))
    refine nj_again (k+1) hkl (by omega) rfl (by (repeat first | exact trivial | refine ⟨rfl,?_⟩)) (by (repeat first | exact trivial | refine ⟨rfl,?_⟩)) ?_ (by (repeat' (first | exact trivial | constructor))) (by (repeat' exact trivial))
    rw [hnx,hd]
  rw [h2,if_pos rfl] at hd
  (repeat refine cjr TT rfl ?_)
  refine oj_ldA 0 (off:=0) (c:=.v (.slice (some ⟨gb,0,none⟩) V.length V.length)) TT rfl rfl rfl rfl rfl rfl rfl rfl rfl rfl rfl trivial (oj_run TT rfl ?_)
  refine oj_add rfl rfl rfl rfl rfl rfl (by omega) (oj_run TT rfl ?_)
  refine oj_indexAddr TT rfl rfl rfl rfl rfl rfl rfl rfl rfl ⟨by omega,by omega⟩ (oj_run TT rfl ?_)
  refine oj_stA 1 (off:=k+1) (c:=.tt) (A':=[nwE g5 gb V.length,blE gb (Vk.set (k+1) true)]) TT rfl rfl rfl rfl (had (k+1)) rfl rfl rfl rfl rfl (by show k+1<Vk.length*1;omega) trivial rfl ?_ (oj_run TT rfl ?_)
  · show [_,_]=[_,_]
    rw [<-bl_set]
    rfl
  (repeat (first | refine cjr TT rfl ?_ | refine oj_nil ?_ | refine nj_then ?_ | refine nj_block ?_ | (refine oj_add rfl rfl rfl rfl rfl rfl (by omega) ?_;refine oj_run TT rfl ?_)))
  refine nj_again (k+1) hkl (by omega) rfl (by (repeat first | exact trivial | refine ⟨rfl,?_⟩)) (by (repeat first | exact trivial | refine ⟨rfl,?_⟩)) ?_ (by (repeat' (first | exact trivial | constructor))) (by (repeat' exact trivial))
  rw [hnx,hd]
theorem bl_rep (g n:Nat):(⟨some ⟨g,0,none⟩,n,n,4,1,List.replicate n (AT.val .ff)⟩:AE)=blE g (List.replicate n false):=by
  unfold blE
  rw [List.length_replicate,List.map_replicate]
  rfl
structure MtS where
  k:Nat
  gb:Nat
  V:List Bool
set_option maxRecDepth 100000 in
set_option maxHeartbeats 1000000 in
theorem matches_c (σ:Snap) (ss:List ByteArray) (hs:ss.length<=140737488355328) (so:Option Addr) (sc:Nat) (S:SlAt σ so ss.length sc 1 (strRows ss)) (ps:List GPat) (hl:ps.length<=1000000) (po:Option Addr) (pc:Nat) (P:SlAt σ po ps.length pc 2 (ptRows ps)) :
    PlainS Tryz.prog 158 [.a (.v (.slice so ss.length sc)),.a (.v (.slice po ps.length pc))] σ (fun v=>v=.bool (matchG ss ps)):=by
  refine enter_p Tryz.func158 rfl rfl (by (repeat' (first | exact trivial | constructor))) fun w=>?_
  (repeat (first | refine cj_seq ?_ | refine cjr TT rfl ?_ | refine oj_then ?_ | (refine oj_add rfl rfl rfl rfl rfl rfl (by omega) ?_;refine oj_run TT rfl ?_)))
  refine oj_makeSlice (n:=ps.length+1) TT rfl rfl rfl rfl rfl rfl rfl rfl rfl rfl rfl rfl trivial (by show (ps.length+1)*1<=_;omega) (by omega) fun gb=>oj_run TT rfl ?_
  refine oj_own 1 1 1 rfl (by (repeat' (first | exact trivial | refine AllLt.of ?_ | constructor))) rfl (by decide) fun g5=>?_
  refine oj_own 0 1 1 rfl (by (repeat' (first | exact trivial | refine AllLt.of ?_ | constructor))) rfl (by decide) fun g3=>?_
  refine oj_seal 2 rfl rfl rfl fun σ1 hle1 hS3=>?_
  have h3:σ1.cell ⟨g3,0,none⟩=some (.slice po ps.length pc):=cell_of hS3
  have P1:=P.mono hle1
  have S1:=S.mono hle1
  have hdeep:∀ (s:Snap) (_:σ1.le s) (gb:Nat) (V:List Bool),V.length=ps.length+1->FnS Tryz.prog 211 ([ptrTo g3,ptrTo g5].map ptSV) s [nwE g5 gb (ps.length+1),blE gb V] (fun v _ A'=>v=.tuple #[]/\A'=[nwE g5 gb (ps.length+1),blE gb (deepV ps V)]):=by
    intro s hs gb V hV
    have:=deep_c s ps hl po pc (P1.mono hs) g3 g5 gb (hs.cell h3) V hV
    rw [hV] at this
    exact this
  refine oj_then ?_
  refine cj_re [1,0] (A':=[nwE g5 gb (ps.length+1),blE gb (List.replicate (ps.length+1) false)]) (by show [_,_]=[_,_];rw [<-bl_rep];rfl) rfl ?_
  have had:∀ (g q:Nat),some (SV.a (AT.v (.pointer (some (Addr.add ⟨g,0,none⟩ ((q:Int).toNat*1))))))=some (SV.a (AT.v (.pointer (some ⟨g,q,none⟩)))):=fun g q=>by
    rw [Int.toNat_natCast,add0,Nat.mul_one]
  have hrl:(List.replicate (ps.length+1) false).length=ps.length+1:=List.length_replicate
  (repeat (first | refine cj_seq ?_ | refine cjr TT rfl ?_))
  refine oj_ldA 0 (off:=0) (c:=.v (.slice (some ⟨gb,0,none⟩) (ps.length+1) (ps.length+1))) TT rfl rfl rfl rfl rfl rfl rfl rfl rfl rfl rfl trivial (oj_run TT rfl ?_)
  refine oj_indexAddr TT rfl rfl rfl rfl rfl rfl rfl rfl rfl ⟨by omega,by omega⟩ (oj_run TT rfl ?_)
  refine oj_stA 1 (off:=0) (c:=.tt) (A':=[nwE g5 gb (ps.length+1),blE gb ((List.replicate (ps.length+1) false).set 0 true)]) TT rfl rfl rfl rfl (had gb 0) rfl rfl rfl rfl rfl (by show 0<(List.replicate (ps.length+1) false).length*1;omega) trivial rfl ?_ (oj_run TT rfl ?_)
  · show [_,_]=[_,_]
    rw [<-bl_set]
    rfl
  (repeat (first | refine cj_seq ?_ | refine cjr TT rfl ?_ | refine oj_then ?_))
  refine oj_callF [0,1] (A0:=[nwE g5 gb (ps.length+1),blE gb ((List.replicate (ps.length+1) false).set 0 true)]) (Ar:=[]) rfl rfl rfl rfl rfl rfl rfl Tryz.call211 ⟨trivial,trivial,trivial⟩ (hdeep σ1 (Snap.le_refl _) gb _ (by rw [List.length_set,hrl])) fun v σ2 A2 hle2 ⟨hv,hA⟩=>⟨.tup [],(by (repeat' (first | exact trivial | refine SV.lt_tup ?_))),hv.symm,?_⟩
  subst hA
  have hst:deepV ps ((List.replicate (ps.length+1) false).set 0 true)=startV ps:=rfl
  rw [hst]
  refine oj_run TT rfl ?_
  (repeat (first | refine cj_seq ?_ | refine cjr TT rfl ?_ | refine oj_then ?_ | refine cj_block ?_))
  refine cj_loop2 (fun (s:Snap) (_:MtS)=>s) (fun _ t=>[(3,.a (.v (.pointer (some ⟨g3,0,none⟩)))),(5,.a (.v (.pointer (some ⟨g5,0,none⟩)))),(6,.a (.fn (.func 211) [ptrTo g3,ptrTo g5])),(21,.a (.v (.slice so ss.length sc))),(22,.a (.v (.int .i64 ss.length))),(23,.a (.v (.int .i64 (t.k:Nat))))]) (fun _ _=>[]) (fun _ t=>[nwE g5 t.gb (ps.length+1),blE t.gb t.V]) 0
    (fun s t=>σ1.le s/\t.k<=ss.length/\t.V=runV ps (ss.take t.k)/\t.V.length=ps.length+1) (fun _ t=>ss.length - t.k) σ2 ⟨0,gb,startV ps⟩ ⟨hle2,Nat.zero_le _,rfl,startV_len ps⟩ rfl (by (repeat first | exact trivial | refine ⟨rfl,?_⟩)) (by (repeat first | exact trivial | refine ⟨rfl,?_⟩)) rfl ⟨trivial,trivial,fn_lt2 (.func 211) g3 g5 0,trivial,trivial,trivial,trivial⟩ trivial fun s ⟨k,gb,V⟩ ⟨hle,hk,hV,hVl⟩=>?_
  dsimp only at hk hV hVl ⊢
  have h3:=hle.cell h3
  have P1:=P1.mono hle
  have S1:=S1.mono hle
  (repeat (first | refine cj_seq ?_ | refine cjr TT rfl ?_ | refine oj_then ?_))
  refine cj_if rfl (fun h=>?_) (fun h=>?_)
  rotate_left
  · have hk0:k=ss.length:=by have:=of_decide_eq_false h;omega
    rw [hk0,List.take_length] at hV
    have hb:V[ps.length]?=some (V[ps.length]'(by omega)):=List.getElem?_eq_getElem _
    have hm:matchG ss ps=V[ps.length]'(by omega):=by
      unfold matchG
      rw [<-hV]
      exact getD_of hb
    generalize V[ps.length]'(by omega)=b at *
    (repeat (first | refine cj_seq ?_ | refine cjr TT rfl ?_ | refine cj_exit ?_ | refine nj_then ?_ | refine nj_then_exit ?_ | refine nj_block_out ?_))
    refine oj_ldA 0 (off:=0) (c:=.v (.slice (some ⟨gb,0,none⟩) (ps.length+1) (ps.length+1))) TT rfl rfl rfl rfl rfl rfl rfl rfl rfl rfl rfl trivial (oj_run TT rfl ?_)
    refine oj_ldS (c:=.v (.slice po ps.length pc)) TT rfl rfl rfl rfl rfl rfl rfl rfl h3 trivial (oj_run TT rfl ?_)
    refine oj_indexAddr TT rfl rfl rfl rfl rfl rfl rfl rfl rfl ⟨by omega,by omega⟩ (oj_run TT rfl ?_)
    refine oj_ldA 1 (off:=ps.length) (c:=.b b) TT rfl rfl rfl rfl rfl (had gb ps.length) rfl rfl rfl rfl (bl_get hb) trivial (oj_run TT rfl ?_)
    (repeat (first | refine oj_then ?_ | refine cj_ret ?_))
    refine nj_ret TT rfl fun β w' _ _=>?_
    rw [hm]
    rfl
  have hkl:k<ss.length:=by have:=of_decide_eq_true h;omega
  have hrow:=strRows_get (List.getElem?_eq_getElem hkl)
  have hnext:runV ps (ss.take (k+1))=deepV ps (nextV ps V ss[k]):=by
    unfold runV
    rw [List.take_succ_eq_append_getElem hkl,List.foldl_append]
    rw [hV]
    rfl
  clear hV
  generalize ss[k]=x at *
  (repeat (first | refine cj_seq ?_ | refine cjr TT rfl ?_ | refine cj_skip ?_ | refine cj_block ?_ | refine nj_then ?_))
  refine oj_idx TT rfl rfl rfl rfl rfl rfl rfl rfl rfl S1 (by omega) hrow (oj_run TT rfl ?_)
  (repeat (first | refine cj_seq ?_ | refine cjr TT rfl ?_ | refine oj_then ?_))
  refine oj_ldS (c:=.v (.slice po ps.length pc)) TT rfl rfl rfl rfl rfl rfl rfl rfl h3 trivial (oj_run TT rfl ?_)
  refine oj_add rfl rfl rfl rfl rfl rfl (by omega) (oj_run TT rfl ?_)
  refine oj_makeSlice (n:=ps.length+1) TT rfl rfl rfl rfl rfl rfl rfl rfl rfl rfl rfl rfl trivial (by show (ps.length+1)*1<=_;omega) (by omega) fun g2=>oj_run TT rfl ?_
  refine oj_then ?_
  refine cj_re [0,1,2] (A':=[nwE g5 gb (ps.length+1),blE gb V,blE g2 (List.replicate (ps.length+1) false)]) (by show [_,_,_]=[_,_,_];rw [<-bl_rep]) rfl ?_
  (repeat (first | refine cj_seq ?_ | refine cjr TT rfl ?_))
  refine oj_ldS (c:=.v (.slice po ps.length pc)) TT rfl rfl rfl rfl rfl rfl rfl rfl h3 trivial (oj_run TT rfl ?_)
  (repeat (first | refine oj_then ?_ | refine cj_block ?_))
  refine cj_loop (fun (_:Nat)=>s) (fun j=>[(3,.a (.v (.pointer (some ⟨g3,0,none⟩)))),(5,.a (.v (.pointer (some ⟨g5,0,none⟩)))),(6,.a (.fn (.func 211) [ptrTo g3,ptrTo g5])),(8,.a (.v (.string x))),(9,.a (.v (.slice (some ⟨g2,0,none⟩) (ps.length+1) (ps.length+1)))),(21,.a (.v (.slice so ss.length sc))),(22,.a (.v (.int .i64 ss.length))),(23,.a (.v (.int .i64 (k:Nat)))),(31,.a (.v (.slice po ps.length pc))),(32,.a (.v (.int .i64 ps.length))),(33,.a (.v (.int .i64 (j:Nat))))])
    (fun _=>[]) (fun j=>[nwE g5 gb (ps.length+1),blE gb V,blE g2 ((List.range j).foldl (patAt ps V x) (List.replicate (ps.length+1) false))]) 0
    (fun j=>j<=ps.length) (fun j=>ps.length - j) 0 (Nat.zero_le _) rfl (by (repeat first | exact trivial | refine ⟨rfl,?_⟩)) (by (repeat first | exact trivial | refine ⟨rfl,?_⟩)) rfl ⟨trivial,trivial,fn_lt2 (.func 211) g3 g5 0,trivial,trivial,trivial,trivial,trivial,trivial,trivial,trivial,trivial⟩ trivial fun j hj=>?_
  (repeat (first | refine cj_seq ?_ | refine cjr TT rfl ?_ | refine oj_then ?_))
  refine cj_if rfl (fun h=>?_) (fun h=>?_)
  rotate_left
  · have hj0:j=ps.length:=by have:=of_decide_eq_false h;omega
    subst hj0
    have hN:(List.range ps.length).foldl (patAt ps V x) (List.replicate (ps.length+1) false)=nextV ps V x:=rfl
    have hNl:=nextV_len ps V x
    rw [hN]
    generalize nextV ps V x=N at *
    (repeat (first | refine cj_seq ?_ | refine cjr TT rfl ?_ | refine cj_exit ?_ | refine nj_then ?_ | refine nj_then_exit ?_ | refine nj_block_out ?_))
    refine oj_stA 0 (off:=0) (c:=.v (.slice (some ⟨g2,0,none⟩) (ps.length+1) (ps.length+1))) (A':=[nwE g5 g2 (ps.length+1),blE gb V,blE g2 N]) TT rfl rfl rfl rfl rfl rfl rfl rfl rfl rfl (by show 0<1*1;omega) trivial rfl rfl (oj_run TT rfl ?_)
    (repeat (first | refine cjr TT rfl ?_ | refine oj_then ?_))
    refine oj_callF [0,2] (A0:=[nwE g5 g2 (ps.length+1),blE g2 N]) (Ar:=[]) rfl rfl rfl rfl rfl rfl rfl Tryz.call211 ⟨trivial,trivial,trivial⟩ (hdeep s hle g2 N hNl) fun v σ3 A3 hle3 ⟨hv,hA⟩=>⟨.tup [],(by (repeat' (first | exact trivial | refine SV.lt_tup ?_))),hv.symm,?_⟩
    subst hA
    refine oj_run TT rfl ?_
    (repeat (first | refine cjr TT rfl ?_ | refine oj_nil ?_ | refine nj_then ?_ | refine nj_block ?_ | (refine oj_add rfl rfl rfl rfl rfl rfl (by omega) ?_;refine oj_run TT rfl ?_)))
    refine nj_again (σ3,(⟨k+1,g2,deepV ps N⟩:MtS)) ⟨Snap.le_trans hle hle3,hkl,hnext.symm,by dsimp only;rw [deepV_len,hNl]⟩ (by dsimp only;omega) rfl (by (repeat first | exact trivial | refine ⟨rfl,?_⟩)) (by (repeat first | exact trivial | refine ⟨rfl,?_⟩)) rfl ⟨trivial,trivial,fn_lt2 (.func 211) g3 g5 0,trivial,trivial,trivial,trivial⟩ trivial
  have hjl:j<ps.length:=by have:=of_decide_eq_true h;omega
  have hra:=ptRows_get (List.getElem?_eq_getElem hjl)
  have hnx:=range_fold (patAt ps V x) (List.replicate (ps.length+1) false) j
  have hNl:((List.range j).foldl (patAt ps V x) (List.replicate (ps.length+1) false)).length=ps.length+1:=by rw [fold_len _ (patAt_len ps V x),List.length_replicate]
  generalize (List.range j).foldl (patAt ps V x) (List.replicate (ps.length+1) false)=N at *
  have hd:patAt ps V x N j=match ps[j]? with | some p=>if V.getD j false then (if p.what=4 then N.set j true else if fitsP p x then N.set (j+1) true else N) else N | none=>N:=rfl
  rw [List.getElem?_eq_getElem hjl] at hd
  dsimp only at hd
  have hbk:V[j]?=some (V[j]'(by omega)):=List.getElem?_eq_getElem _
  rw [getD_of hbk] at hd
  generalize V[j]'(by omega)=b at *
  generalize ps[j]=p at *
  have hlt:EnvLt 0 [(3,.a (.v (.pointer (some ⟨g3,0,none⟩)))),(5,.a (.v (.pointer (some ⟨g5,0,none⟩)))),(6,.a (.fn (.func 211) [ptrTo g3,ptrTo g5])),(8,.a (.v (.string x))),(9,.a (.v (.slice (some ⟨g2,0,none⟩) (ps.length+1) (ps.length+1)))),(21,.a (.v (.slice so ss.length sc))),(22,.a (.v (.int .i64 ss.length))),(23,.a (.v (.int .i64 (k:Nat)))),(31,.a (.v (.slice po ps.length pc))),(32,.a (.v (.int .i64 ps.length))),(33,.a (.v (.int .i64 ((j+1:Nat):Int))))]:=⟨trivial,trivial,fn_lt2 (.func 211) g3 g5 0,trivial,trivial,trivial,trivial,trivial,trivial,trivial,trivial,trivial⟩
  (repeat (first | refine cj_seq ?_ | refine cjr TT rfl ?_ | refine cj_skip ?_ | refine cj_block ?_ | refine nj_then ?_))
  refine oj_idx TT rfl rfl rfl rfl rfl rfl rfl rfl rfl P1 (by omega) hra (oj_run TT rfl ?_)
  (repeat (first | refine cj_seq ?_ | refine cjr TT rfl ?_ | refine oj_then ?_))
  refine oj_ldA 0 (off:=0) (c:=.v (.slice (some ⟨gb,0,none⟩) (ps.length+1) (ps.length+1))) TT rfl rfl rfl rfl rfl rfl rfl rfl rfl rfl rfl trivial (oj_run TT rfl ?_)
  refine oj_indexAddr TT rfl rfl rfl rfl rfl rfl rfl rfl rfl ⟨by omega,by omega⟩ (oj_run TT rfl ?_)
  refine oj_ldA 1 (off:=j) (c:=.b b) TT rfl rfl rfl rfl rfl (had gb j) rfl rfl rfl rfl (bl_get hbk) trivial (oj_run TT rfl ?_)
  refine oj_split 42 rfl (fun h1=>?_) (fun h1=>?_)
  · have h1:b=true:=h1
    rw [h1,if_pos rfl] at hd
    refine oj_run TT rfl ?_
    (repeat refine oj_then ?_)
    refine cj_if rfl (fun h2=>?_) (fun h2=>?_)
    · rw [if_pos (of_decide_eq_true h2)] at hd
      (repeat refine cjr TT rfl ?_)
      refine oj_indexAddr TT rfl rfl rfl rfl rfl rfl rfl rfl rfl ⟨by omega,by omega⟩ (oj_run TT rfl ?_)
      refine oj_stA 2 (off:=j) (c:=.tt) (A':=[nwE g5 gb (ps.length+1),blE gb V,blE g2 (N.set j true)]) TT rfl rfl rfl rfl (had g2 j) rfl rfl rfl rfl rfl (by show j<N.length*1;omega) trivial rfl ?_ (oj_run TT rfl ?_)
      · show [_,_,_]=[_,_,_]
        rw [<-bl_set]
        rfl
      (repeat (first | refine cjr TT rfl ?_ | refine oj_nil ?_ | refine nj_then ?_ | refine nj_block ?_ | (refine oj_add rfl rfl rfl rfl rfl rfl (by omega) ?_;refine oj_run TT rfl ?_)))
      refine nj_again (j+1) hjl (by omega) rfl (by (repeat first | exact trivial | refine ⟨rfl,?_⟩)) (by (repeat first | exact trivial | refine ⟨rfl,?_⟩)) ?_ hlt trivial
      rw [hnx,hd]
    · rw [if_neg (of_decide_eq_false h2)] at hd
      (repeat (first | refine cj_seq ?_ | refine cjr TT rfl ?_))
      refine oj_ldA 0 (off:=0) (c:=.v (.slice (some ⟨gb,0,none⟩) (ps.length+1) (ps.length+1))) TT rfl rfl rfl rfl rfl rfl rfl rfl rfl rfl rfl trivial (oj_run TT rfl ?_)
      refine oj_indexAddr TT rfl rfl rfl rfl rfl rfl rfl rfl rfl ⟨by omega,by omega⟩ (oj_run TT rfl ?_)
      refine oj_ldA 1 (off:=j) (c:=.b b) TT rfl rfl rfl rfl rfl (had gb j) rfl rfl rfl rfl (bl_get hbk) trivial (oj_run TT rfl ?_)
      refine oj_split 54 rfl (fun _=>?_) (fun h3=>absurd (show b=false from h3) (by rw [h1];decide))
      refine oj_run TT rfl ?_
      refine oj_callP rfl rfl rfl rfl rfl Tryz.call212 ⟨(by (repeat' (first | exact trivial | refine AllLt.of ?_ | constructor))),trivial,trivial⟩ (fitsP_c s p x) fun v hv=>⟨.a (.b (fitsP p x)),trivial,hv.symm,?_⟩
      refine oj_run TT rfl ?_
      (repeat refine oj_then ?_)
      refine cj_if rfl (fun h4=>?_) (fun h4=>?_)
      · rw [h4,if_pos rfl] at hd
        (repeat (first | refine cjr TT rfl ?_ | (refine oj_add rfl rfl rfl rfl rfl rfl (by omega) ?_;refine oj_run TT rfl ?_)))
        refine oj_indexAddr TT rfl rfl rfl rfl rfl rfl rfl rfl rfl ⟨by omega,by omega⟩ (oj_run TT rfl ?_)
        refine oj_stA 2 (off:=j+1) (c:=.tt) (A':=[nwE g5 gb (ps.length+1),blE gb V,blE g2 (N.set (j+1) true)]) TT rfl rfl rfl rfl (had g2 (j+1)) rfl rfl rfl rfl rfl (by show j+1<N.length*1;omega) trivial rfl ?_ (oj_run TT rfl ?_)
        · show [_,_,_]=[_,_,_]
          rw [<-bl_set]
          rfl
        (repeat (first | refine cjr TT rfl ?_ | refine oj_nil ?_ | refine nj_then ?_ | refine nj_block ?_ | (refine oj_add rfl rfl rfl rfl rfl rfl (by omega) ?_;refine oj_run TT rfl ?_)))
        refine nj_again (j+1) hjl (by omega) rfl (by (repeat first | exact trivial | refine ⟨rfl,?_⟩)) (by (repeat first | exact trivial | refine ⟨rfl,?_⟩)) ?_ hlt trivial
        rw [hnx,hd]
      · rw [h4,if_neg (by simp)] at hd
        (repeat (first | refine cjr TT rfl ?_ | refine oj_nil ?_ | refine cj_skip ?_ | refine nj_then ?_ | refine nj_block ?_ | (refine oj_add rfl rfl rfl rfl rfl rfl (by omega) ?_;refine oj_run TT rfl ?_)))
        refine nj_again (j+1) hjl (by omega) rfl (by (repeat first | exact trivial | refine ⟨rfl,?_⟩)) (by (repeat first | exact trivial | refine ⟨rfl,?_⟩)) ?_ hlt trivial
        rw [hnx,hd]
  · have h1:b=false:=h1
    rw [h1,if_neg (by simp)] at hd
    refine oj_run TT rfl ?_
    (repeat (first | refine cj_seq ?_ | refine cjr TT rfl ?_ | refine oj_then ?_ | refine cj_if_f rfl ?_))
    refine oj_ldA 0 (off:=0) (c:=.v (.slice (some ⟨gb,0,none⟩) (ps.length+1) (ps.length+1))) TT rfl rfl rfl rfl rfl rfl rfl rfl rfl rfl rfl trivial (oj_run TT rfl ?_)
    refine oj_indexAddr TT rfl rfl rfl rfl rfl rfl rfl rfl rfl ⟨by omega,by omega⟩ (oj_run TT rfl ?_)
    refine oj_ldA 1 (off:=j) (c:=.b b) TT rfl rfl rfl rfl rfl (had gb j) rfl rfl rfl rfl (bl_get hbk) trivial (oj_run TT rfl ?_)
    refine oj_split 54 rfl (fun h3=>absurd (show b=true from h3) (by rw [h1];decide)) (fun _=>?_)
    refine oj_run TT rfl ?_
    (repeat (first | refine cjr TT rfl ?_ | refine oj_then ?_ | refine oj_nil ?_ | refine cj_if_f rfl ?_ | refine cj_skip ?_ | refine nj_then ?_ | refine nj_block ?_ | (refine oj_add rfl rfl rfl rfl rfl rfl (by omega) ?_;refine oj_run TT rfl ?_)))
    refine nj_again (j+1) hjl (by omega) rfl (by (repeat first | exact trivial | refine ⟨rfl,?_⟩)) (by (repeat first | exact trivial | refine ⟨rfl,?_⟩)) ?_ hlt trivial
    rw [hnx,hd]
end Go.Sy
namespace Go.Sy
open Go.Proofs
set_option maxRecDepth 100000 in
set_option maxHeartbeats 1000000 in
theorem match1_c (σ:Snap) (k:Nat) (x:GLine) (hx:LnOk σ x) (ps:List GPat) (hl:ps.length<=1000000) (po:Option Addr) (pc:Nat) (P:SlAt σ po ps.length pc 2 (ptRows ps)) (g:Nat) (hg:σ.cell ⟨g,0,none⟩=some (.slice po ps.length pc)) :
    PlainS Tryz.prog 157 (.a (.v (.int .i64 k))::.agg (lnCells x)::[ptrTo g].map ptSV) σ (fun v=>v=.bool (matchG x.st ps)):=by
  refine enter_p Tryz.func157 rfl rfl ⟨trivial,lnCells_lt 0 x,trivial,trivial⟩ fun w=>?_
  (repeat (first | refine cj_seq ?_ | refine cjr TT rfl ?_ | refine oj_then ?_))
  refine oj_ldS (c:=.v (.slice po ps.length pc)) TT rfl rfl rfl rfl rfl rfl rfl rfl hg trivial (oj_run TT rfl ?_)
  refine oj_callP rfl rfl rfl rfl rfl Tryz.call158 (by (repeat' (first | exact trivial | constructor))) (matches_c σ x.st hx.1 x.ao x.cap hx.2 ps hl po pc P) fun v hv=>⟨.a (.b (matchG x.st ps)),trivial,hv.symm,?_⟩
  refine oj_run TT rfl ?_
  (repeat (first | refine oj_then ?_ | refine cj_ret ?_))
  refine nj_ret TT rfl fun β w' _ _=>?_
  rfl
def matchIds (xs:List GLine) (ps:List GPat):List Int:=allG (fun _ x=>matchG x.st ps) xs 0
set_option maxRecDepth 100000 in
set_option maxHeartbeats 1000000 in
theorem Match_c (σ:Snap) (xs:List GLine) (hxl:xs.length<=1000000) (ao:Option Addr) (cap:Nat) (next:Int) (H:SlAt σ ao xs.length cap 3 (lnRows xs)) (hx:∀ x∈xs,LnOk σ x)
    (ps:List GPat) (hl:ps.length<=1000000) (po:Option Addr) (pc:Nat) (P:SlAt σ po ps.length pc 2 (ptRows ps)) :
    PureS Tryz.prog 82 [.agg [.v (.slice ao xs.length cap),.v (.int .i64 next)],.a (.v (.slice po ps.length pc))] σ (fun v σ'=>∃ oo oc,v=.slice oo (matchIds xs ps).length oc/\SlAt σ' oo (matchIds xs ps).length oc 1 (idRows (matchIds xs ps))):=by
  refine enter_s Tryz.func82 rfl rfl (by (repeat' (first | exact trivial | refine AllLt.of ?_ | constructor))) fun w=>?_
  (repeat (first | refine cj_seq ?_ | refine cjr TT rfl ?_ | refine oj_then ?_))
  refine oj_own 1 1 1 rfl (by (repeat' (first | exact trivial | refine AllLt.of ?_ | constructor))) rfl (by decide) fun g=>?_
  refine oj_seal 0 rfl rfl rfl fun σ1 hle1 hS=>?_
  refine oj_callS rfl rfl rfl rfl rfl Tryz.call156 ⟨(by (repeat' (first | exact trivial | refine AllLt.of ?_ | constructor))),fn_lt1 (.func 157) g 0,trivial⟩ (all_c σ1 xs hxl ao cap next (H.mono hle1) 157 [ptrTo g] ⟨trivial,trivial⟩ Tryz.call157 (fun _ x=>matchG x.st ps) (fun k x hk=>match1_c σ1 k x ((hx x (List.mem_of_getElem? hk)).mono hle1) ps hl po pc (P.mono hle1) g (cell_of hS)) (fn_lt1 (.func 157) g 0)) fun v σ2 hle2 ⟨oo,oc,hv,HO⟩=>⟨.a (.v (.slice oo (matchIds xs ps).length oc)),trivial,hv.symm,?_⟩
  refine oj_run TT rfl ?_
  (repeat (first | refine oj_then ?_ | refine cj_ret ?_))
  refine nj_ret TT rfl fun β w' _ _=>?_
  exact ⟨oo,oc,rfl,HO⟩
end Go.Sy
/- Plain laws: counts of lines; single patterns; paths of records. No program in sight. -/
namespace Go.Sy
def deepP:GPat:=⟨4,emptyS⟩
theorem run_deep:∀ (ss:List ByteArray),runV [deepP] ss=[true,true]:=by
  have h0:startV [deepP]=[true,true]:=rfl
  have h1:∀ s,deepV [deepP] (nextV [deepP] [true,true] s)=[true,true]:=fun s=>rfl
  have:∀ (ss:List ByteArray),ss.foldl (fun V s=>deepV [deepP] (nextV [deepP] V s)) [true,true]=[true,true]:=by
    intro ss
    induction ss with
    | nil=>rfl
    | cons s ss ih=>rw [List.foldl_cons,h1,ih]
  intro ss
  unfold runV
  rw [h0,this]
theorem match_deep (ss:List ByteArray):matchG ss [deepP]=true:=by unfold matchG;rw [run_deep];rfl
theorem pathsF_len:∀ (L:List GRec) (way:List ByteArray),(pathsF way L).length=L.length
  | [],_=>rfl
  | r::l,way=>by rw [pathsF,List.length_cons,List.length_cons,pathsF_len l]
end Go.Sy
/- Plain law: how many stand in how many, of values' records. No program in sight. -/
namespace Go.Sy
def itemOf (id:Int) (r:GRec) (i:Nat):GItem:=⟨id,i,r.st,r.en,r.lv⟩
def itemsD (id:Int) (L:List GRec):List GItem:=L.zipIdx.map fun x=>itemOf id x.1 x.2
theorem itemsD_len (id:Int) (L:List GRec):(itemsD id L).length=L.length:=by simp [itemsD]
theorem itemsD_get {id:Int} {L:List GRec} {i:Nat} {r:GRec} (h:L[i]?=some r):(itemsD id L)[i]?=some (itemOf id r i):=by
  unfold itemsD
  rw [List.getElem?_map,List.getElem?_zipIdx,h]
  simp
structure LamS (l:Sk):Prop where
  se:∀ x∈l,x.1<x.2
  pw:l.Pairwise fun x y=>x.1<y.1/\(y.2<x.2\/x.2<y.1)
mutual
theorem lamV {gap:Int} (hg:0<gap):∀ (g:GVal) (now:Int),LamS (skV gap g now)
  | .mk k b n s l ks vs,now=>by
    have h1:=lamL hg l (now+gap)
    have h2:=lamL hg vs (now+gap+wL gap l)
    have b1:=skL_bd hg l (now+gap)
    have b2:=skL_bd hg vs (now+gap+wL gap l)
    have n1:=wL_nn hg l
    have n2:=wL_nn hg vs
    rw [skV]
    refine ⟨fun x hx=>?_,?_⟩
    · rcases List.mem_cons.1 hx with rfl | hx
      · show now+gap<now+(gap+(wL gap l+wL gap vs)+gap)
        omega
      · rcases List.mem_append.1 hx with hx | hx
        · exact h1.se x hx
        · exact h2.se x hx
    · rw [List.pairwise_cons,List.pairwise_append]
      refine ⟨fun y hy=>?_,h1.pw,h2.pw,fun x hx y hy=>?_⟩
      · show now+gap<y.1/\(y.2<now+(gap+(wL gap l+wL gap vs)+gap)\/_)
        rcases List.mem_append.1 hy with hy | hy
        · have:=b1 y hy
          omega
        · have:=b2 y hy
          omega
      · have:=b1 x hx
        have:=b2 y hy
        omega
theorem lamL {gap:Int} (hg:0<gap):∀ (gs:List GVal) (now:Int),LamS (skL gap gs now)
  | [],_=>⟨fun _ h=>(by simp [skL] at h),by simp [skL]⟩
  | g::gs,now=>by
    have h1:=lamV hg g now
    have h2:=lamL hg gs (now+wV gap g)
    have b1:=skV_bd hg g now
    have b2:=skL_bd hg gs (now+wV gap g)
    rw [skL]
    refine ⟨fun x hx=>?_,?_⟩
    · rcases List.mem_append.1 hx with hx | hx
      · exact h1.se x hx
      · exact h2.se x hx
    · rw [List.pairwise_append]
      refine ⟨h1.pw,h2.pw,fun x hx y hy=>?_⟩
      have:=b1 x hx
      have:=b2 y hy
      omega
end
theorem lam_items {id:Int} {L:List GRec} (h:LamS (L.map se)):Lam (itemsD id L):=by
  have hp:=List.pairwise_map.1 h.pw
  refine ⟨fun x hx=>?_,?_⟩
  · obtain ⟨⟨r,i⟩,hr,rfl⟩:=List.mem_map.1 hx
    have hr:r∈L:=by
      have:=List.mem_zipIdx hr
      simp at this
      exact List.mem_of_getElem? (i:=i) (by rw [this.2];exact List.getElem?_eq_getElem _)
    exact h.se (se r) (List.mem_map_of_mem hr)
  · unfold itemsD
    rw [List.pairwise_map]
    have h2:(L.zipIdx.map Prod.fst).Pairwise fun x y=>(se x).1<(se y).1/\((se y).2<(se x).2\/(se x).2<(se y).1):=by
      rw [List.zipIdx_map_fst]
      exact hp
    refine (List.pairwise_map.1 h2).imp fun {x y} hxy=>?_
    show aheadI (itemOf id x.1 x.2) (itemOf id y.1 y.2)=true/\_
    rw [aheadI_iff,holdsI_iff,overI_iff]
    have h3:x.1.st<y.1.st/\(y.1.en<x.1.en\/x.1.en<y.1.st):=hxy
    show (id<id\/id=id/\x.1.st<y.1.st)/\((id=id/\x.1.st<y.1.st/\y.1.en<x.1.en)\/(id≠id\/x.1.en<y.1.st))
    omega
theorem lam_docs:∀ (ds:List (Int×List GRec)),(ds.Pairwise fun x y=>x.1<y.1)->(∀ d∈ds,LamS (d.2.map se))->Lam (ds.flatMap fun d=>itemsD d.1 d.2)
  | [],_,_=>Lam.nil
  | d::ds,hp,h=>by
    rw [List.flatMap_cons]
    have h1:=lam_items (id:=d.1) (h d List.mem_cons_self)
    have h2:=lam_docs ds (List.pairwise_cons.1 hp).2 fun x hx=>h x (List.mem_cons_of_mem d hx)
    have hd:∀ (e:Int×List GRec),∀ x∈itemsD e.1 e.2,x.doc=e.1:=by
      intro e x hx
      obtain ⟨y,_,rfl⟩:=List.mem_map.1 hx
      rfl
    refine ⟨fun x hx=>?_,List.pairwise_append.2 ⟨h1.pw,h2.pw,fun x hx y hy=>?_⟩⟩
    · rcases List.mem_append.1 hx with hx | hx
      · exact h1.se x hx
      · exact h2.se x hx
    · obtain ⟨e,he,hy⟩:=List.mem_flatMap.1 hy
      have h3:=(List.pairwise_cons.1 hp).1 e he
      have hx':=hd d x hx
      have hy':=hd e y hy
      rw [aheadI_iff,overI_iff]
      omega
def sumN (l:List Nat):Nat:=l.foldr (·+·) 0
theorem sumN_congr {α:Type} {f g:α->Nat} {l:List α} (h:∀ x∈l,f x=g x):sumN (l.map f)=sumN (l.map g):=by
  rw [List.map_congr_left h]
theorem sumN_zero {α:Type} {f:α->Nat} {l:List α} (h:∀ x∈l,f x=0):sumN (l.map f)=0:=by
  induction l with
  | nil=>rfl
  | cons x l ih =>
    show f x+sumN (l.map f)=0
    rw [h x List.mem_cons_self,ih fun y hy=>h y (List.mem_cons_of_mem x hy)]
def cnt2 {α:Type} (r:α->α->Bool) (a d:List α):Nat:=sumN (d.map fun y=>a.countP fun x=>r x y)
theorem cnt2_zero {α:Type} {r:α->α->Bool} {a d:List α} (h:∀ x∈a,∀ y∈d,r x y=false):cnt2 r a d=0:=by
  apply sumN_zero
  intro y hy
  rw [List.countP_eq_zero]
  intro x hx
  rw [h x hx y hy]
  decide
theorem cnt2_map {α β:Type} (f:α->β) (r:β->β->Bool) (a d:List α):cnt2 r (a.map f) (d.map f)=cnt2 (fun x y=>r (f x) (f y)) a d:=by
  unfold cnt2
  rw [List.map_map]
  congr 1
  apply List.map_congr_left
  intro y _
  show (a.map f).countP _=_
  rw [List.countP_map]
  rfl
theorem cnt2_fst {α β:Type} (r:α->α->Bool) (a d:List (α×β)):cnt2 (fun x y=>r x.1 y.1) a d=cnt2 r (a.map Prod.fst) (d.map Prod.fst):=(cnt2_map Prod.fst r a d).symm
theorem pairs_len (a d:List GItem) (kid:Bool):(pairsG a d kid).length=cnt2 (fun x y=>fitsI x y kid) a d:=by
  have h:∀ (l:List OI),(l.flatMap fun x=>(a.zipIdx.filter fun z=>fitsI z.1 x.1 kid).map fun z=>(z.2,x.2)).length=sumN (l.map fun y=>a.zipIdx.countP fun z=>fitsI z.1 y.1 kid):=by
    intro l
    induction l with
    | nil=>rfl
    | cons x l ih =>
      rw [List.flatMap_cons,List.length_append,ih,List.length_map,<-List.countP_eq_length_filter]
      rfl
  unfold pairsG
  rw [h]
  have h2:=cnt2_fst (fun x y=>fitsI x y kid) a.zipIdx d.zipIdx
  rw [List.zipIdx_map_fst,List.zipIdx_map_fst] at h2
  exact h2
end Go.Sy
/- Plain law: an index of documents: its items, and what is asked of paths. No program in sight. -/
namespace Go.Sy
structure GDoc where
  id:Int
  o:Option Addr
  cap:Nat
  L:List GRec
  lo:Option Addr
  lcap:Nat
  ids:List Int
structure SInv (ps:List SRow) (s:GSt):Prop where
  inv:GInv s
  len:s.ids.length=ps.length
  st:∀ (k:Nat) (d:Int),s.ids[k]?=some d->∃ (j:Nat) (x:GLine) (p:SRow),s.xs[j]?=some x/\x.id=d/\ps[k]?=some p/\x.st=p.ss
theorem SInv.step {ps:List SRow} {s:GSt} (h:SInv ps s) (p:SRow):SInv (ps++[p]) (addOne s p):=by
  obtain ⟨h1,h2,j,y,h3,h4,h5⟩:=addOne_spec h.inv p
  refine ⟨h1,by rw [h5,List.length_append,List.length_append,h.len];rfl,fun k d hd=>?_⟩
  rw [h5] at hd
  by_cases hk:k<s.ids.length
  · rw [List.getElem?_append_left hk] at hd
    obtain ⟨j',x,q,e1,e2,e3,e4⟩:=h.st k d hd
    obtain ⟨y',f1,f2,f3⟩:=h2 j' x e1
    exact ⟨j',y',q,f1,by rw [f3,e2],by rw [List.getElem?_append_left (by rw [<-h.len];exact hk)];exact e3,by rw [f2,e4]⟩
  · rw [List.getElem?_append_right (by omega)] at hd
    have h0:k - s.ids.length=0:=by
      have:=(List.getElem?_eq_some_iff.1 hd).1
      simp only [List.length_singleton] at this
      omega
    rw [h0] at hd
    injection hd with hd
    refine ⟨j,y,p,h3,hd,?_,h4⟩
    rw [List.getElem?_append_right (by rw [<-h.len];omega),<-h.len,h0]
    rfl
theorem SInv.all:∀ (qs ps:List SRow) {s:GSt},SInv ps s->SInv (ps++qs) (addAll s qs)
  | [],ps,s,h=>by rw [List.append_nil];exact h
  | q::qs,ps,s,h=>by
    have:=SInv.all qs (ps++[q]) (h.step q)
    rw [List.append_assoc] at this
    exact this
theorem SInv.start {xs:List GLine} {next:Int} {ids:List Int} (h:GInv ⟨xs,next,ids⟩):SInv [] ⟨xs,next,[]⟩:=⟨⟨h.next,h.at_⟩,rfl,fun k d hd=>by cases hd⟩
def LinesOk (xs:List GLine) (d:GDoc):Prop:=d.ids.length=d.L.length/\∀ (i:Nat) (k:Int) (p:List ByteArray),d.ids[i]?=some k->(pathsG d.L)[i]?=some p->∃ (j:Nat) (x:GLine),xs[j]?=some x/\x.st=p/\x.id=k
structure IdxP (ds:List GDoc) (xs:List GLine) (next:Int):Prop where
  inv:GInv ⟨xs,next,[]⟩
  ord:ds.Pairwise fun x y=>x.id<y.id
  doc:∀ d∈ds,LinesOk xs d
theorem IdxP.nil:IdxP [] [] 0:=⟨⟨rfl,fun j x h=>(by cases h)⟩,List.Pairwise.nil,fun _ h=>(by cases h)⟩
theorem IdxP.add {ds:List GDoc} {xs:List GLine} {next:Int} (h:IdxP ds xs next) {d:GDoc} (hd:∀ x∈ds,x.id<d.id) {rows:List SRow} (hr:rows.map SRow.ss=pathsG d.L) (hi:d.ids=(addAll ⟨xs,next,[]⟩ rows).ids) :
    IdxP (ds++[d]) (addAll ⟨xs,next,[]⟩ rows).xs (addAll ⟨xs,next,[]⟩ rows).next:=by
  have hS:=SInv.all rows [] (SInv.start h.inv)
  obtain ⟨h1,h2,-⟩:=addAll_inv rows h.inv
  rw [List.nil_append] at hS
  have hpl:(pathsG d.L).length=d.L.length:=pathsF_len _ _
  refine ⟨⟨h1.next,h1.at_⟩,?_,fun x hx=>?_⟩
  · rw [List.pairwise_append]
    refine ⟨h.ord,List.pairwise_singleton _ _,fun x hx y hy=>?_⟩
    rw [List.mem_singleton] at hy
    subst hy
    exact hd x hx
  · rcases List.mem_append.1 hx with hx | hx
    · obtain ⟨e1,e2⟩:=h.doc x hx
      refine ⟨e1,fun i k p hk hp=>?_⟩
      obtain ⟨j,y,f1,f2,f3⟩:=e2 i k p hk hp
      obtain ⟨z,g1,g2,g3⟩:=h2 j y f1
      exact ⟨j,z,g1,by rw [g2,f2],by rw [g3,f3]⟩
    · rw [List.mem_singleton] at hx
      subst hx
      refine ⟨by rw [hi,hS.len,<-hpl,<-hr,List.length_map],fun i k p hk hp=>?_⟩
      rw [hi] at hk
      obtain ⟨j,y,q,f1,f2,f3,f4⟩:=hS.st i k hk
      rw [<-hr,List.getElem?_map,f3] at hp
      injection hp with hp
      exact ⟨j,y,f1,by rw [f4];exact hp,f2⟩
def onD (lines:Int->Bool) (d:GDoc):List GItem:=(((itemsD d.id d.L).zip d.ids).filter fun x=>lines x.2).map Prod.fst
def onG (lines:Int->Bool) (ds:List GDoc):List GItem:=ds.flatMap (onD lines)
def pItems (d:GDoc):List (GItem×List ByteArray):=(itemsD d.id d.L).zip (pathsG d.L)
theorem mem_allG {q:Nat->GLine->Bool} {y:Int}:∀ (l:List GLine) (k:Nat),y∈allG q l k↔∃ (j:Nat) (x:GLine),l[j]?=some x/\q (k+j) x=true/\x.id=y
  | [],k=>by simp [allG]
  | x::l,k=>by
    have ih:=mem_allG (q:=q) (y:=y) l (k+1)
    have hsp:(∃ (j:Nat) (z:GLine),(x::l)[j]?=some z/\q (k+j) z=true/\z.id=y)↔(q k x=true/\x.id=y)\/∃ (j:Nat) (z:GLine),l[j]?=some z/\q (k+1+j) z=true/\z.id=y:=by
      constructor
      · rintro ⟨j,z,h1,h2,h3⟩
        cases j with
        | zero =>
          injection h1 with h1
          subst h1
          exact .inl ⟨h2,h3⟩
        | succ j=>exact .inr ⟨j,z,h1,by rw [show k+1+j=k+(j+1) by omega];exact h2,h3⟩
      · rintro (⟨h1,h2⟩ | ⟨j,z,h1,h2,h3⟩)
        · exact ⟨0,x,rfl,h1,h2⟩
        · exact ⟨j+1,z,h1,by rw [show k+(j+1)=k+1+j by omega];exact h2,h3⟩
    rw [hsp,<-ih]
    show y∈(if q k x then x.id::allG q l (k+1) else allG q l (k+1))↔_
    cases hq:q k x
    · simp
    · rw [if_pos rfl,List.mem_cons]
      constructor
      · rintro (h | h)
        · exact .inl ⟨rfl,h.symm⟩
        · exact .inr h
      · rintro (h | h)
        · exact .inl h.2.symm
        · exact .inr h
theorem mem_match {xs:List GLine} {next:Int} (h:GInv ⟨xs,next,[]⟩) {j:Nat} {x:GLine} (hx:xs[j]?=some x) (ps:List GPat):x.id∈matchIds xs ps↔matchG x.st ps=true:=by
  unfold matchIds
  rw [mem_allG]
  constructor
  · rintro ⟨i,y,h1,h2,h3⟩
    have e1:=(h.at_ i y h1).1
    have e2:=(h.at_ j x hx).1
    have:i=j:=by omega
    subst this
    rw [hx] at h1
    injection h1 with h1
    subst h1
    exact h2
  · intro h1
    exact ⟨j,x,hx,h1,rfl⟩
theorem filter_zip3 {α β γ:Type} (f:β->Bool) (g:γ->Bool):∀ (a:List α) (b:List β) (c:List γ),a.length=b.length->a.length=c.length->(∀ (i:Nat) y z,b[i]?=some y->c[i]?=some z->f y=g z) ->
    ((a.zip b).filter fun x=>f x.2).map Prod.fst=((a.zip c).filter fun x=>g x.2).map Prod.fst
  | [],_,_,_,_,_=>by simp
  | x::a,[],_,h,_,_=>by simp at h
  | x::a,_::_,[],_,h,_=>by simp at h
  | x::a,y::b,z::c,h1,h2,h=>by
    have ih:=filter_zip3 f g a b c (by simpa using h1) (by simpa using h2) fun i y z hy hz=>h (i+1) y z hy hz
    have h0:=h 0 y z rfl rfl
    rw [List.zip_cons_cons,List.zip_cons_cons,List.filter_cons,List.filter_cons]
    dsimp only
    rw [h0]
    split
    · rw [List.map_cons,List.map_cons,ih]
    · exact ih
theorem on_match {ds:List GDoc} {xs:List GLine} {next:Int} (h:IdxP ds xs next) (ps:List GPat) :
    onG (fun k=>decide (k∈matchIds xs ps)) ds=((ds.flatMap pItems).filter fun x=>matchG x.2 ps).map Prod.fst:=by
  have hd:∀ d∈ds,onD (fun k=>decide (k∈matchIds xs ps)) d=((pItems d).filter fun x=>matchG x.2 ps).map Prod.fst:=by
    intro d hd
    obtain ⟨e1,e2⟩:=h.doc d hd
    have hpl:(pathsG d.L).length=d.L.length:=pathsF_len _ _
    refine filter_zip3 (fun k=>decide (k∈matchIds xs ps)) (fun p=>matchG p ps) _ _ _ (by rw [itemsD_len,e1]) (by rw [itemsD_len,hpl]) fun i k p hk hp=>?_
    obtain ⟨j,x,f1,f2,f3⟩:=e2 i k p hk hp
    rw [<-f3,<-f2,Bool.eq_iff_iff,decide_eq_true_eq]
    exact mem_match h.inv f1 ps
  clear h
  unfold onG
  induction ds with
  | nil=>rfl
  | cons d ds ih =>
    rw [List.flatMap_cons,List.flatMap_cons,List.filter_append,List.map_append,ih fun x hx=>hd x (List.mem_cons_of_mem d hx),hd d List.mem_cons_self]
theorem pItems_fst (d:GDoc):(pItems d).map Prod.fst=itemsD d.id d.L:=by
  unfold pItems
  rw [List.map_fst_zip]
  rw [itemsD_len]
  unfold pathsG
  rw [pathsF_len]
  exact Nat.le_refl _
theorem flat_fst (ds:List GDoc):(ds.flatMap pItems).map Prod.fst=ds.flatMap fun d=>itemsD d.id d.L:=by
  induction ds with
  | nil=>rfl
  | cons d ds ih=>rw [List.flatMap_cons,List.flatMap_cons,List.map_append,ih,pItems_fst]
theorem on_deep {ds:List GDoc} {xs:List GLine} {next:Int} (h:IdxP ds xs next):onG (fun k=>decide (k∈matchIds xs [deepP])) ds=ds.flatMap fun d=>itemsD d.id d.L:=by
  rw [on_match h,<-flat_fst]
  congr 1
  rw [List.filter_eq_self]
  intro x _
  exact match_deep x.2
def ShrD (d:GDoc):Prop:=∃ (gap:Int) (g:GVal),0<gap/\g.wf/\d.L=(shredV gap g 0 false emptyS 0).1
theorem ShrD.lam {d:GDoc} (h:ShrD d):LamS (d.L.map se):=by
  obtain ⟨gap,g,hg,hw,e⟩:=h
  rw [e,(shredV_sk gap g 0 false emptyS 0 hw).1]
  exact lamV hg g 0
theorem lam_idx {ds:List GDoc} (ho:ds.Pairwise fun x y=>x.id<y.id) (h:∀ d∈ds,ShrD d):Lam (ds.flatMap fun d=>itemsD d.id d.L):=by
  have:=lam_docs (ds.map fun d=>(d.id,d.L)) (by rw [List.pairwise_map];exact ho) (fun x hx=>by
    obtain ⟨d,hd,rfl⟩:=List.mem_map.1 hx
    exact (h d hd).lam)
  rw [List.flatMap_map] at this
  exact this
theorem cnt2_part (r:GItem->GItem->Bool) (p:GItem->Bool) (l:List GItem) (h1:∀ x∈l,∀ y∈l,p x≠p y->r x y=false):cnt2 r l l=cnt2 r (l.filter p) (l.filter p)+cnt2 r (l.filter fun x=>!p x) (l.filter fun x=>!p x):=by
  have hc:∀ (q:GItem->Bool) (m:List GItem),m.countP q=(m.filter p).countP q+(m.filter fun x=>!p x).countP q:=by
    intro q m
    induction m with
    | nil=>rfl
    | cons x m ih =>
      rw [List.countP_cons,List.filter_cons,List.filter_cons]
      cases hp:p x
      · simp [List.countP_cons]
        omega
      · simp [List.countP_cons]
        omega
  have hs:∀ (f:GItem->Nat) (m:List GItem),sumN (m.map f)=sumN ((m.filter p).map f)+sumN ((m.filter fun x=>!p x).map f):=by
    intro f m
    induction m with
    | nil=>rfl
    | cons x m ih =>
      rw [List.filter_cons,List.filter_cons]
      have:sumN ((x::m).map f)=f x+sumN (m.map f):=rfl
      rw [this]
      have hh:∀ k:List GItem,sumN ((x::k).map f)=f x+sumN (k.map f):=fun _=>rfl
      cases hp:p x
      · rw [if_neg (by decide),if_pos (by decide),hh]
        omega
      · rw [if_pos rfl,if_neg (by decide),hh]
        omega
  unfold cnt2
  rw [hs]
  congr 1
  · refine sumN_congr fun y hy=>?_
    obtain ⟨hy,hpy⟩:=List.mem_filter.1 hy
    rw [hc]
    have:(l.filter fun x=>!p x).countP (fun x=>r x y)=0:=by
      rw [List.countP_eq_zero]
      intro x hx
      obtain ⟨hx,hpx⟩:=List.mem_filter.1 hx
      rw [h1 x hx y hy (by intro e;rw [e,hpy] at hpx;cases hpx)]
      decide
    omega
  · refine sumN_congr fun y hy=>?_
    obtain ⟨hy,hpy⟩:=List.mem_filter.1 hy
    rw [hc]
    have:(l.filter p).countP (fun x=>r x y)=0:=by
      rw [List.countP_eq_zero]
      intro x hx
      obtain ⟨hx,hpx⟩:=List.mem_filter.1 hx
      rw [h1 x hx y hy (by intro e;rw [hpx] at e;rw [<-e] at hpy;cases hpy)]
      decide
    omega
end Go.Sy
/- Regions whose orders fork: of two operations that change the world, either may come first, and both ways are gone. No program in sight. -/
namespace Go.Sy
structure GJ (cf:Cf) (ops:Array Oper) (U bef:List Nat) (n:Nat) (listed:Array Bool) (fst:Bool) (Q:Exit->Act->World->Prop) (σ:Snap) (env:Env) (hp:HP) (A:List AE) (nh:Nat):Prop where
  run:Region.noSelect ops=true->Bd env hp nh->∀ a β,StA cf env β a->(∃ w,StW cf σ hp A β w)->Closed ops listed->∀ E0:World->Prop,(∀ x,StW cf σ hp A β x->E0 x) ->
    (fst=true->∀ x,E0 x->StW cf σ hp A β x)->wpAnyC cf.P ops U Q n listed a E0 (fun w=>StW cf σ hp A β w)
structure GK (cf:Cf) (ops:Array Oper) (U bef:List Nat) (n:Nat) (listed:Array Bool) (j:Nat) (Q:Exit->Act->World->Prop) (σ:Snap) (env:Env) (hp:HP) (A:List AE) (nh:Nat):Prop where
  run:Region.noSelect ops=true->Bd env hp nh->∀ a β,StA cf env β a->(∃ w,StW cf σ hp A β w)->Closed ops listed->j∈Region.ready .any ops listed->∀ E0:World->Prop,(∀ x,StW cf σ hp A β x->E0 x) ->
    stepC cf.P ops U Q j (wpAnyC cf.P ops U Q n (listed.setIfInBounds j true)) a E0 (fun w=>StW cf σ hp A β w)
section
variable {cf:Cf} {Q:Exit->Act->World->Prop} {σ:Snap} {env:Env} {hp:HP} {A:List AE} {nh:Nat} {ops:Array Oper} {U bef:List Nat} {n:Nat} {listed:Array Bool} {fst:Bool}
theorem cj_drawG {id:Nat} (m:Nat) (U:List Nat) (hm:cf.P.follows .mixedOrders=true) (hs:Region.noSelect ops=true) (hn:ops.size=m)
    (h:GJ cf ops U [] m (Array.replicate m false) true Q σ env hp A nh) (hd:okRd cf.rd ops=true:=by rfl):CJ cf (.region id ops true) Q σ env hp A nh:=by
  subst hn
  refine ⟨fun hb a β w ha hw=>wpIn_region_any hm ?_⟩
  have hc:Closed ops (Array.replicate ops.size false):=⟨by simp,fun j oj _ hl=>by
    exfalso
    rcases Nat.lt_or_ge j ops.size with h | h
    · simp [h] at hl
    · simp [h] at hl⟩
  exact wpAnyIn_of_C (okRd_mem hd) _ _ _ _ _ _ hw.drew (h.run hs hb a β ha ⟨_,hw⟩ hc _ (fun _ h=>h) (fun _ _ h=>h))
theorem gj_valT {i d:Nat} {o:Oper} (y:SV) (hi:ops[i]?=some o) (hr:(Region.ready .any ops listed).contains i=true) (hf:Region.free .any ops listed i=true) (hk:(U.contains i||fst)=true)
    (hd:o.dst=some d) (hg:guardVal (slotOf ops o) env=some true) (hN:Nat.blt d cf.N=true) (hlt:y.lt nh)
    (hrun:Bd env hp nh->∀ a β,StA cf env β a->∀ w,(U.contains i=false->StW cf σ hp A β w)->(execOp a.eval o).run cf.P w=.ok (.value (y.den β)) w)
    (k:GJ cf ops U (bef++[i]) n (listed.setIfInBounds i true) fst Q σ ((d,y)::env) hp A nh):GJ cf ops U bef (n+1) listed fst Q σ env hp A nh:=by
  refine ⟨fun hs hb a β ha hex hc E0 hE hF=>?_⟩
  have hN':d<cf.N:=by simpa [Nat.blt_eq] using hN
  have hr':i∈Region.ready .any ops listed:=by simpa using hr
  have hw:Region.wanted o (yielded ops a.tmps)=true:=by rw [<-wantedS_slotOf];exact guardVal_ok ha hg
  have hrest:=k.run hs (hb.put hlt d) _ β (ha.put hN' y) hex (hc.set hr') E0 hE hF
  refine wpAnyC_first hi (Region.noSelect_spec hs) n listed a E0 _ hc hE (Region.free_spec hi hf) hr' ⟨.inl ⟨hw,fun w hE0=>.inl ?_⟩,fun hu=>.inl ⟨hw,fun w _=>.inl ?_⟩⟩ (by rw [hd];exact hrest)
  · refine hrun hb a β ha w fun hu=>?_
    rw [hu,Bool.false_or] at hk
    exact hF hk w hE0
  · exact hrun hb a β ha w fun hu'=>absurd (List.contains_iff_mem.2 hu) (by rw [hu'];simp)
theorem gj_val {i d:Nat} {o:Oper} {T:List (Nat×TI)} (hT:TTok cf.P T) {x:SV} (hi:ops[i]?=some o) (hr:(Region.ready .any ops listed).contains i=true) (hf:Region.free .any ops listed i=true)
    (hk:(bif U.contains i then !isLoad o.op else fst)=true) (hd:o.dst=some d) (hg:guardVal (slotOf ops o) env=some true) (hN:Nat.blt d cf.N=true) (h:stepOp T o.op env hp nh=some (.val x))
    (k:GJ cf ops U (bef++[i]) n (listed.setIfInBounds i true) fst Q σ ((d,x)::env) hp A nh):GJ cf ops U bef (n+1) listed fst Q σ env hp A nh:=by
  refine ⟨fun hs hb a β ha hex hc E0 hE hF=>?_⟩
  have hx:x.lt nh:=(step_ok (o:=o) hT ha hb h).1
  refine (gj_valT x hi hr hf ?_ hd hg hN hx (fun hb a β ha w hw=>?_) k).run hs hb a β ha hex hc E0 hE hF
  · cases hu:U.contains i<;>rw [hu] at hk
    · simpa using hk
    · rfl
  · refine (step_ok (o:=o) hT ha hb h).2 w fun hl=>⟨σ,A,hw ?_⟩
    cases hu:U.contains i with
    | false=>rfl
    | true=>rw [hu,cond_true,hl] at hk;cases hk
theorem gj_fork (js:List Nat) (hr:(Region.ready .any ops listed == js)=true) (hne:js.isEmpty=false) (k:∀ j,j∈js->GK cf ops U bef n listed j Q σ env hp A nh):GJ cf ops U bef (n+1) listed fst Q σ env hp A nh:=by
  refine ⟨fun hs hb a β ha hex hc E0 hE hF=>?_⟩
  have hr':=eq_of_beq hr
  refine ⟨fun h0=>?_,fun j hj=>(k j (by rw [<-hr'];exact hj)).run hs hb a β ha hex hc hj E0 hE⟩
  rw [hr'] at h0
  subst h0
  cases hne
theorem gj_two {i j:Nat} (hr:(Region.ready .any ops listed == [i,j])=true) (ki:GK cf ops U bef n listed i Q σ env hp A nh) (kj:GK cf ops U bef n listed j Q σ env hp A nh):GJ cf ops U bef (n+1) listed fst Q σ env hp A nh :=
  gj_fork [i,j] hr rfl fun m hm=>by
    simp only [List.mem_cons,List.not_mem_nil,or_false] at hm
    rcases hm with rfl | rfl
    · exact ki
    · exact kj
theorem gk_call {j d:Nat} {o:Oper} {f:FuncId} {ys:List SV} {Φ:Value->Snap->Prop} (hj:ops[j]?=some o) (hc:callee env o.op=some (f,ys)) (hd:o.dst=some d) (hg:guardVal (slotOf ops o) env=some true)
    (hN:Nat.blt d cf.N=true) (hcall:∀ args w,(callFunc f args).run cf.P w=.ok (.enter f args) w) (hlt:LtAll ys) (hC:PureS cf.P f ys σ Φ)
    (k:∀ v σ',σ.le σ'->Φ v σ'->∃ y:SV,y.lt 0/\y.den β0=v/\GJ cf ops U (bef++[j]) n (listed.setIfInBounds j true) false Q σ' ((d,y)::env) hp A nh):GK cf ops U bef n listed j Q σ env hp A nh:=by
  refine ⟨fun hs hb a β ha hex hcl hr E0 hE=>?_⟩
  have hN':d<cf.N:=by simpa [Nat.blt_eq] using hN
  have den0:∀ {y:SV},y.lt 0->y.den β=y.den β0:=fun hy=>SV.den_congr (n:=0) (fun i hi=>by omega) hy
  have hargs:(ys.map (SV.den β)).toArray=(ys.map (SV.den β0)).toArray:=by
    rw [List.map_congr_left fun y hy=>den0 (hlt.of y hy)]
  have hwant:Region.wanted o (yielded ops a.tmps)=true:=by rw [<-wantedS_slotOf];exact guardVal_ok ha hg
  unfold stepC
  simp only [hj]
  rw [if_pos hwant]
  intro w hw
  unfold Oper.wq
  rw [callee_ok ha hc hcall]
  simp only [Oper.uponIn]
  rw [hargs]
  refine ⟨fun h=>(by cases h),CallsIn.mono (callsIn_FR.2 (hC w hw.sealed)) fun e w' ⟨v,σ',he,h1,h2,h3,h4⟩=>?_⟩
  subst he
  have hw':=hw.after h1 h2 h3
  have hσ:∀ {b},σ' b=none->σ b=none:=fun hb=>Snap.none_of_le h2.le hb
  have hsub:∀ x,StW cf σ' hp A β x->StW cf σ hp A β x:=by
    intro x hx
    refine ⟨hx.os,hx.tape,hx.output,hx.size,hx.fr,fun b o hb=>hx.sealed b o (h2.le b o hb),hw.le,hw.grow,fun i e cs hi=>?_,hw.ro,hx.inj,fun i E hE=>(hx.arr i E hE).weak hσ,hx.arrd,hx.arrh⟩
    obtain ⟨q1,q2,q3,q4⟩:=hx.loc i e cs hi
    exact ⟨q1,q2,hσ q3,q4⟩
  obtain ⟨y,hy,hyv,hk⟩:=k v σ' h2.le h4
  refine ⟨E0,_,hw',fun x hx=>hE x (hsub x hx),.inl fun _ h=>h,?_⟩
  have:=hk.run hs (hb.put (SV.lt_mono (Nat.zero_le _) hy) d) (a.put (some d) (y.den β)) β (ha.put hN' y) ⟨_,hw'⟩ (hcl.set hr) E0 (fun x hx=>hE x (hsub x hx)) (fun h=>by cases h)
  rw [hd,<-hyv,<-den0 hy]
  exact this
theorem gk_new {j d:Nat} {o:Oper} {T:List (Nat×TI)} (hT:TTok cf.P T) {e:TypeId} {cs:List AT} {x:AT} (hj:ops[j]?=some o) (h:stepOp T o.op env hp nh=some (.new e cs x)) (hd:o.dst=some d) (hg:guardVal (slotOf ops o) env=some true)
    (hN:Nat.blt d cf.N=true) (k:GJ cf ops U (bef++[j]) n (listed.setIfInBounds j true) false Q σ ((d,.a x)::env) ((nh,.loc e,cs)::hp) A (nh+1)):GK cf ops U bef n listed j Q σ env hp A nh:=by
  refine ⟨fun hs hb a β ha hex hcl hr E0 hE=>?_⟩
  have hN':d<cf.N:=by simpa [Nat.blt_eq] using hN
  have hwant:Region.wanted o (yielded ops a.tmps)=true:=by rw [<-wantedS_slotOf];exact guardVal_ok ha hg
  obtain ⟨hcs,hx,hrun⟩:=step_ok (o:=o) hT ha hb h
  have hxl:(SV.a x).lt (nh+1):=by
    rcases hx with rfl | ⟨n,rfl⟩<;>exact Nat.lt_succ_self nh
  unfold stepC
  simp only [hj]
  rw [if_pos hwant]
  intro w hw
  unfold Oper.wq
  rw [hrun w]
  have hw':=hw.alloc (e:=e) hb hcs
  have hβ:=upd_old β nh w
  have hg2:∀ {i k l},hp.get i=some (k,l)->HP.get ((nh,HK.loc e,cs)::hp) i=some (k,l):=by
    intro i k l hi
    have hlt:=(hb.hp i k l hi).1
    rw [HP.get_cons,if_neg (by omega)]
    exact hi
  have keepS:∀ w',StW cf σ ((nh,.loc e,cs)::hp) A (upd β nh w) w'->StW cf σ hp A β w':=by
    intro w' s
    refine ⟨s.os,s.tape,s.output,s.size,s.fr,s.sealed,s.le,s.grow,fun i e' l hi=>?_,fun i l hi j c hc=>?_,fun i j e1 e2 l1 l2 hi hj heq=>?_,s.arr,s.arrd,fun i j E e' l hE hj=>?_⟩
    · obtain ⟨hlt,hl⟩:=hb.hp i _ l hi
      have:=s.loc i e' l (hg2 hi)
      rw [hβ i hlt,AT.denL_congr hβ hl] at this
      exact this
    · obtain ⟨hlt,hl⟩:=hb.hp i _ l hi
      have:=s.ro i l (hg2 hi) j c hc
      rw [hβ i hlt,AT.den_congr hβ (hl c (List.mem_of_getElem? hc))] at this
      exact this
    · have h1:=(hb.hp i _ l1 hi).1
      have h2:=(hb.hp j _ l2 hj).1
      exact s.inj i j e1 e2 l1 l2 (hg2 hi) (hg2 hj) (by rw [hβ i h1,hβ j h2];exact heq)
    · have h1:=(hb.hp j _ l hj).1
      have:=s.arrh i j E e' l hE (hg2 hj)
      rw [hβ j h1] at this
      exact this
  refine ⟨E0,_,hw',fun x hx=>hE x (keepS x hx),.inl fun _ h=>h,?_⟩
  rw [hd]
  exact k.run hs ((hb.mono (Nat.le_succ nh)).row (Nat.lt_succ_self nh) (fun c hc=>AT.lt_mono (Nat.le_succ nh) (hcs c hc)) |>.put hxl d) _ (upd β nh w) ((ha.congr hb hβ).put hN' (.a x)) ⟨_,hw'⟩ (hcl.set hr) E0 (fun x hx=>hE x (keepS x hx)) (fun h=>by cases h)
theorem gj_order (l:List (Nat×Tag)) (hl:(l.all fun p=>decide (p.1<ops.size))=true) (hq:noQuiet (itemsOf ops l)=true) (ho:orderFrom ops U bef l listed=true) (h:OJ cf (itemsOf ops l) Q σ env hp A nh) :
    GJ cf ops U bef l.length listed fst Q σ env hp A nh:=by
  refine ⟨fun hs hb a β ha hex hc E0 hE _=>?_⟩
  have:=run_wider hE _ _ a hq (h.run hb a β ha hex)
  exact run_order hs l bef listed a E0 _ hc hE (fun p hp=>by simpa using List.all_eq_true.1 hl p hp) ho this
end
end Go.Sy
/- More rules: room made by 'append(nil, make(..)..)'; values read in a wider class. No program in sight. -/
namespace Go.Sy
section
variable {cf:Cf} {Q:Exit->Act->World->Prop} {σ:Snap} {env:Env} {hp:HP} {A:List AE} {nh:Nat} {it:Item} {rest:List Item}
variable {W:(Nat->Addr)->World->Prop}
theorem StW.dropA {β:Nat->Addr} {w:World} (h:StW cf σ hp A β w):StW cf σ hp [] β w :=
  { h with arr:=fun i E hi=>(by simp at hi),arrd:=fun i j E F hi=>(by simp at hi),arrh:=fun i j E e cs hi=>(by simp at hi) }
end
end Go.Sy
namespace Go.Sy
open Go.Proofs
theorem nj_cutArr {cf:Cf} {Q:Exit->Act->World->Prop} {σ:Snap} {env:Env} {hp:HP} {A:List AE} {nh:Nat} {e:Exit} (i k:Nat) {E:AE} {A':List AE} (hi:A[i]?=some E) (hk:k<=E.n) (hA:A.set i (E.cut k)=A') (h:NJ cf e Q σ env hp A' nh):NJ cf e Q σ env hp A nh :=
  ⟨fun hb a β w ha hw=>h.run hb a β w ha (hA▸hw.cutArr hi hk)⟩
theorem oj_ldSs {cf:Cf} {Q:Exit->Act->World->Prop} {σ:Snap} {env:Env} {hp:HP} {A:List AE} {nh:Nat} {it:Item} {rest:List Item} {d t:Nat} {x:Operand} {T:List (Nat×TI)} (hT:TTok cf.P T) {ti:TI} {g off:Nat} (cs:List AT) (hop:it.o.op=.load t x) (hd:it.o.dst=some d) (hg:guardVal it.guard env=some true) (hN:Nat.blt d cf.N=true)
    (htag:(match it.tag with | .pure=>false | _=>true)=true) (hx:evalO env x=some (.a (.v (.pointer (some ⟨g,off,none⟩))))) (ht:tget T t=some ti) (hag:ti.agg=true)
    (hlen:cs.length=ti.size) (hv:∀ (j:Nat) c,cs[j]?=some c->σ.cell ⟨g,off+j,none⟩=some c.val) (hc:∀ c∈cs,c.lt 0) (k:OJ cf rest Q σ ((d,.agg cs)::env) hp A nh):OJ cf (it::rest) Q σ env hp A nh:=by
  refine oj_valW (.agg cs) hd hg hN (fun c h=>AT.lt_mono (Nat.zero_le _) (hc c h)) htag (fun _ a β ha w hw=>?_) k
  obtain ⟨inf,d',z,hs⟩:=tiOf_spec (hT _ _ ht)
  have hx':a.eval x=.pointer (some ⟨g,off,none⟩):=evalO_eval ha hx
  have hrun:=run_loadCells_list (P:=cf.P) (w:=w) ⟨g,off,none⟩ (cs.map (AT.den β)) (fun j v hv'=>by
    rw [List.getElem?_map] at hv'
    obtain ⟨c,hc',rfl⟩:=map_some hv'
    rw [Addr.add_lit,AT.den_val (hc c (List.mem_of_getElem? hc')) β]
    exact Snap.cell_sealed hw (hv j c hc'))
  have hl:(cs.map (AT.den β)).length=inf.size:=by simp [hlen,hs.size]
  rw [hl] at hrun
  simp only [execOp,hop,Instr.loadAt,hx',Instr.sureAddr,loadVar,Sem.run_bind,Sem.run_pure,Result.andThen_ok,run_isAgg hs.und,hs.agg,hag,if_true,run_size hs.info,hrun]
  rfl
def itCells (x:GItem):List AT:=[.v (.int .i64 x.doc),.v (.int .i64 x.at_),.v (.int .i64 x.st),.v (.int .i64 x.en),.v (.int .i64 x.lv)]
theorem itCells_lt (n:Nat) (x:GItem):∀ c∈itCells x,c.lt n:=by simp [itCells,AT.lt]
def opCells (z:OI):List AT:=itCells z.1++[.v (.int .i64 z.2)]
theorem opCells_lt (n:Nat) (z:OI):∀ c∈opCells z,c.lt n:=by simp [opCells,itCells,AT.lt]
set_option maxRecDepth 100000 in
set_option maxHeartbeats 1000000 in
theorem over_c (σ:Snap) (a d:GItem):PlainS Tryz.prog 97 [.agg (itCells a),.agg (itCells d)] σ (fun v=>v=.bool (overI a d)):=by
  refine enter_p Tryz.func97 rfl rfl ⟨itCells_lt 0 a,itCells_lt 0 d,trivial⟩ fun w=>?_
  (repeat (first | refine cj_seq ?_ | refine cjr TT rfl ?_ | refine oj_then ?_))
  refine oj_split 10 rfl (fun h=>?_) (fun h=>?_)
  · have h:(!decide (a.doc=d.doc))=true:=h
    refine oj_run TT rfl ?_
    (repeat (first | refine oj_then ?_ | refine cj_ret ?_))
    refine nj_ret TT rfl fun β w' _ _=>?_
    exact congrArg Value.bool (by unfold overI;rw [h];rfl)
  · have h:(!decide (a.doc=d.doc))=false:=h
    refine oj_run TT rfl ?_
    (repeat (first | refine oj_then ?_ | refine cj_ret ?_))
    refine nj_ret TT rfl fun β w' _ _=>?_
    exact congrArg Value.bool (by unfold overI;rw [h];rfl)
set_option maxRecDepth 100000 in
set_option maxHeartbeats 1000000 in
theorem holds_c (σ:Snap) (a d:GItem):PlainS Tryz.prog 98 [.agg (itCells a),.agg (itCells d)] σ (fun v=>v=.bool (holdsI a d)):=by
  refine enter_p Tryz.func98 rfl rfl ⟨itCells_lt 0 a,itCells_lt 0 d,trivial⟩ fun w=>?_
  (repeat (first | refine cj_seq ?_ | refine cjr TT rfl ?_ | refine oj_then ?_))
  refine oj_split 10 rfl (fun h=>?_) (fun h=>?_)
  · have h:decide (a.doc=d.doc)=true:=h
    refine oj_run TT rfl ?_
    refine oj_split 17 rfl (fun h2=>?_) (fun h2=>?_)
    · have h2:decide (a.st<d.st)=true:=h2
      refine oj_run TT rfl ?_
      (repeat (first | refine oj_then ?_ | refine cj_ret ?_))
      refine nj_ret TT rfl fun β w' _ _=>?_
      exact congrArg Value.bool (by unfold holdsI;rw [h,h2];rfl)
    · have h2:decide (a.st<d.st)=false:=h2
      refine oj_run TT rfl ?_
      (repeat (first | refine oj_then ?_ | refine cj_ret ?_))
      refine nj_ret TT rfl fun β w' _ _=>?_
      exact congrArg Value.bool (by unfold holdsI;rw [h,h2];rfl)
  · have h:decide (a.doc=d.doc)=false:=h
    refine oj_run TT rfl ?_
    (repeat (first | refine oj_then ?_ | refine cj_ret ?_))
    refine nj_ret TT rfl fun β w' _ _=>?_
    exact congrArg Value.bool (by unfold holdsI;rw [h];rfl)
set_option maxRecDepth 100000 in
set_option maxHeartbeats 1000000 in
theorem ahead_c (σ:Snap) (a d:GItem):PlainS Tryz.prog 94 [.agg (itCells a),.agg (itCells d)] σ (fun v=>v=.bool (aheadI a d)):=by
  refine enter_p Tryz.func94 rfl rfl ⟨itCells_lt 0 a,itCells_lt 0 d,trivial⟩ fun w=>?_
  (repeat (first | refine cj_seq ?_ | refine cjr TT rfl ?_ | refine oj_then ?_))
  refine oj_split 10 rfl (fun h=>?_) (fun h=>?_)
  · have h:decide (a.doc<d.doc)=true:=h
    refine oj_run TT rfl ?_
    (repeat (first | refine oj_then ?_ | refine cj_ret ?_))
    refine nj_ret TT rfl fun β w' _ _=>?_
    exact congrArg Value.bool (by unfold aheadI;rw [h];rfl)
  · have h:decide (a.doc<d.doc)=false:=h
    refine oj_run TT rfl ?_
    refine oj_split 16 rfl (fun h2=>?_) (fun h2=>?_)
    · have h2:decide (a.doc=d.doc)=true:=h2
      refine oj_run TT rfl ?_
      (repeat (first | refine oj_then ?_ | refine cj_ret ?_))
      refine nj_ret TT rfl fun β w' _ _=>?_
      exact congrArg Value.bool (by unfold aheadI;rw [h,h2];rfl)
    · have h2:decide (a.doc=d.doc)=false:=h2
      refine oj_run TT rfl ?_
      (repeat (first | refine oj_then ?_ | refine cj_ret ?_))
      refine nj_ret TT rfl fun β w' _ _=>?_
      exact congrArg Value.bool (by unfold aheadI;rw [h,h2];rfl)
set_option maxRecDepth 100000 in
set_option maxHeartbeats 1000000 in
theorem fits_c (σ:Snap) (a d:GItem) (kid:Bool) (hb:-1000000000000<=a.lv/\a.lv<=1000000000000):PlainS Tryz.prog 87 [.agg (itCells a),.agg (itCells d),.a (.b kid)] σ (fun v=>v=.bool (fitsI a d kid)):=by
  refine enter_p Tryz.func87 rfl rfl ⟨itCells_lt 0 a,itCells_lt 0 d,trivial,trivial⟩ fun w=>?_
  (repeat (first | refine cj_seq ?_ | refine cjr TT rfl ?_ | refine oj_then ?_))
  refine oj_callP rfl rfl rfl rfl rfl Tryz.call98 (by (repeat' (first | exact trivial | refine AllLt.of ?_ | constructor))) (holds_c σ a d) fun v hv=>⟨.a (.b (holdsI a d)),trivial,hv.symm,?_⟩
  refine oj_run TT rfl ?_
  refine oj_split 10 rfl (fun h=>?_) (fun h=>?_)
  · have h:holdsI a d=true:=h
    refine oj_run TT rfl ?_
    refine oj_split 13 rfl (fun h2=>?_) (fun h2=>?_)
    · have h2:(!kid)=true:=h2
      refine oj_run TT rfl ?_
      (repeat (first | refine oj_then ?_ | refine cj_ret ?_))
      refine nj_ret TT rfl fun β w' _ _=>?_
      exact congrArg Value.bool (by unfold fitsI;rw [h,h2];rfl)
    · have h2:(!kid)=false:=h2
      refine oj_run TT rfl ?_
      refine oj_add rfl rfl rfl rfl rfl rfl (by omega) (oj_run TT rfl ?_)
      (repeat (first | refine oj_then ?_ | refine cj_ret ?_))
      refine nj_ret TT rfl fun β w' _ _=>?_
      exact congrArg Value.bool (by unfold fitsI;rw [h,h2];rfl)
  · have h:holdsI a d=false:=h
    refine oj_run TT rfl ?_
    (repeat (first | refine oj_then ?_ | refine cj_ret ?_))
    refine nj_ret TT rfl fun β w' _ _=>?_
    exact congrArg Value.bool (by unfold fitsI;rw [h];rfl)
def itRows (l:List GItem):List (List AT):=l.map itCells
theorem itRows_get {l:List GItem} {i:Nat} {x:GItem} (h:l[i]?=some x):(itRows l)[i]?=some (itCells x):=by unfold itRows;rw [List.getElem?_map,h];rfl
theorem itRows_all (a:List GItem):∀ r∈itRows a,r.length=5/\(∀ c∈r,c.lt 0)/\r.all AT.one=true:=by
  intro r hr
  obtain ⟨x,_,rfl⟩:=List.mem_map.1 hr
  exact ⟨rfl,itCells_lt 0 x,rfl⟩
def itXs (l:List GItem):List Value:=(itRows l).flatten.map AT.val
theorem itXs_append (a b:List GItem):itXs (a++b)=itXs a++itXs b:=by simp [itXs,itRows]
theorem itXs_push (L:List GItem) (x:GItem):itXs L++(itCells x).map AT.val=itXs (L++[x]):=by
  rw [itXs_append]
  simp [itXs,itRows]
theorem itXs_get {l:List GItem} {i j:Nat} {x:GItem} {c:AT} (h:l[i]?=some x) (hj:(itCells x)[j]?=some c):(itXs l)[i*5+j]?=some c.val:=by
  unfold itXs
  rw [List.getElem?_map,flat_get (sz:=5) (fun r hr=>(itRows_all l r hr).1) (itRows_get h) hj]
  rfl
theorem itXs_take (l:List GItem) (k:Nat):(itXs l).take (k*5)=itXs (l.take k):=by
  unfold itXs
  rw [<-List.map_take,flat_take (sz:=5) (fun r hr=>(itRows_all l r hr).1)]
  unfold itRows
  rw [List.map_take]
def itE (ao:Option Addr) (cap:Nat) (l:List GItem):AE:=⟨ao,l.length,cap,71,5,itXs l⟩
theorem it_sealed {σ:Snap} {ao:Option Addr} {cap:Nat} {l:List GItem} (hS:ArrSealed σ (itE ao cap l)) (hc:l.length<=cap):SlAt σ ao l.length cap 5 (itRows l) :=
  hS.sl rfl (fun r hr=>⟨(itRows_all l r hr).1,(itRows_all l r hr).2.1⟩) (by simp [itRows]) rfl hc
theorem itE_cut (ao:Option Addr) (cap:Nat) (l:List GItem) (k:Nat) (hk:k<=l.length):(itE ao cap l).cut k=itE ao cap (l.take k):=by
  unfold itE AE.cut
  dsimp only
  rw [itXs_take,List.length_take,Nat.min_eq_left hk]
def itK (gs:Nat) (ao:Option Addr) (n cap:Nat) (m:Int):AE:=⟨some ⟨gs,0,none⟩,1,1,178,2,[.slice ao n cap,.int .i64 m]⟩
set_option maxRecDepth 100000 in
set_option maxHeartbeats 1000000 in
theorem itPush_c (σ:Snap) (gs:Nat) (ao:Option Addr) (cap:Nat) (m:Int) (S:List GItem) (x:GItem) (hl:S.length<=1000000) (h1:0<=m) (h2:m<=1000000) :
    FnS Tryz.prog 99 [.a (.v (.pointer (some ⟨gs,0,none⟩))),.agg (itCells x)] σ [itK gs ao S.length cap m,itE ao cap S]
      (fun v _ A'=>v=.tuple #[]/\∃ ao' cap',S.length+1<=cap'/\A'=[itK gs ao' (S.length+1) cap' (m+1),itE ao' cap' (S++[x])]):=by
  refine enter_f Tryz.func99 rfl rfl ⟨trivial,itCells_lt 0 x,trivial⟩ fun w=>?_
  (repeat (first | refine cj_seq ?_ | refine cjr TT rfl ?_ | refine oj_then ?_))
  refine cj_draw [(0,.pure),(1,.pure),(2,.pure),(3,.pure),(4,.quiet),(5,.quiet),(6,.keep),(7,.sink),(8,.pure),(9,.pure),(10,.sink)] mixed (by kernel_rfl) (oj_run TT rfl ?_)
  refine oj_ldA 0 (c:=.v (.slice ao S.length cap)) TT rfl rfl rfl rfl rfl rfl rfl rfl rfl rfl rfl trivial (oj_run TT rfl ?_)
  refine oj_append_lit TT 1 rfl rfl rfl rfl rfl rfl rfl rfl rfl rfl rfl rfl rfl rfl rfl rfl rfl rfl (itCells_lt 0 x) rfl (by omega) (by show (S.length+1)*40<=_;omega) fun ao1 cap1 hcap1=>oj_run TT rfl ?_
  refine oj_stA 0 (A':=[itK gs ao1 (S.length+1) cap1 m,⟨ao1,S.length+1,cap1,71,5,itXs S++(itCells x).map AT.val⟩]) TT rfl rfl rfl rfl rfl rfl rfl rfl rfl rfl (by show 0<1*2;omega) trivial rfl rfl (oj_run TT rfl ?_)
  rw [itXs_push]
  (repeat (first | refine cjr TT rfl ?_ | refine oj_then ?_))
  refine oj_ldA 0 (c:=.v (.int .i64 m)) TT rfl rfl rfl rfl rfl rfl rfl rfl rfl rfl rfl trivial (oj_run TT rfl ?_)
  refine oj_add rfl rfl rfl rfl rfl rfl (by omega) (oj_run TT rfl ?_)
  refine oj_stA 0 (A':=[itK gs ao1 (S.length+1) cap1 (m+1),⟨ao1,S.length+1,cap1,71,5,itXs (S++[x])⟩]) TT rfl rfl rfl rfl rfl rfl rfl rfl rfl rfl (by show 1<1*2;omega) trivial rfl rfl (oj_run TT rfl ?_)
  (repeat refine oj_nil ?_)
  refine nj_fend TT rfl fun β w' _ _=>?_
  refine ⟨rfl,ao1,cap1,hcap1,?_⟩
  unfold itE
  rw [List.length_append]
  rfl
set_option maxRecDepth 100000 in
set_option maxHeartbeats 1000000 in
theorem itPop_c (σ:Snap) (gs:Nat) (ao:Option Addr) (cap:Nat) (m:Int) (S:List GItem) (hl:S.length<=1000000) (hSc:S.length<=cap) (f:FuncId) (caps:List PT) (hcap:LtAll (caps.map ptSV))
    (hcall:∀ args w,(callFunc f args).run Tryz.prog w=.ok (.enter f args) w) (q:GItem->Bool) (hq:∀ x∈S,PlainS Tryz.prog f (.agg (itCells x)::caps.map ptSV) σ (fun v=>v=.bool (q x))) (hlt:(SV.a (.fn (.func f) caps)).lt 0) :
    FnS Tryz.prog 95 [.a (.v (.pointer (some ⟨gs,0,none⟩))),.a (.fn (.func f) caps)] σ [itK gs ao S.length cap m,itE ao cap S]
      (fun v _ A'=>v=.tuple #[]/\A'=[itK gs ao (popI q S).length cap m,itE ao cap (popI q S)]):=by
  refine enter_f Tryz.func95 rfl rfl ⟨trivial,hlt,trivial⟩ fun w=>?_
  (repeat refine cj_block ?_)
  refine cj_loop (fun (_:List GItem)=>σ) (fun _=>[(0,.a (.v (.pointer (some ⟨gs,0,none⟩)))),(1,.a (.fn (.func f) caps))]) (fun _=>[]) (fun s=>[itK gs ao s.length cap m,itE ao cap s]) 0
    (fun s=>popI q s=popI q S/\s.length<=S.length/\∀ x∈s,x∈S) (fun s=>s.length) S ⟨rfl,Nat.le_refl _,fun _ h=>h⟩ rfl (by (repeat first | exact trivial | refine ⟨rfl,?_⟩)) (by (repeat first | exact trivial | refine ⟨rfl,?_⟩)) rfl ⟨trivial,hlt,trivial⟩ trivial fun s ⟨hp,hsl,hm⟩=>?_
  (repeat refine cj_seq ?_)
  refine cj_draw [(0,.pure),(1,.pure),(2,.pure),(3,.quiet),(4,.pure),(5,.pure),(6,.pure),(7,.pure),(8,.pure),(9,.pure),(10,.pure),(11,.quiet),(12,.pure),(13,.pure),(14,.pure),(15,.quiet),(16,.pure),(17,.pure),(18,.pure),(19,.quiet),(20,.keep),(21,.pure)] mixed (by kernel_rfl) (oj_run TT rfl ?_)
  refine oj_ldA 0 (c:=.v (.slice ao s.length cap)) TT rfl rfl rfl rfl rfl rfl rfl rfl rfl rfl rfl trivial (oj_run TT rfl ?_)
  refine oj_split 10 rfl (fun h=>?_) (fun h=>?_)
  rotate_left
  · have h0:s=[]:=by
      have h:decide (0<(s.length:Int))=false:=h
      have:=of_decide_eq_false h
      exact List.eq_nil_of_length_eq_zero (by omega)
    subst h0
    refine oj_run TT rfl ?_
    (repeat (first | refine oj_then ?_ | refine cj_if_f rfl ?_ | refine cj_exit ?_ | refine nj_then_exit ?_ | refine nj_block_out ?_))
    refine nj_fend TT rfl fun β w' _ _=>?_
    exact ⟨rfl,by rw [<-hp];rfl⟩
  have h:decide (0<(s.length:Int))=true:=h
  have hne:s≠[]:=by
    intro h0
    subst h0
    cases h
  obtain ⟨s0,x,rfl⟩:∃ s0 x,s=s0++[x]:=⟨s.dropLast,s.getLast hne,(List.dropLast_concat_getLast hne).symm⟩
  have hlen:(s0++[x]).length=s0.length+1:=by simp
  have htop:(s0++[x])[s0.length]?=some x:=by simp
  have hqx:=hq x (hm x (by simp))
  refine oj_run TT rfl ?_
  refine oj_ldA 0 (c:=.v (.slice ao (s0++[x]).length cap)) TT rfl rfl rfl rfl rfl rfl rfl rfl rfl rfl rfl trivial (oj_run TT rfl ?_)
  refine oj_ldA 0 (c:=.v (.slice ao (s0++[x]).length cap)) TT rfl rfl rfl rfl rfl rfl rfl rfl rfl rfl rfl trivial (oj_run TT rfl ?_)
  refine oj_minus rfl rfl rfl rfl rfl rfl (by omega) (oj_run TT rfl ?_)
  refine oj_arrAt 1 (E:=itE ao cap (s0++[x])) rfl (by show 0<(s0++[x]).length;omega) fun g1 hg1=>?_
  have hg1:ao=some ⟨g1,0,none⟩:=hg1
  subst hg1
  refine oj_indexAddr TT rfl rfl rfl rfl rfl rfl rfl rfl rfl ⟨by omega,by omega⟩ (oj_run TT rfl ?_)
  refine oj_ldAs 1 (off:=s0.length*5) TT (itCells x) rfl rfl rfl rfl rfl ?_ rfl rfl rfl rfl rfl ?_ (itCells_lt _ _) (oj_run TT rfl ?_)
  · show some (SV.a (AT.v (.pointer (some (Addr.add ⟨g1,0,none⟩ (((((s0++[x]).length:Nat):Int) - 1).toNat*5))))))=_
    rw [add0,show ((((s0++[x]).length:Nat):Int) - 1).toNat=s0.length by rw [hlen];omega]
  · intro j c hj
    exact itXs_get htop hj
  refine oj_callP (ys:=.agg (itCells x)::caps.map ptSV) rfl rfl rfl rfl rfl hcall ⟨itCells_lt 0 x,hcap⟩ hqx fun v hv=>⟨.a (.b (q x)),trivial,hv.symm,?_⟩
  refine oj_run TT rfl ?_
  (repeat refine oj_then ?_)
  refine cj_if rfl (fun h=>?_) (fun h=>?_)
  rotate_left
  · have h:q x=false:=h
    rw [popI_last,h,if_neg (by decide)] at hp
    (repeat (first | refine cj_exit ?_ | refine nj_then_exit ?_ | refine nj_block_out ?_))
    refine nj_fend TT rfl fun β w' _ _=>?_
    exact ⟨rfl,by rw [<-hp]⟩
  have h:q x=true:=h
  rw [popI_last,h,if_pos rfl] at hp
  (repeat (first | refine cj_skip ?_ | refine cj_block ?_ | refine nj_then ?_))
  refine cj_draw [(0,.pure),(1,.pure),(2,.pure),(3,.pure),(4,.quiet),(5,.pure),(6,.pure),(7,.pure),(8,.quiet),(9,.pure),(10,.pure),(11,.pure),(12,.pure),(13,.pure),(14,.sink)] mixed (by kernel_rfl) (oj_run TT rfl ?_)
  refine oj_ldA 0 (c:=.v (.slice (some ⟨g1,0,none⟩) (s0++[x]).length cap)) TT rfl rfl rfl rfl rfl rfl rfl rfl rfl rfl rfl trivial (oj_run TT rfl ?_)
  refine oj_ldA 0 (c:=.v (.slice (some ⟨g1,0,none⟩) (s0++[x]).length cap)) TT rfl rfl rfl rfl rfl rfl rfl rfl rfl rfl rfl trivial (oj_run TT rfl ?_)
  refine oj_minus rfl rfl rfl rfl rfl rfl (by omega) (oj_run TT rfl ?_)
  refine oj_slice_to TT s0.length rfl rfl rfl rfl rfl rfl rfl rfl rfl (by rw [hlen];omega) (by omega) (by omega) (oj_run TT rfl ?_)
  refine oj_stA 0 (A':=[itK gs (some ⟨g1,0,none⟩) s0.length cap m,itE (some ⟨g1,0,none⟩) cap (s0++[x])]) TT rfl rfl rfl rfl rfl rfl rfl rfl rfl rfl (by show 0<1*2;omega) trivial rfl rfl (oj_run TT rfl ?_)
  (repeat (first | refine oj_nil ?_ | refine nj_block ?_))
  refine nj_cutArr 1 s0.length (A':=[itK gs (some ⟨g1,0,none⟩) s0.length cap m,itE (some ⟨g1,0,none⟩) cap s0]) rfl (by show s0.length<=(s0++[x]).length;omega) ?_ ?_
  · rw [itE_cut _ _ _ _ (by omega),List.take_left]
    rfl
  refine nj_again s0 ⟨hp,by omega,fun y hy=>hm y (List.mem_append_left _ hy)⟩ (by omega) rfl (by (repeat first | exact trivial | refine ⟨rfl,?_⟩)) (by (repeat first | exact trivial | refine ⟨rfl,?_⟩)) rfl ⟨trivial,hlt,trivial⟩ trivial
def opRows (l:List OI):List (List AT):=l.map opCells
theorem opRows_get {l:List OI} {i:Nat} {x:OI} (h:l[i]?=some x):(opRows l)[i]?=some (opCells x):=by unfold opRows;rw [List.getElem?_map,h];rfl
theorem opRows_all (a:List OI):∀ r∈opRows a,r.length=6/\(∀ c∈r,c.lt 0)/\r.all AT.one=true:=by
  intro r hr
  obtain ⟨x,_,rfl⟩:=List.mem_map.1 hr
  exact ⟨rfl,opCells_lt 0 x,rfl⟩
def opXs (l:List OI):List Value:=(opRows l).flatten.map AT.val
theorem opXs_append (a b:List OI):opXs (a++b)=opXs a++opXs b:=by simp [opXs,opRows]
theorem opXs_push (L:List OI) (x:OI):opXs L++(opCells x).map AT.val=opXs (L++[x]):=by
  rw [opXs_append]
  simp [opXs,opRows]
theorem opXs_get {l:List OI} {i j:Nat} {x:OI} {c:AT} (h:l[i]?=some x) (hj:(opCells x)[j]?=some c):(opXs l)[i*6+j]?=some c.val:=by
  unfold opXs
  rw [List.getElem?_map,flat_get (sz:=6) (fun r hr=>(opRows_all l r hr).1) (opRows_get h) hj]
  rfl
theorem opXs_take (l:List OI) (k:Nat):(opXs l).take (k*6)=opXs (l.take k):=by
  unfold opXs
  rw [<-List.map_take,flat_take (sz:=6) (fun r hr=>(opRows_all l r hr).1)]
  unfold opRows
  rw [List.map_take]
def opE (ao:Option Addr) (cap:Nat) (l:List OI):AE:=⟨ao,l.length,cap,169,6,opXs l⟩
theorem op_sealed {σ:Snap} {ao:Option Addr} {cap:Nat} {l:List OI} (hS:ArrSealed σ (opE ao cap l)) (hc:l.length<=cap):SlAt σ ao l.length cap 6 (opRows l) :=
  hS.sl rfl (fun r hr=>⟨(opRows_all l r hr).1,(opRows_all l r hr).2.1⟩) (by simp [opRows]) rfl hc
theorem opE_cut (ao:Option Addr) (cap:Nat) (l:List OI) (k:Nat) (hk:k<=l.length):(opE ao cap l).cut k=opE ao cap (l.take k):=by
  unfold opE AE.cut
  dsimp only
  rw [opXs_take,List.length_take,Nat.min_eq_left hk]
def opK (gs:Nat) (ao:Option Addr) (n cap:Nat) (m:Int):AE:=⟨some ⟨gs,0,none⟩,1,1,268,2,[.slice ao n cap,.int .i64 m]⟩
set_option maxRecDepth 100000 in
set_option maxHeartbeats 1000000 in
theorem opPush_c (σ:Snap) (gs:Nat) (ao:Option Addr) (cap:Nat) (m:Int) (S:List OI) (x:OI) (hl:S.length<=1000000) (h1:0<=m) (h2:m<=1000000) :
    FnS Tryz.prog 161 [.a (.v (.pointer (some ⟨gs,0,none⟩))),.agg (opCells x)] σ [opK gs ao S.length cap m,opE ao cap S]
      (fun v _ A'=>v=.tuple #[]/\∃ ao' cap',S.length+1<=cap'/\A'=[opK gs ao' (S.length+1) cap' (m+1),opE ao' cap' (S++[x])]):=by
  refine enter_f Tryz.func161 rfl rfl ⟨trivial,opCells_lt 0 x,trivial⟩ fun w=>?_
  (repeat (first | refine cj_seq ?_ | refine cjr TT rfl ?_ | refine oj_then ?_))
  refine cj_draw [(0,.pure),(1,.pure),(2,.pure),(3,.pure),(4,.quiet),(5,.quiet),(6,.keep),(7,.sink),(8,.pure),(9,.pure),(10,.sink)] mixed (by kernel_rfl) (oj_run TT rfl ?_)
  refine oj_ldA 0 (c:=.v (.slice ao S.length cap)) TT rfl rfl rfl rfl rfl rfl rfl rfl rfl rfl rfl trivial (oj_run TT rfl ?_)
  refine oj_append_lit TT 1 rfl rfl rfl rfl rfl rfl rfl rfl rfl rfl rfl rfl rfl rfl rfl rfl rfl rfl (opCells_lt 0 x) rfl (by omega) (by show (S.length+1)*48<=_;omega) fun ao1 cap1 hcap1=>oj_run TT rfl ?_
  refine oj_stA 0 (A':=[opK gs ao1 (S.length+1) cap1 m,⟨ao1,S.length+1,cap1,169,6,opXs S++(opCells x).map AT.val⟩]) TT rfl rfl rfl rfl rfl rfl rfl rfl rfl rfl (by show 0<1*2;omega) trivial rfl rfl (oj_run TT rfl ?_)
  rw [opXs_push]
  (repeat (first | refine cjr TT rfl ?_ | refine oj_then ?_))
  refine oj_ldA 0 (c:=.v (.int .i64 m)) TT rfl rfl rfl rfl rfl rfl rfl rfl rfl rfl rfl trivial (oj_run TT rfl ?_)
  refine oj_add rfl rfl rfl rfl rfl rfl (by omega) (oj_run TT rfl ?_)
  refine oj_stA 0 (A':=[opK gs ao1 (S.length+1) cap1 (m+1),⟨ao1,S.length+1,cap1,169,6,opXs (S++[x])⟩]) TT rfl rfl rfl rfl rfl rfl rfl rfl rfl rfl (by show 1<1*2;omega) trivial rfl rfl (oj_run TT rfl ?_)
  (repeat refine oj_nil ?_)
  refine nj_fend TT rfl fun β w' _ _=>?_
  refine ⟨rfl,ao1,cap1,hcap1,?_⟩
  unfold opE
  rw [List.length_append]
  rfl
set_option maxRecDepth 100000 in
set_option maxHeartbeats 1000000 in
theorem opPop_c (σ:Snap) (gs:Nat) (ao:Option Addr) (cap:Nat) (m:Int) (S:List OI) (hl:S.length<=1000000) (hSc:S.length<=cap) (f:FuncId) (caps:List PT) (hcap:LtAll (caps.map ptSV))
    (hcall:∀ args w,(callFunc f args).run Tryz.prog w=.ok (.enter f args) w) (q:OI->Bool) (hq:∀ x∈S,PlainS Tryz.prog f (.agg (opCells x)::caps.map ptSV) σ (fun v=>v=.bool (q x))) (hlt:(SV.a (.fn (.func f) caps)).lt 0) :
    FnS Tryz.prog 159 [.a (.v (.pointer (some ⟨gs,0,none⟩))),.a (.fn (.func f) caps)] σ [opK gs ao S.length cap m,opE ao cap S]
      (fun v _ A'=>v=.tuple #[]/\A'=[opK gs ao (popI q S).length cap m,opE ao cap (popI q S)]):=by
  refine enter_f Tryz.func159 rfl rfl ⟨trivial,hlt,trivial⟩ fun w=>?_
  (repeat refine cj_block ?_)
  refine cj_loop (fun (_:List OI)=>σ) (fun _=>[(0,.a (.v (.pointer (some ⟨gs,0,none⟩)))),(1,.a (.fn (.func f) caps))]) (fun _=>[]) (fun s=>[opK gs ao s.length cap m,opE ao cap s]) 0
    (fun s=>popI q s=popI q S/\s.length<=S.length/\∀ x∈s,x∈S) (fun s=>s.length) S ⟨rfl,Nat.le_refl _,fun _ h=>h⟩ rfl (by (repeat first | exact trivial | refine ⟨rfl,?_⟩)) (by (repeat first | exact trivial | refine ⟨rfl,?_⟩)) rfl ⟨trivial,hlt,trivial⟩ trivial fun s ⟨hp,hsl,hm⟩=>?_
  (repeat refine cj_seq ?_)
  refine cj_draw [(0,.pure),(1,.pure),(2,.pure),(3,.quiet),(4,.pure),(5,.pure),(6,.pure),(7,.pure),(8,.pure),(9,.pure),(10,.pure),(11,.quiet),(12,.pure),(13,.pure),(14,.pure),(15,.quiet),(16,.pure),(17,.pure),(18,.pure),(19,.quiet),(20,.keep),(21,.pure)] mixed (by kernel_rfl) (oj_run TT rfl ?_)
  refine oj_ldA 0 (c:=.v (.slice ao s.length cap)) TT rfl rfl rfl rfl rfl rfl rfl rfl rfl rfl rfl trivial (oj_run TT rfl ?_)
  refine oj_split 10 rfl (fun h=>?_) (fun h=>?_)
  rotate_left
  · have h0:s=[]:=by
      have h:decide (0<(s.length:Int))=false:=h
      have:=of_decide_eq_false h
      exact List.eq_nil_of_length_eq_zero (by omega)
    subst h0
    refine oj_run TT rfl ?_
    (repeat (first | refine oj_then ?_ | refine cj_if_f rfl ?_ | refine cj_exit ?_ | refine nj_then_exit ?_ | refine nj_block_out ?_))
    refine nj_fend TT rfl fun β w' _ _=>?_
    exact ⟨rfl,by rw [<-hp];rfl⟩
  have h:decide (0<(s.length:Int))=true:=h
  have hne:s≠[]:=by
    intro h0
    subst h0
    cases h
  obtain ⟨s0,x,rfl⟩:∃ s0 x,s=s0++[x]:=⟨s.dropLast,s.getLast hne,(List.dropLast_concat_getLast hne).symm⟩
  have hlen:(s0++[x]).length=s0.length+1:=by simp
  have htop:(s0++[x])[s0.length]?=some x:=by simp
  have hqx:=hq x (hm x (by simp))
  refine oj_run TT rfl ?_
  refine oj_ldA 0 (c:=.v (.slice ao (s0++[x]).length cap)) TT rfl rfl rfl rfl rfl rfl rfl rfl rfl rfl rfl trivial (oj_run TT rfl ?_)
  refine oj_ldA 0 (c:=.v (.slice ao (s0++[x]).length cap)) TT rfl rfl rfl rfl rfl rfl rfl rfl rfl rfl rfl trivial (oj_run TT rfl ?_)
  refine oj_minus rfl rfl rfl rfl rfl rfl (by omega) (oj_run TT rfl ?_)
  refine oj_arrAt 1 (E:=opE ao cap (s0++[x])) rfl (by show 0<(s0++[x]).length;omega) fun g1 hg1=>?_
  have hg1:ao=some ⟨g1,0,none⟩:=hg1
  subst hg1
  refine oj_indexAddr TT rfl rfl rfl rfl rfl rfl rfl rfl rfl ⟨by omega,by omega⟩ (oj_run TT rfl ?_)
  refine oj_ldAs 1 (off:=s0.length*6) TT (opCells x) rfl rfl rfl rfl rfl ?_ rfl rfl rfl rfl rfl ?_ (opCells_lt _ _) (oj_run TT rfl ?_)
  · show some (SV.a (AT.v (.pointer (some (Addr.add ⟨g1,0,none⟩ (((((s0++[x]).length:Nat):Int) - 1).toNat*6))))))=_
    rw [add0,show ((((s0++[x]).length:Nat):Int) - 1).toNat=s0.length by rw [hlen];omega]
  · intro j c hj
    exact opXs_get htop hj
  refine oj_callP (ys:=.agg (opCells x)::caps.map ptSV) rfl rfl rfl rfl rfl hcall ⟨opCells_lt 0 x,hcap⟩ hqx fun v hv=>⟨.a (.b (q x)),trivial,hv.symm,?_⟩
  refine oj_run TT rfl ?_
  (repeat refine oj_then ?_)
  refine cj_if rfl (fun h=>?_) (fun h=>?_)
  rotate_left
  · have h:q x=false:=h
    rw [popI_last,h,if_neg (by decide)] at hp
    (repeat (first | refine cj_exit ?_ | refine nj_then_exit ?_ | refine nj_block_out ?_))
    refine nj_fend TT rfl fun β w' _ _=>?_
    exact ⟨rfl,by rw [<-hp]⟩
  have h:q x=true:=h
  rw [popI_last,h,if_pos rfl] at hp
  (repeat (first | refine cj_skip ?_ | refine cj_block ?_ | refine nj_then ?_))
  refine cj_draw [(0,.pure),(1,.pure),(2,.pure),(3,.pure),(4,.quiet),(5,.pure),(6,.pure),(7,.pure),(8,.quiet),(9,.pure),(10,.pure),(11,.pure),(12,.pure),(13,.pure),(14,.sink)] mixed (by kernel_rfl) (oj_run TT rfl ?_)
  refine oj_ldA 0 (c:=.v (.slice (some ⟨g1,0,none⟩) (s0++[x]).length cap)) TT rfl rfl rfl rfl rfl rfl rfl rfl rfl rfl rfl trivial (oj_run TT rfl ?_)
  refine oj_ldA 0 (c:=.v (.slice (some ⟨g1,0,none⟩) (s0++[x]).length cap)) TT rfl rfl rfl rfl rfl rfl rfl rfl rfl rfl rfl trivial (oj_run TT rfl ?_)
  refine oj_minus rfl rfl rfl rfl rfl rfl (by omega) (oj_run TT rfl ?_)
  refine oj_slice_to TT s0.length rfl rfl rfl rfl rfl rfl rfl rfl rfl (by rw [hlen];omega) (by omega) (by omega) (oj_run TT rfl ?_)
  refine oj_stA 0 (A':=[opK gs (some ⟨g1,0,none⟩) s0.length cap m,opE (some ⟨g1,0,none⟩) cap (s0++[x])]) TT rfl rfl rfl rfl rfl rfl rfl rfl rfl rfl (by show 0<1*2;omega) trivial rfl rfl (oj_run TT rfl ?_)
  (repeat (first | refine oj_nil ?_ | refine nj_block ?_))
  refine nj_cutArr 1 s0.length (A':=[opK gs (some ⟨g1,0,none⟩) s0.length cap m,opE (some ⟨g1,0,none⟩) cap s0]) rfl (by show s0.length<=(s0++[x]).length;omega) ?_ ?_
  · rw [opE_cut _ _ _ _ (by omega),List.take_left]
    rfl
  refine nj_again s0 ⟨hp,by omega,fun y hy=>hm y (List.mem_append_left _ hy)⟩ (by omega) rfl (by (repeat first | exact trivial | refine ⟨rfl,?_⟩)) (by (repeat first | exact trivial | refine ⟨rfl,?_⟩)) rfl ⟨trivial,hlt,trivial⟩ trivial
end Go.Sy
/- Regions whose allocations and calls come in several orders, calls that are handed arrays among them. No program in sight. -/
namespace Go.Sy
section
variable {cf:Cf} {σ σb:Snap} {hp hpb:HP} {A:List AE} {β:Nat->Addr} {w0 x:World}
theorem StW.base (h0:StW cf σb hpb [] β w0) (hle:σb.le σ) (hs:subH hpb hp) (h:StW cf σ hp A β x):StW cf σb hpb [] β x:=by
  refine ⟨h.os,h.tape,h.output,h.size,h.fr,fun b o hb=>h.sealed b o (hle b o hb),h0.le,h0.grow,fun i e cs hi=>?_,h0.ro,fun i j e1 e2 l1 l2 hi hj heq=>h.inj i j e1 e2 l1 l2 (hs _ _ hi) (hs _ _ hj) heq,
    fun i E hi=>(by simp at hi),fun i j E F hi=>(by simp at hi),fun i j E e cs hi=>(by simp at hi)⟩
  obtain ⟨q1,q2,q3,q4⟩:=h.loc i e cs (hs _ _ hi)
  exact ⟨q1,q2,Snap.none_of_le hle q3,q4⟩
theorem StW.reβ {β':Nat->Addr} {nb:Nat} (hb:Bd [] hpb nb) (hβ:∀ i,i<nb->β' i=β i) (h:StW cf σb hpb [] β x):StW cf σb hpb [] β' x:=by
  refine ⟨h.os,h.tape,h.output,h.size,h.fr,h.sealed,h.le,h.grow,fun i e cs hi=>?_,fun i cs hi j c hc=>?_,fun i j e1 e2 l1 l2 hi hj heq=>?_,fun i E hi=>(by simp at hi),fun i j E F hi=>(by simp at hi),fun i j E e cs hi=>(by simp at hi)⟩
  · obtain ⟨hlt,hl⟩:=hb.hp i _ cs hi
    have:=h.loc i e cs hi
    rw [hβ i hlt,AT.denL_congr hβ hl]
    exact this
  · obtain ⟨hlt,hl⟩:=hb.hp i _ cs hi
    have:=h.ro i cs hi j c hc
    rw [hβ i hlt,AT.den_congr hβ (hl c (List.mem_of_getElem? hc))]
    exact this
  · have h1:=(hb.hp i _ l1 hi).1
    have h2:=(hb.hp j _ l2 hj).1
    exact h.inj i j e1 e2 l1 l2 hi hj (by rw [<-hβ i h1,<-hβ j h2];exact heq)
end
structure GB (cf:Cf) (ops:Array Oper) (U bef:List Nat) (σb:Snap) (hpb:HP) (nb n:Nat) (listed:Array Bool) (Q:Exit->Act->World->Prop) (σ:Snap) (env:Env) (hp:HP) (A:List AE) (nh:Nat):Prop where
  run:Region.noSelect ops=true->Bd env hp nh->Bd [] hpb nb->nb<=nh->σb.le σ->subH hpb hp->∀ a β,StA cf env β a->(∃ w,StW cf σ hp A β w)->(∃ w,StW cf σb hpb [] β w)->Closed ops listed ->
    wpAnyC cf.P ops U Q n listed a (fun w=>StW cf σb hpb [] β w) (fun w=>StW cf σ hp A β w)
structure GBK (cf:Cf) (ops:Array Oper) (U bef:List Nat) (σb:Snap) (hpb:HP) (nb n:Nat) (listed:Array Bool) (j:Nat) (Q:Exit->Act->World->Prop) (σ:Snap) (env:Env) (hp:HP) (A:List AE) (nh:Nat):Prop where
  run:Region.noSelect ops=true->Bd env hp nh->Bd [] hpb nb->nb<=nh->σb.le σ->subH hpb hp->∀ a β,StA cf env β a->(∃ w,StW cf σ hp A β w)->(∃ w,StW cf σb hpb [] β w)->Closed ops listed->j∈Region.ready .any ops listed ->
    stepC cf.P ops U Q j (wpAnyC cf.P ops U Q n (listed.setIfInBounds j true)) a (fun w=>StW cf σb hpb [] β w) (fun w=>StW cf σ hp A β w)
section
variable {cf:Cf} {Q:Exit->Act->World->Prop} {σ σb:Snap} {env:Env} {hp hpb:HP} {A:List AE} {nh nb:Nat} {ops:Array Oper} {U bef:List Nat} {n:Nat} {listed:Array Bool}
theorem cj_drawB {id:Nat} (m:Nat) (U:List Nat) (hpb:HP) (hm:cf.P.follows .mixedOrders=true) (hs:Region.noSelect ops=true) (hn:ops.size=m) (hsub:subH hpb hp)
    (h:GB cf ops U [] σ hpb nh m (Array.replicate m false) Q σ env hp A nh) (hd:okRd cf.rd ops=true:=by rfl):CJ cf (.region id ops true) Q σ env hp A nh:=by
  subst hn
  refine ⟨fun hb a β w ha hw=>wpIn_region_any hm ?_⟩
  have hc:Closed ops (Array.replicate ops.size false):=⟨by simp,fun j oj _ hl=>by
    exfalso
    rcases Nat.lt_or_ge j ops.size with h | h
    · simp [h] at hl
    · simp [h] at hl⟩
  have hbb:Bd [] hpb nh:=⟨fun i x h=>(by cases h),fun i k cs hi=>hb.hp i k cs (hsub _ _ hi)⟩
  have hb0:StW cf σ hpb [] β w:=by
    have:=hw.dropA
    exact this.sub hsub
  exact wpAnyIn_of_C (okRd_mem hd) _ _ _ _ _ _ hw.drew (h.run hs hb hbb (Nat.le_refl _) (Snap.le_refl _) hsub a β ha ⟨_,hw⟩ ⟨_,hb0⟩ hc)
theorem gb_val {i d:Nat} {o:Oper} {T:List (Nat×TI)} (hT:TTok cf.P T) {x:SV} (hi:ops[i]?=some o) (hr:(Region.ready .any ops listed).contains i=true) (hf:Region.free .any ops listed i=true)
    (hk:(U.contains i&&isLoad o.op)=false) (hd:o.dst=some d) (hg:guardVal (slotOf ops o) env=some true) (hN:Nat.blt d cf.N=true) (h:stepOp T o.op env hpb nh=some (.val x))
    (k:GB cf ops U (bef++[i]) σb hpb nb n (listed.setIfInBounds i true) Q σ ((d,x)::env) hp A nh):GB cf ops U bef σb hpb nb (n+1) listed Q σ env hp A nh:=by
  refine ⟨fun hs hb hbb hnb hle hsub a β ha hex hex0 hc=>?_⟩
  obtain ⟨w0,hw0⟩:=id hex0
  have hN':d<cf.N:=by simpa [Nat.blt_eq] using hN
  have hb':Bd env hpb nh:=hb.sub (fun i x h=>h) hsub
  have hx:x.lt nh:=(step_ok (o:=o) hT ha hb' h).1
  have hr':i∈Region.ready .any ops listed:=by simpa using hr
  have hw:Region.wanted o (yielded ops a.tmps)=true:=by rw [<-wantedS_slotOf];exact guardVal_ok ha hg
  have hrest:=k.run hs (hb.put hx d) hbb hnb hle hsub _ β (ha.put hN' x) hex hex0 (hc.set hr')
  refine wpAnyC_first hi (Region.noSelect_spec hs) n listed a _ _ hc (fun y hy=>hw0.base hle hsub hy) (Region.free_spec hi hf) hr' ⟨.inl ⟨hw,fun w hE0=>.inl ?_⟩,fun hu=>.inl ⟨hw,fun w _=>.inl ?_⟩⟩ (by rw [hd];exact hrest)
  · exact (step_ok (o:=o) hT ha hb' h).2 w fun _=>⟨σb,[],hE0⟩
  · refine (step_ok (o:=o) hT ha hb' h).2 w fun hl=>?_
    rw [hl,Bool.and_true] at hk
    rw [List.contains_iff_mem.2 hu] at hk
    cases hk
theorem gb_fork (js:List Nat) (hr:(Region.ready .any ops listed == js)=true) (hne:js.isEmpty=false) (k:∀ j,j∈js->GBK cf ops U bef σb hpb nb n listed j Q σ env hp A nh):GB cf ops U bef σb hpb nb (n+1) listed Q σ env hp A nh:=by
  refine ⟨fun hs hb hbb hnb hle hsub a β ha hex hex0 hc=>?_⟩
  have hr':=eq_of_beq hr
  refine ⟨fun h0=>?_,fun j hj=>(k j (by rw [<-hr'];exact hj)).run hs hb hbb hnb hle hsub a β ha hex hex0 hc hj⟩
  rw [hr'] at h0
  subst h0
  cases hne
theorem gb_one {i:Nat} (hr:(Region.ready .any ops listed == [i])=true) (k:GBK cf ops U bef σb hpb nb n listed i Q σ env hp A nh):GB cf ops U bef σb hpb nb (n+1) listed Q σ env hp A nh :=
  gb_fork [i] hr rfl fun j hj=>by rw [List.mem_singleton] at hj;subst hj;exact k
theorem gb_two {i j:Nat} (hr:(Region.ready .any ops listed == [i,j])=true) (ki:GBK cf ops U bef σb hpb nb n listed i Q σ env hp A nh) (kj:GBK cf ops U bef σb hpb nb n listed j Q σ env hp A nh):GB cf ops U bef σb hpb nb (n+1) listed Q σ env hp A nh :=
  gb_fork [i,j] hr rfl fun m hm=>by
    simp only [List.mem_cons,List.not_mem_nil,or_false] at hm
    rcases hm with rfl | rfl
    · exact ki
    · exact kj
theorem gb_three {i j l:Nat} (hr:(Region.ready .any ops listed == [i,j,l])=true) (ki:GBK cf ops U bef σb hpb nb n listed i Q σ env hp A nh) (kj:GBK cf ops U bef σb hpb nb n listed j Q σ env hp A nh) (kl:GBK cf ops U bef σb hpb nb n listed l Q σ env hp A nh) :
    GB cf ops U bef σb hpb nb (n+1) listed Q σ env hp A nh :=
  gb_fork [i,j,l] hr rfl fun m hm=>by
    simp only [List.mem_cons,List.not_mem_nil,or_false] at hm
    rcases hm with rfl | rfl | rfl
    · exact ki
    · exact kj
    · exact kl
theorem gb_callF {j d:Nat} {o:Oper} {f:FuncId} {ys:List SV} {Φ:Value->Snap->List AE->Prop} (is:List Nat) {A0 Ar:List AE} (hA:reA is A=A0++Ar) (hn:nodupB is=true)
    (hj:ops[j]?=some o) (hc:callee env o.op=some (f,ys)) (hd:o.dst=some d) (hg:guardVal (slotOf ops o) env=some true)
    (hN:Nat.blt d cf.N=true) (hcall:∀ args w,(callFunc f args).run cf.P w=.ok (.enter f args) w) (hlt:LtAll ys) (hC:FnS cf.P f ys σ A0 Φ)
    (k:∀ v σ' A',σ.le σ'->Φ v σ' A'->∃ y:SV,y.lt 0/\y.den β0=v/\GB cf ops U (bef++[j]) σb hpb nb n (listed.setIfInBounds j true) Q σ' ((d,y)::env) hp (A'++Ar) nh):GBK cf ops U bef σb hpb nb n listed j Q σ env hp A nh:=by
  refine ⟨fun hs hb hbb hnb hle hsub a β ha hex hex0 hcl hr=>?_⟩
  obtain ⟨w0,hw0⟩:=id hex0
  have hN':d<cf.N:=by simpa [Nat.blt_eq] using hN
  have den0:∀ {y:SV},y.lt 0->y.den β=y.den β0:=fun hy=>SV.den_congr (n:=0) (fun i hi=>by omega) hy
  have hargs:(ys.map (SV.den β)).toArray=(ys.map (SV.den β0)).toArray:=by
    rw [List.map_congr_left fun y hy=>den0 (hlt.of y hy)]
  have hwant:Region.wanted o (yielded ops a.tmps)=true:=by rw [<-wantedS_slotOf];exact guardVal_ok ha hg
  unfold stepC
  simp only [hj]
  rw [if_pos hwant]
  intro w hw
  have hw2:StW cf σ hp (A0++Ar) β w:=by rw [<-hA];exact hw.reA hn
  unfold Oper.wq
  rw [callee_ok ha hc hcall]
  simp only [Oper.uponIn]
  rw [hargs]
  refine ⟨fun h=>(by cases h),CallsIn.mono (callsIn_FR.2 (hC w hw2.handIn)) fun e w' ⟨v,σ',he,h1,h2,h3,A',h4,h5⟩=>?_⟩
  subst he
  obtain ⟨y,hy,hyv,hk⟩:=k v σ' A' h2.le h4
  have hw':=hw2.through h5
  have hle':=Snap.le_trans hle h2.le
  refine ⟨_,_,hw',fun x hx=>hw0.base hle' hsub hx,.inl fun _ h=>h,?_⟩
  have:=hk.run hs (hb.put (SV.lt_mono (Nat.zero_le _) hy) d) hbb hnb hle' hsub (a.put (some d) (y.den β)) β (ha.put hN' y) ⟨_,hw'⟩ ⟨w0,hw0⟩ (hcl.set hr)
  rw [hd,<-hyv,<-den0 hy]
  exact this
theorem gb_new {j d:Nat} {o:Oper} {T:List (Nat×TI)} (hT:TTok cf.P T) {e:TypeId} {cs:List AT} {x:AT} (hj:ops[j]?=some o) (h:stepOp T o.op env hp nh=some (.new e cs x)) (hd:o.dst=some d) (hg:guardVal (slotOf ops o) env=some true)
    (hN:Nat.blt d cf.N=true) (k:GB cf ops U (bef++[j]) σb hpb nb n (listed.setIfInBounds j true) Q σ ((d,.a x)::env) ((nh,.loc e,cs)::hp) A (nh+1)):GBK cf ops U bef σb hpb nb n listed j Q σ env hp A nh:=by
  refine ⟨fun hs hb hbb hnb hle hsub a β ha hex hex0 hcl hr=>?_⟩
  obtain ⟨w0,hw0⟩:=id hex0
  have hN':d<cf.N:=by simpa [Nat.blt_eq] using hN
  have hwant:Region.wanted o (yielded ops a.tmps)=true:=by rw [<-wantedS_slotOf];exact guardVal_ok ha hg
  obtain ⟨hcs,hx,hrun⟩:=step_ok (o:=o) hT ha hb h
  have hxl:(SV.a x).lt (nh+1):=by
    rcases hx with rfl | ⟨n,rfl⟩<;>exact Nat.lt_succ_self nh
  unfold stepC
  simp only [hj]
  rw [if_pos hwant]
  intro w hw
  unfold Oper.wq
  rw [hrun w]
  have hw':=hw.alloc (e:=e) hb hcs
  have hβ:=upd_old β nh w
  have hβb:∀ i,i<nb->upd β nh w i=β i:=fun i hi=>hβ i (by omega)
  have hβb':∀ i,i<nb->β i=upd β nh w i:=fun i hi=>(hβb i hi).symm
  have hsub':subH hpb ((nh,HK.loc e,cs)::hp):=by
    intro i y hy
    have hlt:=(hb.hp i y.1 y.2 (hsub i y hy)).1
    rw [HP.get_cons,if_neg (by omega)]
    exact hsub i y hy
  have hw0':=hw0.reβ hbb hβb
  refine ⟨_,_,hw',fun x hx=>hw0'.base hle hsub' hx,.inl fun _ h=>h.reβ hbb hβb',?_⟩
  rw [hd]
  exact k.run hs ((hb.mono (Nat.le_succ nh)).row (Nat.lt_succ_self nh) (fun c hc=>AT.lt_mono (Nat.le_succ nh) (hcs c hc)) |>.put hxl d) hbb (by omega) hle hsub' _ (upd β nh w) ((ha.congr hb hβ).put hN' (.a x)) ⟨_,hw'⟩ ⟨_,hw0'⟩ (hcl.set hr)
theorem gb_order (l:List (Nat×Tag)) (hl:(l.all fun p=>decide (p.1<ops.size))=true) (hq:noQuiet (itemsOf ops l)=true) (ho:orderFrom ops U bef l listed=true) (h:OJ cf (itemsOf ops l) Q σ env hp A nh) :
    GB cf ops U bef σb hpb nb l.length listed Q σ env hp A nh:=by
  refine ⟨fun hs hb hbb hnb hle hsub a β ha hex hex0 hc=>?_⟩
  obtain ⟨w0,hw0⟩:=hex0
  have:=run_wider (fun x hx=>hw0.base hle hsub hx) _ _ a hq (h.run hb a β ha hex)
  exact run_order hs l bef listed a _ _ hc (fun x hx=>hw0.base hle hsub hx) (fun p hp=>by simpa using List.all_eq_true.1 hl p hp) ho this
theorem wpAnyC_by_world {P:Program}:∀ (n:Nat) (listed:Array Bool) (a:Act) (E S:World->Prop),(∃ w,S w)->(∀ w,S w->∃ S':World->Prop,S' w/\wpAnyC P ops U Q n listed a E S')->wpAnyC P ops U Q n listed a E S
  | 0,listed,a,E,S,⟨w0,h0⟩,h=>by
    obtain ⟨S0,h1,h2⟩:=h w0 h0
    refine ⟨h2.1,fun w hw=>?_⟩
    obtain ⟨S',h3,h4⟩:=h w hw
    exact h4.2 w h3
  | n+1,listed,a,E,S,hex,h=>by
    refine ⟨fun hr w hw=>?_,fun j hj=>?_⟩
    · obtain ⟨S',h3,h4⟩:=h w hw
      exact h4.1 hr w h3
    · unfold stepC
      cases hop:ops[j]? with
      | none =>
        refine wpAnyC_by_world n _ a E S hex fun w hw=>?_
        obtain ⟨S',h3,h4⟩:=h w hw
        have:=h4.2 j hj
        unfold stepC at this
        rw [hop] at this
        exact ⟨S',h3,this⟩
      | some o =>
        dsimp only
        by_cases hwant:Region.wanted o (yielded ops a.tmps)=true
        · rw [if_pos hwant]
          intro w hw
          obtain ⟨S',h3,h4⟩:=h w hw
          have:=h4.2 j hj
          unfold stepC at this
          rw [hop] at this
          dsimp only at this
          rw [if_pos hwant] at this
          exact this w h3
        · rw [if_neg hwant]
          refine wpAnyC_by_world n _ _ E S hex fun w hw=>?_
          obtain ⟨S',h3,h4⟩:=h w hw
          have:=h4.2 j hj
          unfold stepC at this
          rw [hop] at this
          dsimp only at this
          rw [if_neg hwant] at this
          exact ⟨S',h3,this⟩
theorem gb_seal (i:Nat) {E:AE} {A':List AE} (hi:A[i]?=some E) (hA:A.eraseIdx i=A') (h:∀ σ',σ.le σ'->ArrSealed σ' E->GB cf ops U bef σb hpb nb n listed Q σ' env hp A' nh):GB cf ops U bef σb hpb nb n listed Q σ env hp A nh:=by
  refine ⟨fun hs hb hbb hnb hle hsub a β ha hex hex0 hc=>wpAnyC_by_world _ _ _ _ _ hex fun w hw=>?_⟩
  obtain ⟨σ',h1,h2,h3⟩:=hw.sealArr hi
  rw [hA] at h3
  exact ⟨_,h3,(h σ' h1 h2).run hs hb hbb hnb (Snap.le_trans hle h1) hsub a β ha ⟨_,h3⟩ hex0 hc⟩
theorem gb_own (h:Nat) {e:TypeId} {cs:List AT} (n' sz:Nat) (hrow:hp.get h=some (.loc e,cs)) (hcs:∀ c∈cs,c.lt 0) (hlen:cs.length=n'*sz) (hn:n'<=9223372036854775807) (hsb:hpb.get h=none)
    (k:∀ g,GB cf ops U bef σb hpb nb n listed Q σ (concE h g env) (HP.del h hp) (A++[⟨some ⟨g,0,none⟩,n',n',e,sz,cs.map AT.val⟩]) nh):GB cf ops U bef σb hpb nb n listed Q σ env hp A nh:=by
  refine ⟨fun hs hb hbb hnb hle hsub a β ha hex hex0 hc=>?_⟩
  obtain ⟨w,hw⟩:=hex
  obtain ⟨g,hg⟩:∃ g,β h=⟨g,0,none⟩:=by
    obtain ⟨q1,-,-,-⟩:=hw.loc h e cs hrow
    exact ⟨_,q1⟩
  have hsub':subH hpb (HP.del h hp):=by
    intro i y hy
    rw [HP.del_get]
    split
    · rename_i he
      subst he
      rw [hsb] at hy
      cases hy
    · exact hsub i y hy
  have e1:(fun w=>StW cf σ hp A β w)=fun w=>StW cf σ (HP.del h hp) (A++[⟨some ⟨g,0,none⟩,n',n',e,sz,cs.map AT.val⟩]) β w:=by
    funext w
    exact propext (StW.own hrow hcs hg hlen hn)
  have:=(k g).run hs hb.conc hbb hnb hle hsub' a β (ha.conc hg) ⟨w,(StW.own hrow hcs hg hlen hn).1 hw⟩ hex0 hc
  rw [e1]
  exact this
end
end Go.Sy
