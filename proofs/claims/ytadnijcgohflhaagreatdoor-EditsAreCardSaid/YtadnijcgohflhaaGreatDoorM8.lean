/- Parts of the proof of CEditsAre: F42, Ll, F43, F44, F45, F46, F47, F48. No conditions. -/
import Derived.Test.YtadnijcgohflhaaGreatDoorM7
namespace Go.Sy
open Go.Proofs
def placeE (L:List GRec) (i:Int):Int:=if soundG L=false then 2 else if i<0\/(L.length:Int)<=i then 1 else 0
set_option maxRecDepth 100000 in
set_option maxHeartbeats 1000000 in
theorem place12_c (σ:Snap) (L:List GRec) (R:RecsOk L) (ao:Option Addr) (cap:Nat) (H:SlAt σ ao L.length cap 11 (recRows L)) (i:Int) :
    PlainS Tryz.prog 58 [.a (.v (.slice ao L.length cap)),.a (.v (.int .i64 i))] σ (fun v=>v=.int .i64 (placeE L i)):=by
  have hpe:placeE L i=if soundG L=false then 2 else if i<0\/(L.length:Int)<=i then 1 else 0:=rfl
  refine enter_p Tryz.func58 rfl rfl (by (repeat' (first | exact trivial | constructor))) fun w=>?_
  (repeat (first | refine cj_seq ?_ | refine cjr TT rfl ?_ | refine oj_then ?_ | refine cj_block ?_))
  refine oj_callP rfl rfl rfl rfl rfl Tryz.call105 (by (repeat' (first | exact trivial | constructor))) (Sound_c σ L R.len R.fit R.bw ao cap H) fun v hv=>⟨.a (.b (soundG L)),trivial,hv.symm,?_⟩
  refine oj_run TT rfl ?_
  (repeat refine oj_then ?_)
  refine cj_if rfl (fun h=>?_) (fun h=>?_)
  · have h:soundG L=false:=by simpa using h
    rw [if_pos h] at hpe
    (repeat (first | refine cj_seq ?_ | refine cjr TT rfl ?_ | refine oj_then ?_ | refine cj_ret ?_ | refine nj_then_ret ?_ | refine nj_block_ret ?_))
    refine nj_ret TT rfl fun β w' _ _=>?_
    rw [hpe]
    rfl
  have h:soundG L=true:=by simpa using h
  rw [if_neg (by simp [h])] at hpe
  (repeat (first | refine cj_seq ?_ | refine cjr TT rfl ?_))
  refine oj_split 12 rfl (fun h1=>?_) (fun h1=>?_)
  · have h1:decide (i<0)=true:=h1
    rw [if_pos (.inl (of_decide_eq_true h1))] at hpe
    refine oj_run TT rfl ?_
    (repeat (first | refine cj_seq ?_ | refine cjr TT rfl ?_ | refine oj_then ?_ | refine cj_if_t rfl ?_ | refine cj_ret ?_ | refine nj_then_ret ?_ | refine nj_block_ret ?_))
    refine nj_ret TT rfl fun β w' _ _=>?_
    rw [hpe]
    rfl
  have h1:decide (i<0)=false:=h1
  have h1:=of_decide_eq_false h1
  refine oj_run TT rfl ?_
  (repeat refine oj_then ?_)
  refine cj_if rfl (fun h2=>?_) (fun h2=>?_)
  · rw [if_pos (.inr (of_decide_eq_true h2))] at hpe
    (repeat (first | refine cj_seq ?_ | refine cjr TT rfl ?_ | refine oj_then ?_ | refine cj_ret ?_ | refine nj_then_ret ?_ | refine nj_block_ret ?_))
    refine nj_ret TT rfl fun β w' _ _=>?_
    rw [hpe]
    rfl
  · have h2:=of_decide_eq_false h2
    rw [if_neg (by omega)] at hpe
    (repeat (first | refine cj_seq ?_ | refine cjr TT rfl ?_ | refine oj_then ?_ | refine cj_skip ?_ | refine cj_ret ?_ | refine nj_then ?_ | refine nj_block ?_))
    refine nj_ret TT rfl fun β w' _ _=>?_
    rw [hpe]
    rfl
structure GGap where
  at_:Int
  lo:Int
  hi:Int
def gapCells (g:GGap):List AT:=[.v (.int .i64 g.at_),.v (.int .i64 g.lo),.v (.int .i64 g.hi)]
def gap0:GGap:=⟨0,0,0⟩
def gapK (L:List GRec) (m:List Nat) (i k:Nat):GGap :=
  ⟨if 0<k then lastG L (m.getD (k - 1) 0)+1 else i+1,if 0<k then enAt L (m.getD (k - 1) 0) else stAt L i,if k<m.length then stAt L (m.getD k 0) else enAt L i⟩
def gapG (L:List GRec) (i:Nat) (k:Int):Option GGap:=if k<0\/((kidsG L i).length:Int)<k then none else some (gapK L (kidsG L i) i k.toNat)
def ord102_6:List (Nat×Tag):=[(0,.pure),(1,.pure),(2,.pure),(3,.pure),(4,.pure),(5,.quiet),(8,.pure),(9,.pure),(10,.pure),(11,.pure),(12,.pure),(13,.quiet),(14,.pure),(15,.pure),(16,.quiet),(6,.keep),(7,.pure),(17,.pure),(18,.keep),(19,.pure),(20,.sink)]
theorem getD_get {α:Type} {l:List α} {i:Nat} {x d:α} (h:l[i]?=some x):l.getD i d=x:=by rw [List.getD_eq_getElem?_getD,h];rfl
theorem st_at {L:List GRec} {i:Nat} {r:GRec} (h:L[i]?=some r):stAt L i=r.st:=by unfold stAt;rw [h];rfl
theorem en_at {L:List GRec} {i:Nat} {r:GRec} (h:L[i]?=some r):enAt L i=r.en:=by unfold enAt;rw [h];rfl
theorem lastG_bd (L:List GRec) (i:Nat) (hi:i<L.length):(i:Int)<=lastG L i/\lastG L i<L.length:=by
  unfold lastG runK
  have:=runL_le ((L[i]?.map GRec.en).getD 0) (L.drop (i+1))
  rw [List.length_drop] at this
  omega
set_option maxRecDepth 100000 in
set_option maxHeartbeats 1000000 in
theorem find_c (σ:Snap) (L:List GRec) (R:RecsOk L) (ao:Option Addr) (cap:Nat) (H:SlAt σ ao L.length cap 11 (recRows L)) (i:Nat) (hi:i<L.length) (hs:soundG L=true) (hL:L.length<=100000) (hk:∀ j∈kidsG L i,j<L.length) (hkl:(kidsG L i).length<=100000) (k:Int) :
    PureS Tryz.prog 59 [.a (.v (.slice ao L.length cap)),.a (.v (.int .i64 i)),.a (.v (.int .i64 k))] σ (fun v _=>v=.tuple #[(SV.agg (gapCells ((gapG L i k).getD gap0))).den β0,.bool (gapG L i k).isSome]):=by
  have hgp:gapG L i k=if k<0\/((kidsG L i).length:Int)<k then none else some (gapK L (kidsG L i) i k.toNat):=rfl
  have hLi:L[i]?=some L[i]:=List.getElem?_eq_getElem hi
  have hrow:=recRows_get hLi
  have hsti:=st_at hLi
  have heni:=en_at hLi
  generalize L[i]=r at *
  refine enter_s Tryz.func59 rfl rfl (by (repeat' (first | exact trivial | constructor))) fun w=>?_
  (repeat (first | refine cj_seq ?_ | refine cjr TT rfl ?_ | refine oj_then ?_))
  refine oj_callS rfl rfl rfl rfl rfl Tryz.call137 (by (repeat' (first | exact trivial | constructor))) (Kids_c σ L R ao cap H i hi hs hL) fun v σ1 hle1 ⟨oo,oc,hv,HK⟩=>⟨.a (.v (.slice oo (kidsG L i).length oc)),trivial,hv.symm,?_⟩
  have H:=H.mono hle1
  refine oj_run TT rfl ?_
  (repeat (first | refine cj_seq ?_ | refine cjr TT rfl ?_ | refine oj_then ?_))
  refine oj_split 15 rfl (fun h1=>?_) (fun h1=>?_)
  · have h1:decide (k<0)=true:=h1
    rw [if_pos (.inl (of_decide_eq_true h1))] at hgp
    refine oj_run TT rfl ?_
    (repeat (first | refine cj_seq ?_ | refine cjr TT rfl ?_ | refine oj_then ?_ | refine cj_if_t rfl ?_ | refine cj_ret ?_ | refine nj_then_ret ?_))
    refine nj_ret TT rfl fun β w' _ _=>?_
    rw [hgp]
    rfl
  have h1:decide (k<0)=false:=h1
  have h1:=of_decide_eq_false h1
  refine oj_run TT rfl ?_
  (repeat refine oj_then ?_)
  refine cj_if rfl (fun h2=>?_) (fun h2=>?_)
  · rw [if_pos (.inr (of_decide_eq_true h2))] at hgp
    (repeat (first | refine cj_seq ?_ | refine cjr TT rfl ?_ | refine oj_then ?_ | refine cj_ret ?_ | refine nj_then_ret ?_))
    refine nj_ret TT rfl fun β w' _ _=>?_
    rw [hgp]
    rfl
  have h2:=of_decide_eq_false h2
  rw [if_neg (by omega)] at hgp
  rw [hgp]
  obtain ⟨k,rfl⟩:∃ j:Nat,k=j:=⟨k.toNat,by omega⟩
  rw [Int.toNat_natCast]
  generalize kidsG L i=m at *
  have hkm:k<=m.length:=by omega
  have hgk:gapK L m i k=⟨if 0<k then lastG L (m.getD (k - 1) 0)+1 else i+1,if 0<k then enAt L (m.getD (k - 1) 0) else stAt L i,if k<m.length then stAt L (m.getD k 0) else enAt L i⟩:=rfl
  rw [hsti,heni] at hgk
  clear hgp
  (repeat (first | refine cj_seq ?_ | refine cj_skip ?_ | refine nj_then ?_))
  refine cj_draw [(0,.pure),(1,.pure),(2,.pure),(3,.pure),(4,.pure),(5,.pure),(6,.quiet),(7,.pure),(8,.pure),(9,.pure),(10,.pure),(11,.quiet),(12,.pure),(13,.keep),(14,.sink)] mixed (by kernel_rfl) (oj_run TT rfl ?_)
  refine oj_add rfl rfl rfl rfl rfl rfl (by omega) (oj_run TT rfl ?_)
  refine oj_idx TT rfl rfl rfl rfl rfl rfl rfl rfl rfl H (by omega) hrow (oj_run TT rfl ?_)
  refine oj_idx TT rfl rfl rfl rfl rfl rfl rfl rfl rfl H (by omega) hrow (oj_run TT rfl ?_)
  (repeat (first | refine cj_seq ?_ | refine cjr TT rfl ?_ | refine oj_then ?_))
  refine cj_cutN (fun (_:Unit)=>σ1) (fun _=>[(0,.a (.v (.slice ao L.length cap))),(1,.a (.v (.int .i64 i))),(2,.a (.v (.int .i64 k))),(6,.a (.p 0 0)),(8,.a (.v (.slice oo m.length oc))),(9,.a (.p 3 0))])
    (fun _=>[(0,.loc 135,gapCells gap0),(3,.loc 135,gapCells ⟨(gapK L m i k).at_,(gapK L m i k).lo,r.en⟩)]) (fun _=>[]) 4 (fun _=>True) ?_ (fun _ _=>?_)
  · refine cj_if rfl (fun h=>?_) (fun h=>?_)
    rotate_left
    · have h:decide (0<(k:Int))=false:=h
      have hk0:¬ 0<k:=by have:=of_decide_eq_false h;omega
      rw [if_neg hk0,if_neg hk0] at hgk
      rw [hgk]
      (repeat refine cj_skip ?_)
      refine nj_again () trivial Nat.zero_lt_one rfl (by (repeat first | exact trivial | refine ⟨rfl,?_⟩)) (by (repeat first | exact trivial | refine ⟨rfl,?_⟩)) rfl (by (repeat' (first | exact trivial | exact Nat.le_of_ble_eq_true rfl | constructor))) (by (repeat' (first | exact trivial | exact Nat.le_of_ble_eq_true rfl | refine AllLt.of ?_ | constructor)))
    have h:decide (0<(k:Int))=true:=h
    have hk0:0<k:=by have:=of_decide_eq_true h;omega
    rw [if_pos hk0,if_pos hk0] at hgk
    have hkl1:k - 1<m.length:=by omega
    have hmk:m[k - 1]?=some m[k - 1]:=List.getElem?_eq_getElem hkl1
    rw [getD_get hmk] at hgk
    have hq:=hk m[k - 1] (List.getElem_mem hkl1)
    generalize m[k - 1]=q at *
    have hLq:L[q]?=some L[q]:=List.getElem?_eq_getElem hq
    rw [en_at hLq] at hgk
    have hlb:=lastG_bd L q hq
    rw [hgk]
    obtain ⟨ka,rfl,hka⟩:∃ ad,oo=some ad/\σ1.cell (ad.add (k - 1))=some (.int .i64 q):=by
      rcases HK.at_ with h0 | ⟨ad,h1,h2⟩
      · omega
      · refine ⟨ad,h1,?_⟩
        have:=h2 (k - 1) [.v (.int .i64 q)] 0 (.v (.int .i64 q)) (by unfold kidRows;rw [List.getElem?_map,hmk];rfl) rfl
        rw [Nat.mul_one] at this
        exact this
    obtain ⟨ra,rfl,hra⟩:∃ ad,ao=some ad/\σ1.cell (ad.add (q*11+1))=some (.int .i64 L[q].en):=by
      rcases H.at_ with h0 | ⟨ad,h1,h2⟩
      · omega
      · exact ⟨ad,h1,h2 q (recCells L[q]) 1 (.v (.int .i64 L[q].en)) (recRows_get hLq) rfl⟩
    generalize L[q]=rq at *
    refine cj_drawW ord102_6 (fun _ w=>Sealed σ1 w) (fun β w h=>h.sealed) mixed (by kernel_rfl) ?_
    refine ow_pure TT rfl rfl rfl rfl rfl rfl ?_
    refine ow_pure TT rfl rfl rfl rfl rfl rfl ?_
    refine ow_pure TT rfl rfl rfl rfl rfl rfl ?_
    refine ow_minus rfl rfl rfl rfl rfl rfl rfl (by omega) ?_
    refine ow_idxA TT rfl rfl rfl rfl rfl rfl rfl rfl rfl rfl ⟨by omega,by omega⟩ ?_
    refine ow_ldS TT rfl rfl rfl rfl rfl rfl rfl rfl (c:=.v (.int .i64 q)) (by rw [show ((k:Int) - 1).toNat*1=k - 1 by omega];exact hka) trivial ?_
    refine ow_pure TT rfl rfl rfl rfl rfl rfl ?_
    refine ow_pure TT rfl rfl rfl rfl rfl rfl ?_
    refine ow_pure TT rfl rfl rfl rfl rfl rfl ?_
    refine ow_minus rfl rfl rfl rfl rfl rfl rfl (by omega) ?_
    refine ow_idxA TT rfl rfl rfl rfl rfl rfl rfl rfl rfl rfl ⟨by omega,by omega⟩ ?_
    refine ow_ldS TT rfl rfl rfl rfl rfl rfl rfl rfl (c:=.v (.int .i64 q)) (by rw [show ((k:Int) - 1).toNat*1=k - 1 by omega];exact hka) trivial ?_
    refine ow_idxA TT rfl rfl rfl rfl rfl rfl rfl rfl rfl rfl ⟨by omega,by omega⟩ ?_
    refine ow_pure TT rfl rfl rfl rfl rfl rfl ?_
    refine ow_ldS TT rfl rfl rfl rfl rfl rfl rfl rfl (c:=.v (.int .i64 rq.en)) (by rw [Addr.add_add,Int.toNat_natCast];exact hra) trivial ?_
    refine ow_callP (fun β w h=>h.sealed) rfl rfl rfl rfl rfl Tryz.call77 (by (repeat' (first | exact trivial | constructor))) (Last_c σ1 L R _ cap H q hq hs) fun v hv=>⟨.a (.v (.int .i64 (lastG L q))),trivial,hv.symm,?_⟩
    refine ow_add rfl rfl rfl rfl rfl rfl rfl (by omega) ?_
    refine ow_pure TT rfl rfl rfl rfl rfl rfl ?_
    refine ow_put TT rfl rfl rfl rfl (fun _ _ h=>h.sealed) ?_
    refine ow_end rfl (fun β w h=>h.sealed) (oj_run TT rfl ?_)
    (repeat refine oj_nil ?_)
    refine nj_again () trivial Nat.zero_lt_one rfl (by (repeat first | exact trivial | refine ⟨rfl,?_⟩)) (by (repeat first | exact trivial | refine ⟨rfl,?_⟩)) rfl (by (repeat' (first | exact trivial | exact Nat.le_of_ble_eq_true rfl | constructor))) (by (repeat' (first | exact trivial | exact Nat.le_of_ble_eq_true rfl | refine AllLt.of ?_ | constructor)))
  have hgh:(gapK L m i k).hi=if k<m.length then stAt L (m.getD k 0) else r.en:=by rw [hgk]
  clear hgk
  (repeat (first | refine cj_seq ?_ | refine cjr TT rfl ?_ | refine oj_then ?_))
  refine cj_if rfl (fun h=>?_) (fun h=>?_)
  · have h:decide ((k:Int)<m.length)=true:=h
    have hkl1:k<m.length:=by have:=of_decide_eq_true h;omega
    have hmk:m[k]?=some m[k]:=List.getElem?_eq_getElem hkl1
    rw [if_pos hkl1,getD_get hmk] at hgh
    have hq:=hk m[k] (List.getElem_mem hkl1)
    have hkr:(kidRows m)[k]?=some [.v (.int .i64 m[k])]:=by unfold kidRows;rw [List.getElem?_map,hmk];rfl
    generalize m[k]=q at *
    have hLq:L[q]?=some L[q]:=List.getElem?_eq_getElem hq
    have hqr:=recRows_get hLq
    rw [st_at hLq] at hgh
    generalize L[q]=rq at *
    (repeat refine cjr TT rfl ?_)
    refine oj_idx TT rfl rfl rfl rfl rfl rfl rfl rfl rfl HK (by omega) hkr (oj_run TT rfl ?_)
    refine oj_idx TT rfl rfl rfl rfl rfl rfl rfl rfl rfl H (by omega) hqr (oj_run TT rfl ?_)
    (repeat (first | refine cj_seq ?_ | refine cjr TT rfl ?_ | refine oj_then ?_ | refine cj_ret ?_))
    refine nj_ret TT rfl fun β w' _ _=>?_
    rw [<-hgh]
    rfl
  · have h:decide ((k:Int)<m.length)=false:=h
    rw [if_neg (by have:=of_decide_eq_false h;omega)] at hgh
    (repeat (first | refine cj_seq ?_ | refine cjr TT rfl ?_ | refine oj_then ?_ | refine cj_skip ?_ | refine cj_ret ?_ | refine nj_then ?_))
    refine nj_ret TT rfl fun β w' _ _=>?_
    rw [<-hgh]
    rfl
def roomG (L:List GRec) (i k:Int):Int:=if placeE L i≠0 then -1 else match gapG L i.toNat k with
  | none => -1
  | some g=>g.hi - g.lo - 1
theorem place_ok {L:List GRec} {i:Int} (h:placeE L i=0):soundG L=true/\0<=i/\i<L.length:=by
  unfold placeE at h
  split at h
  · omega
  · rename_i h1
    split at h
    · omega
    · exact ⟨by simpa using h1,by omega,by omega⟩
structure SndL (L:List GRec):Prop where
  ok:RecsOk L
  len:L.length<=100000
  kids:soundG L=true->∀ i,i<L.length->(∀ j∈kidsG L i,j<L.length)/\(kidsG L i).length<=100000
  num:soundG L=true->∀ r∈L,-1<=r.st/\r.st<=1099511627776 /\ -1<=r.en/\r.en<=1099511627776
theorem gap_num {L:List GRec} (S:SndL L) (hs:soundG L=true) {i:Nat} (hi:i<L.length) {k:Int} {g:GGap} (h:gapG L i k=some g):-1<=g.lo/\g.lo<=1099511627776 /\ -1<=g.hi/\g.hi<=1099511627776/\0<=g.at_/\g.at_<=L.length:=by
  have hn:=S.num hs
  have hst:∀ q,q<L.length -> -1<=stAt L q/\stAt L q<=1099511627776 /\ -1<=enAt L q/\enAt L q<=1099511627776:=fun q hq=>by
    rw [st_at (List.getElem?_eq_getElem hq),en_at (List.getElem?_eq_getElem hq)]
    exact hn _ (List.getElem_mem hq)
  obtain ⟨hk,-⟩:=S.kids hs i hi
  unfold gapG at h
  split at h
  · cases h
  · rename_i hc
    obtain rfl:=Option.some.inj h
    unfold gapK
    dsimp only
    have h0:=hst i hi
    generalize kidsG L i=m at *
    refine ⟨?_,?_,?_,?_,?_,?_⟩
    · split
      · rename_i hk0
        rw [getD_get (List.getElem?_eq_getElem (show k.toNat - 1<m.length by omega))]
        exact (hst _ (hk _ (List.getElem_mem _))).2.2.1
      · omega
    · split
      · rename_i hk0
        rw [getD_get (List.getElem?_eq_getElem (show k.toNat - 1<m.length by omega))]
        exact (hst _ (hk _ (List.getElem_mem _))).2.2.2
      · omega
    · split
      · rename_i hk0
        rw [getD_get (List.getElem?_eq_getElem hk0)]
        exact (hst _ (hk _ (List.getElem_mem _))).1
      · omega
    · split
      · rename_i hk0
        rw [getD_get (List.getElem?_eq_getElem hk0)]
        exact (hst _ (hk _ (List.getElem_mem _))).2.1
      · omega
    · split
      · rename_i hk0
        rw [getD_get (List.getElem?_eq_getElem (show k.toNat - 1<m.length by omega))]
        have:=lastG_bd L _ (hk _ (List.getElem_mem (show k.toNat - 1<m.length by omega)))
        omega
      · omega
    · split
      · rename_i hk0
        rw [getD_get (List.getElem?_eq_getElem (show k.toNat - 1<m.length by omega))]
        have:=lastG_bd L _ (hk _ (List.getElem_mem (show k.toNat - 1<m.length by omega)))
        omega
      · omega
set_option maxRecDepth 100000 in
set_option maxHeartbeats 1000000 in
theorem Room_c (σ:Snap) (L:List GRec) (S:SndL L) (ao:Option Addr) (cap:Nat) (H:SlAt σ ao L.length cap 11 (recRows L)) (i k:Int) :
    PureS Tryz.prog 25 [.a (.v (.slice ao L.length cap)),.a (.v (.int .i64 i)),.a (.v (.int .i64 k))] σ (fun v _=>v=.int .i64 (roomG L i k)):=by
  have hrg:roomG L i k=if placeE L i≠0 then -1 else match gapG L i.toNat k with | none => -1 | some g=>g.hi - g.lo - 1:=rfl
  refine enter_s Tryz.func25 rfl rfl (by (repeat' (first | exact trivial | constructor))) fun w=>?_
  (repeat (first | refine cj_seq ?_ | refine cjr TT rfl ?_ | refine oj_then ?_))
  refine oj_callP rfl rfl rfl rfl rfl Tryz.call58 (by (repeat' (first | exact trivial | constructor))) (place12_c σ L S.ok ao cap H i) fun v hv=>⟨.a (.v (.int .i64 (placeE L i))),trivial,hv.symm,?_⟩
  refine oj_run TT rfl ?_
  (repeat refine oj_then ?_)
  refine cj_if rfl (fun h=>?_) (fun h=>?_)
  · have h:placeE L i≠0:=by simpa using h
    rw [if_pos h] at hrg
    (repeat (first | refine cj_seq ?_ | refine cjr TT rfl ?_ | refine oj_then ?_ | refine cj_ret ?_ | refine nj_then_ret ?_))
    refine nj_ret TT rfl fun β w' _ _=>?_
    rw [hrg]
    rfl
  have h:placeE L i=0:=by simpa using h
  rw [if_neg (by simp [h])] at hrg
  obtain ⟨hs,hi0,hil⟩:=place_ok h
  obtain ⟨i,rfl⟩:∃ j:Nat,i=j:=⟨i.toNat,by omega⟩
  rw [Int.toNat_natCast] at hrg
  have hi:i<L.length:=by omega
  obtain ⟨hk1,hk2⟩:=S.kids hs i hi
  (repeat (first | refine cj_seq ?_ | refine cjr TT rfl ?_ | refine cj_skip ?_ | refine nj_then ?_))
  have hc:=find_c σ L S.ok ao cap H i hi hs S.len hk1 hk2 k
  cases hg:gapG L i k with
  | none =>
    rw [hg] at hrg hc
    refine oj_callS rfl rfl rfl rfl rfl Tryz.call59 (by (repeat' (first | exact trivial | constructor))) hc fun v σ1 hle1 hv=>⟨.tup [.agg (gapCells gap0),.a .ff],(by unfold gapCells;(repeat' (first | exact trivial | refine AllLt.of ?_ | refine SV.lt_tup ?_ | constructor))),hv.symm,?_⟩
    refine oj_run TT rfl ?_
    (repeat (first | refine cj_seq ?_ | refine cjr TT rfl ?_ | refine oj_then ?_ | refine cj_if_t rfl ?_ | refine cj_ret ?_ | refine nj_then_ret ?_))
    refine nj_ret TT rfl fun β w' _ _=>?_
    rw [hrg]
    rfl
  | some g =>
    rw [hg] at hrg hc
    have hn:=gap_num S hs hi hg
    refine oj_callS rfl rfl rfl rfl rfl Tryz.call59 (by (repeat' (first | exact trivial | constructor))) hc fun v σ1 hle1 hv=>⟨.tup [.agg (gapCells g),.a .tt],(by unfold gapCells;(repeat' (first | exact trivial | refine AllLt.of ?_ | refine SV.lt_tup ?_ | constructor))),hv.symm,?_⟩
    refine oj_run TT rfl ?_
    (repeat (first | refine cj_seq ?_ | refine cjr TT rfl ?_ | refine oj_then ?_ | refine cj_if_f rfl ?_ | refine cj_skip ?_ | refine cj_ret ?_ | refine nj_then ?_ | (refine oj_minus rfl rfl rfl rfl rfl rfl (by omega) ?_;refine oj_run TT rfl ?_)))
    refine nj_ret TT rfl fun β w' _ _=>?_
    rw [hrg]
    rfl
end Go.Sy
/- Plain law: the gaps of a shred. No program in sight. -/
namespace Go.Sy
theorem cntI_take_succ {xs:List Itm} {m:Nat} {x:Itm} (h:xs[m]?=some x):cntI (xs.take (m+1))=cntI (xs.take m)+cntV x.v:=by
  have hm:=(List.getElem?_eq_some_iff.1 h).1
  have hx:=(List.getElem?_eq_some_iff.1 h).2
  unfold cntI
  rw [List.take_succ_eq_append_getElem hm,hx,valsI_append,cntL_append]
  rfl
theorem wI_take_succ {gap:Int} {xs:List Itm} {m:Nat} {x:Itm} (h:xs[m]?=some x):wI gap (xs.take (m+1))=wI gap (xs.take m)+wV gap x.v:=by
  have hm:=(List.getElem?_eq_some_iff.1 h).1
  have hx:=(List.getElem?_eq_some_iff.1 h).2
  unfold wI
  rw [List.take_succ_eq_append_getElem hm,hx,valsI_append,wL_append]
  show _=_+wV gap x.v
  congr 1
  show wV gap x.v+wL gap []=_
  rw [wL]
  omega
theorem kid_pos {gap:Int} (hg:0<gap) {L:List GRec} {h:GVal} {p:Nat} {now:Int} {pre:List GStep} (hl:Loc gap L h p now pre):(kidsG L p).length=(its h).length/\∀ (m:Nat) (x:Itm),(its h)[m]?=some x->(kidsG L p)[m]?=some (p+1+cntI ((its h).take m)):=by
  have hk:=hl.kids hg
  have hv:=vals_its hl.wf
  have hlen:(its h).length=(h.l++h.vs).length:=by rw [<-hv];simp [valsI]
  have hpl:∀ (gs:List GVal) (p:Nat),(pos gs p).length=gs.length:=by
    intro gs
    induction gs with
    | nil=>intro _;rfl
    | cons g gs ih=>intro p;rw [pos,List.length_cons,List.length_cons,ih]
  rw [hk]
  refine ⟨by rw [hpl,hlen],fun m x hx=>?_⟩
  have hm:=(List.getElem?_eq_some_iff.1 hx).1
  rw [pos_get _ _ _ (by omega)]
  congr 2
  rw [<-hv]
  unfold cntI valsI
  rw [List.map_take]
theorem gap_loc {gap:Int} (hg:0<gap) {L:List GRec} {h:GVal} {p:Nat} {now:Int} {pre:List GStep} (hl:Loc gap L h p now pre) {k:Nat} (hk:k<=(its h).length) :
    gapG L p k=some ⟨((p+1+cntI ((its h).take k):Nat):Int),now+gap+wI gap ((its h).take k),now+gap+wI gap ((its h).take k)+gap⟩:=by
  obtain ⟨hkl,hkp⟩:=kid_pos hg hl
  unfold gapG
  rw [hkl,if_neg (by omega),Int.toNat_natCast]
  unfold gapK
  rw [hkl]
  have hwe:=wI_its (gap:=gap) hl.wf
  obtain ⟨nm,name,hrec⟩:=hl.rec_
  have h0:wI gap ([]:List Itm)=0:=rfl
  have hc0:cntI []=0:=rfl
  congr 1
  have hhi:(if k<(its h).length then stAt L ((kidsG L p).getD k 0) else enAt L p)=now+gap+wI gap ((its h).take k)+gap:=by
    by_cases hlt:k<(its h).length
    · rw [if_pos hlt]
      have hx:(its h)[k]?=some (its h)[k]:=List.getElem?_eq_getElem hlt
      rw [getD_get (hkp k _ hx)]
      obtain ⟨hlx,-⟩:=hl.kid hg hx
      obtain ⟨nm',name',hr⟩:=hlx.rec_
      rw [st_at hr]
    · rw [if_neg hlt,en_at hrec]
      have:(its h).take k=its h:=List.take_of_length_le (by omega)
      rw [this]
      show now+wV gap h=_
      omega
  cases k with
  | zero =>
    rw [hhi,if_neg (by omega),if_neg (by omega),st_at hrec,List.take_zero,h0,hc0]
    show (⟨_,now+gap,_⟩:GGap)=_
    congr 1<;>omega
  | succ k =>
    have hx:(its h)[k]?=some ((its h)[k]'(by omega)):=List.getElem?_eq_getElem _
    obtain ⟨hlx,-⟩:=hl.kid hg hx
    obtain ⟨nm',name',hr⟩:=hlx.rec_
    have hla:=hlx.last hg
    have hc:=cntI_take_succ hx
    have hw:=wI_take_succ (gap:=gap) hx
    have hcp:=cntV_pos ((its h)[k]'(by omega)).v
    rw [hhi,if_pos (by omega),if_pos (by omega),show k+1 - 1=k by omega,getD_get (hkp k _ hx),en_at hr,hla,hc,hw]
    show (⟨_,_+wV gap _,_⟩:GGap)=_
    congr 1<;>omega
end Go.Sy
namespace Go.Sy
open Go.Proofs
def fitsE (L:List GRec) (i:Nat) (key:ByteArray):Int:=if (kidsG L i).any fun k=>decide ((L[k]?.map GRec.name).getD emptyS=key) then 7 else if keyOk key then 0 else 1
set_option maxRecDepth 100000 in
set_option maxHeartbeats 1000000 in
theorem fits12_c (σ:Snap) (L:List GRec) (R:RecsOk L) (ao:Option Addr) (cap:Nat) (H:SlAt σ ao L.length cap 11 (recRows L)) (i:Nat) (hi:i<L.length) (hs:soundG L=true) (hL:L.length<=100000) (hk:∀ j∈kidsG L i,j<L.length) (hkl:(kidsG L i).length<=100000) (key:ByteArray) (hkey:key.size<=mostLen) :
    PureS Tryz.prog 61 [.a (.v (.slice ao L.length cap)),.a (.v (.int .i64 i)),.a (.v (.string key))] σ (fun v _=>v=.int .i64 (fitsE L i key)):=by
  have hfe:fitsE L i key=if (kidsG L i).any fun k=>decide ((L[k]?.map GRec.name).getD emptyS=key) then 7 else if keyOk key then 0 else 1:=rfl
  refine enter_s Tryz.func61 rfl rfl (by (repeat' (first | exact trivial | constructor))) fun w=>?_
  (repeat (first | refine cj_seq ?_ | refine cjr TT rfl ?_ | refine oj_then ?_))
  refine oj_callS rfl rfl rfl rfl rfl Tryz.call137 (by (repeat' (first | exact trivial | constructor))) (Kids_c σ L R ao cap H i hi hs hL) fun v σ1 hle1 ⟨oo,oc,hv,HK⟩=>⟨.a (.v (.slice oo (kidsG L i).length oc)),trivial,hv.symm,?_⟩
  have H:=H.mono hle1
  generalize kidsG L i=m at *
  refine oj_run TT rfl ?_
  (repeat (first | refine oj_then ?_ | refine cj_block ?_))
  refine cj_cutB (α:=Unit) (fun _=>σ1) (fun _=>[(2,.a (.v (.string key)))]) (fun _=>[]) (fun _=>[]) 0 (fun _=>(m.any fun k=>decide ((L[k]?.map GRec.name).getD emptyS=key))=false) ?_ (fun _ hany=>?_)
  · refine cj_loop (fun (_:Nat)=>σ1) (fun j=>[(0,.a (.v (.slice ao L.length cap))),(2,.a (.v (.string key))),(11,.a (.v (.slice oo m.length oc))),(12,.a (.v (.int .i64 m.length))),(13,.a (.v (.int .i64 (j:Nat))))]) (fun _=>[]) (fun _=>[]) 0
      (fun j=>j<=m.length/\((m.drop j).any fun k=>decide ((L[k]?.map GRec.name).getD emptyS=key))=(m.any fun k=>decide ((L[k]?.map GRec.name).getD emptyS=key))) (fun j=>m.length - j) 0 ⟨Nat.zero_le _,rfl⟩ rfl (by (repeat first | exact trivial | refine ⟨rfl,?_⟩)) (by (repeat first | exact trivial | refine ⟨rfl,?_⟩)) rfl (by (repeat' (first | exact trivial | constructor))) (by (repeat' exact trivial)) fun j ⟨hj,hp⟩=>?_
    (repeat (first | refine cj_seq ?_ | refine cjr TT rfl ?_ | refine oj_then ?_))
    refine cj_if rfl (fun h=>?_) (fun h=>?_)
    rotate_left
    · have hj0:j=m.length:=by have:=of_decide_eq_false h;omega
      rw [hj0,List.drop_length] at hp
      (repeat (first | refine cj_exit ?_ | refine nj_then_exit ?_ | refine nj_block_out ?_))
      refine nj_again () hp.symm Nat.zero_lt_one rfl (by (repeat first | exact trivial | refine ⟨rfl,?_⟩)) (by (repeat first | exact trivial | refine ⟨rfl,?_⟩)) rfl (by (repeat' (first | exact trivial | constructor))) (by (repeat' exact trivial))
    have hjl:j<m.length:=by have:=of_decide_eq_true h;omega
    have hkr:(kidRows m)[j]?=some [.v (.int .i64 m[j])]:=by unfold kidRows;rw [List.getElem?_map,List.getElem?_eq_getElem hjl];rfl
    have hq:=hk m[j] (List.getElem_mem hjl)
    rw [List.drop_eq_getElem_cons hjl,List.any_cons] at hp
    generalize m[j]=q at *
    have hLq:L[q]?=some L[q]:=List.getElem?_eq_getElem hq
    have hqr:=recRows_get hLq
    rw [hLq] at hp
    generalize L[q]=rq at *
    (repeat (first | refine cj_seq ?_ | refine cjr TT rfl ?_ | refine cj_skip ?_ | refine cj_block ?_ | refine nj_then ?_))
    refine oj_idx TT rfl rfl rfl rfl rfl rfl rfl rfl rfl HK (by omega) hkr (oj_run TT rfl ?_)
    (repeat (first | refine cj_seq ?_ | refine cjr TT rfl ?_ | refine oj_then ?_))
    refine oj_idx TT rfl rfl rfl rfl rfl rfl rfl rfl rfl H (by omega) hqr (oj_run TT rfl ?_)
    (repeat refine oj_then ?_)
    refine cj_if rfl (fun h=>?_) (fun h=>?_)
    · have h:decide (rq.name=key)=true:=h
      have h1:decide (((some rq).map GRec.name).getD emptyS=key)=true:=h
      rw [h1,Bool.true_or] at hp
      rw [if_pos hp.symm] at hfe
      (repeat (first | refine cj_seq ?_ | refine cjr TT rfl ?_ | refine oj_then ?_ | refine cj_ret ?_ | refine nj_then_ret ?_ | refine nj_block_ret ?_))
      refine nj_ret TT rfl fun β w' _ _=>?_
      rw [hfe]
      rfl
    · have h:decide (rq.name=key)=false:=h
      have h1:decide (((some rq).map GRec.name).getD emptyS=key)=false:=h
      rw [h1,Bool.false_or] at hp
      (repeat (first | refine cjr TT rfl ?_ | refine oj_nil ?_ | refine cj_skip ?_ | refine nj_then ?_ | refine nj_block ?_ | (refine oj_add rfl rfl rfl rfl rfl rfl (by omega) ?_;refine oj_run TT rfl ?_)))
      refine nj_again (j+1) ⟨hjl,hp⟩ (by omega) rfl (by (repeat first | exact trivial | refine ⟨rfl,?_⟩)) (by (repeat first | exact trivial | refine ⟨rfl,?_⟩)) rfl (by (repeat' (first | exact trivial | constructor))) (by (repeat' exact trivial))
  rw [if_neg (by rw [hany];decide)] at hfe
  obtain ⟨l,rfl⟩:=mkB_ex key
  rw [mkB_size] at hkey
  have hko:keyOk (mkB l)=decide (utfCheck l<0):=rfl
  (repeat (first | refine cj_seq ?_ | refine cjr TT rfl ?_))
  refine oj_bytes (y:=mkB l) TT rfl rfl rfl rfl rfl rfl rfl rfl rfl rfl rfl fun bo bc σ2 hle2 HB=>?_
  refine oj_run TT rfl ?_
  refine oj_callP rfl rfl rfl rfl rfl Tryz.call139 (by (repeat' (first | exact trivial | constructor))) (utfCheck_c σ2 bo bc l HB hkey) fun v hv=>⟨.a (.v (.int .i64 (utfCheck l))),trivial,hv.symm,?_⟩
  refine oj_run TT rfl ?_
  (repeat refine oj_then ?_)
  refine cj_if rfl (fun h=>?_) (fun h=>?_)
  · have h:=of_decide_eq_true h
    rw [hko,decide_eq_false (by omega)] at hfe
    (repeat (first | refine cj_seq ?_ | refine cjr TT rfl ?_ | refine oj_then ?_ | refine cj_ret ?_ | refine nj_then_ret ?_))
    refine nj_ret TT rfl fun β w' _ _=>?_
    rw [hfe]
    rfl
  · have h:=of_decide_eq_false h
    rw [hko,decide_eq_true (by omega)] at hfe
    (repeat (first | refine cj_seq ?_ | refine cjr TT rfl ?_ | refine oj_then ?_ | refine cj_skip ?_ | refine cj_ret ?_ | refine nj_then ?_))
    refine nj_ret TT rfl fun β w' _ _=>?_
    rw [hfe]
    rfl
set_option maxRecDepth 100000 in
set_option maxHeartbeats 1000000 in
theorem CloneRec_c (σ:Snap) (L:List GRec) (hl:L.length<=1000000) (hpos:0<L.length) (ao:Option Addr) (cap:Nat) (H:SlAt σ ao L.length cap 11 (recRows L)) :
    FnS Tryz.prog 76 [.a (.v (.slice ao L.length cap))] σ [] (fun v _ A'=>∃ bo bc,v=.slice bo L.length bc/\L.length<=bc/\A'=[rE bo L.length bc L]):=by
  refine enter_f Tryz.func76 rfl rfl (by (repeat' (first | exact trivial | constructor))) fun w=>?_
  (repeat (first | refine cj_seq ?_ | refine cjr TT rfl ?_ | refine oj_then ?_ | (refine oj_slnil TT rfl rfl rfl rfl rfl rfl rfl rfl ?_;refine oj_run TT rfl ?_)))
  refine cj_if rfl (fun h=>?_) (fun h=>?_)
  · have h0:ao=none:=by simpa using h
    rcases H.at_ with h1 | ⟨ad,h1,_⟩
    · omega
    · rw [h0] at h1;cases h1
  (repeat (first | refine cj_seq ?_ | refine cjr TT rfl ?_ | refine cj_skip ?_ | refine nj_then ?_))
  refine oj_own 0 0 11 rfl (by (repeat' (first | exact trivial | refine AllLt.of ?_))) rfl (by decide) fun gb=>?_
  refine oj_append_sl TT 0 rfl rfl rfl rfl rfl rfl rfl H rfl rfl rfl rfl rfl rfl rfl rfl rfl (fun r hr=>(recRows_all L r hr).2.2) (by omega) (by show (0+L.length)*112<=_;omega) fun ao' cap' hcap'=>oj_run TT rfl ?_
  (repeat (first | refine oj_then ?_ | refine cj_ret ?_))
  refine nj_fret TT rfl fun β w' _ _=>?_
  refine ⟨ao',cap',by show Value.slice ao' (0+L.length) cap'=_;rw [Nat.zero_add],by omega,?_⟩
  show [_]=[_]
  rw [Nat.zero_add]
  rfl
set_option maxRecDepth 100000 in
set_option maxHeartbeats 1000000 in
theorem Grow_c (σ:Snap) (n:Nat) (hn:n<=1000000) :
    FnS Tryz.prog 200 [.a (.v (.slice none 0 0)),.a (.v (.int .i64 n))] σ [] (fun v _ A'=>∃ bo bc,v=.slice bo 0 bc/\A'=[rE bo 0 bc []]):=by
  refine enter_f Tryz.func200 rfl rfl (by (repeat' (first | exact trivial | constructor))) fun w=>?_
  (repeat (first | refine cj_seq ?_ | refine cjr TT rfl ?_ | refine oj_then ?_))
  refine cj_if rfl (fun h=>?_) (fun h=>?_)
  · have:(n:Int)<0:=of_decide_eq_true h
    omega
  have hsub:((n:Int) - (((0:Nat):Int) - ((0:Nat):Int)))=(n:Int):=by omega
  (repeat (first | refine cj_seq ?_ | refine cjr TT rfl ?_ | refine cj_skip ?_ | refine nj_then ?_))
  refine oj_cap TT rfl rfl rfl rfl rfl rfl rfl (oj_run TT rfl ?_)
  refine oj_minus rfl rfl rfl rfl rfl rfl (by omega) (oj_run TT rfl ?_)
  refine oj_minus rfl rfl rfl rfl rfl rfl (by omega) (oj_run TT rfl ?_)
  rw [hsub]
  refine oj_run TT rfl ?_
  (repeat (first | refine cj_seq ?_ | refine cjr TT rfl ?_ | refine oj_then ?_))
  refine cj_if rfl (fun h=>?_) (fun h=>?_)
  rotate_left
  · (repeat (first | refine cj_seq ?_ | refine cjr TT rfl ?_ | refine oj_then ?_ | refine cj_skip ?_ | refine cj_ret ?_ | refine nj_then ?_))
    refine nj_nilarr 130 11 ?_
    refine nj_fret TT rfl fun β w' _ _=>?_
    exact ⟨none,0,rfl,rfl⟩
  have hpos:0<n:=by have:(n:Int) > 0:=of_decide_eq_true h;omega
  (repeat refine cjr TT rfl ?_)
  refine oj_cap TT rfl rfl rfl rfl rfl rfl rfl (oj_run TT rfl ?_)
  refine oj_slice_to TT 0 rfl rfl rfl rfl rfl rfl rfl rfl rfl rfl (Nat.le_refl _) (Nat.le_refl _) (oj_run TT rfl ?_)
  refine oj_nilarr 130 11 ?_
  refine oj_appendZ TT 0 rfl rfl rfl rfl rfl rfl rfl rfl rfl rfl rfl rfl rfl rfl (by decide) hpos (by omega) (by show n*112<=_;omega) fun g cap' xs hcap'=>oj_run TT rfl ?_
  refine oj_slice_to TT 0 rfl rfl rfl rfl rfl rfl rfl rfl rfl rfl (Nat.zero_le _) hcap' ?_
  refine oj_cutArr 0 0 rfl rfl (Nat.zero_le _) rfl (oj_run TT rfl ?_)
  (repeat (first | refine cj_seq ?_ | refine cjr TT rfl ?_ | refine oj_then ?_ | refine cj_ret ?_))
  refine nj_fret TT rfl fun β w' _ _=>?_
  refine ⟨some ⟨g,0,none⟩,cap',rfl,?_⟩
  show [AE.cut _ 0]=[_]
  unfold AE.cut
  simp only [Nat.zero_mul,List.take_zero]
  rfl
structure RRow where
  ao:Option Addr
  cap:Nat
  l:List GRec
def rrRows (l:List RRow):List (List AT):=l.map fun r=>[.v (.slice r.ao r.l.length r.cap)]
theorem rrRows_get {l:List RRow} {i:Nat} {x:RRow} (h:l[i]?=some x):(rrRows l)[i]?=some [.v (.slice x.ao x.l.length x.cap)]:=by unfold rrRows;rw [List.getElem?_map,h];rfl
def allRecs (l:List RRow):List GRec:=(l.map RRow.l).flatten
theorem allRecs_take {l:List RRow} {j:Nat} {x:RRow} (h:l[j]?=some x):allRecs (l.take (j+1))=allRecs (l.take j)++x.l:=by
  have hj:=(List.getElem?_eq_some_iff.1 h).1
  have hx:=(List.getElem?_eq_some_iff.1 h).2
  unfold allRecs
  rw [List.take_succ_eq_append_getElem hj,hx,List.map_append,List.flatten_append]
  simp
theorem allRecs_le (l:List RRow) (j:Nat):(allRecs (l.take j)).length<=(allRecs l).length:=by
  have:allRecs l=allRecs (l.take j)++allRecs (l.drop j):=by
    unfold allRecs
    rw [<-List.flatten_append,<-List.map_append,List.take_append_drop]
  rw [this,List.length_append]
  omega
structure CcS where
  j:Nat
  bo:Option Addr
  bc:Nat
set_option maxRecDepth 100000 in
set_option maxHeartbeats 1000000 in
theorem Concat_c (σ:Snap) (rs:List RRow) (hl:rs.length<=1000) (hn:(allRecs rs).length<=1000000) (ao:Option Addr) (cap:Nat) (P:SlAt σ ao rs.length cap 1 (rrRows rs)) (hr:∀ r∈rs,SlAt σ r.ao r.l.length r.cap 11 (recRows r.l)) :
    FnS Tryz.prog 141 [.a (.v (.slice ao rs.length cap))] σ [] (fun v _ A'=>∃ bo bc,v=.slice bo (allRecs rs).length bc/\(allRecs rs).length<=bc/\A'=[rE bo (allRecs rs).length bc (allRecs rs)]):=by
  refine enter_f Tryz.func141 rfl rfl (by (repeat' (first | exact trivial | constructor))) fun w=>?_
  (repeat (first | refine cj_seq ?_ | refine cjr TT rfl ?_ | refine oj_then ?_ | refine cj_block ?_))
  refine cj_cutB (α:=Unit) (fun _=>σ) (fun _=>[(0,.a (.v (.slice ao rs.length cap))),(3,.a (.v (.int .i64 (allRecs rs).length)))]) (fun _=>[]) (fun _=>[]) 0 (fun _=>True) ?_ (fun _ _=>?_)
  · refine cj_loop (fun (_:Nat)=>σ) (fun j=>[(0,.a (.v (.slice ao rs.length cap))),(3,.a (.v (.int .i64 (allRecs (rs.take j)).length))),(9,.a (.v (.slice ao rs.length cap))),(10,.a (.v (.int .i64 rs.length))),(11,.a (.v (.int .i64 (j:Nat))))]) (fun _=>[]) (fun _=>[]) 0
      (fun j=>j<=rs.length) (fun j=>rs.length - j) 0 (Nat.zero_le _) rfl (by (repeat first | exact trivial | refine ⟨rfl,?_⟩)) (by (repeat first | exact trivial | refine ⟨rfl,?_⟩)) rfl (by (repeat' (first | exact trivial | constructor))) (by (repeat' exact trivial)) fun j hj=>?_
    (repeat (first | refine cj_seq ?_ | refine cjr TT rfl ?_ | refine oj_then ?_))
    refine cj_if rfl (fun h=>?_) (fun h=>?_)
    rotate_left
    · have hj0:j=rs.length:=by have:=of_decide_eq_false h;omega
      subst hj0
      rw [List.take_length]
      (repeat (first | refine cj_exit ?_ | refine nj_then_exit ?_ | refine nj_block_out ?_))
      refine nj_again () trivial Nat.zero_lt_one rfl (by (repeat first | exact trivial | refine ⟨rfl,?_⟩)) (by (repeat first | exact trivial | refine ⟨rfl,?_⟩)) rfl (by (repeat' (first | exact trivial | constructor))) (by (repeat' exact trivial))
    have hjl:j<rs.length:=by have:=of_decide_eq_true h;omega
    have hrj:=rrRows_get (List.getElem?_eq_getElem hjl)
    have hat:=allRecs_take (List.getElem?_eq_getElem hjl)
    have hle1:=allRecs_le rs j
    have hle2:=allRecs_le rs (j+1)
    have hlen:=congrArg List.length hat
    rw [List.length_append] at hlen
    generalize rs[j]=r at *
    (repeat (first | refine cj_seq ?_ | refine cjr TT rfl ?_ | refine cj_skip ?_ | refine cj_block ?_ | refine nj_then ?_))
    refine oj_idx TT rfl rfl rfl rfl rfl rfl rfl rfl rfl P (by omega) hrj (oj_run TT rfl ?_)
    (repeat (first | refine cj_seq ?_ | refine cjr TT rfl ?_ | refine oj_then ?_ | (refine oj_add rfl rfl rfl rfl rfl rfl (by omega) ?_;refine oj_run TT rfl ?_)))
    refine cj_if rfl (fun h=>?_) (fun h=>?_)
    · have:=of_decide_eq_true h
      omega
    (repeat (first | refine cjr TT rfl ?_ | refine oj_nil ?_ | refine cj_skip ?_ | refine nj_then ?_ | refine nj_block ?_ | (refine oj_add rfl rfl rfl rfl rfl rfl (by omega) ?_;refine oj_run TT rfl ?_)))
    rw [show ((allRecs (rs.take j)).length:Int)+r.l.length=((allRecs (rs.take (j+1))).length:Nat) by omega]
    refine nj_again (j+1) hjl (by omega) rfl (by (repeat first | exact trivial | refine ⟨rfl,?_⟩)) (by (repeat first | exact trivial | refine ⟨rfl,?_⟩)) rfl (by (repeat' (first | exact trivial | constructor))) (by (repeat' exact trivial))
  (repeat (first | refine cj_seq ?_ | refine cjr TT rfl ?_))
  refine oj_callF [] (A0:=[]) (Ar:=[]) rfl rfl rfl rfl rfl rfl rfl Tryz.call200 (by (repeat' (first | exact trivial | constructor))) (Grow_c σ (allRecs rs).length hn) fun v σ1 A1 hle1 ⟨bo,bc,hv,hA⟩=>⟨.a (.v (.slice bo 0 bc)),trivial,hv.symm,?_⟩
  subst hA
  have P:=P.mono hle1
  have hr:=fun r h=>(hr r h).mono hle1
  refine oj_run TT rfl ?_
  (repeat (first | refine cj_seq ?_ | refine cjr TT rfl ?_ | refine oj_then ?_ | refine cj_block ?_))
  refine cj_cutB (fun (_:Option Addr×Nat)=>σ1) (fun s=>[(6,.a (.v (.slice s.1 (allRecs rs).length s.2)))]) (fun _=>[]) (fun s=>[rE s.1 (allRecs rs).length s.2 (allRecs rs)]) 0 (fun s=>(allRecs rs).length<=s.2) ?_ (fun s hs=>?_)
  · refine cj_loop (fun (_:CcS)=>σ1) (fun s=>[(6,.a (.v (.slice s.bo (allRecs (rs.take s.j)).length s.bc))),(25,.a (.v (.slice ao rs.length cap))),(26,.a (.v (.int .i64 rs.length))),(27,.a (.v (.int .i64 (s.j:Nat))))]) (fun _=>[]) (fun s=>[rE s.bo (allRecs (rs.take s.j)).length s.bc (allRecs (rs.take s.j))]) 0
      (fun s=>s.j<=rs.length/\(allRecs (rs.take s.j)).length<=s.bc) (fun s=>rs.length - s.j) ⟨0,bo,bc⟩ ⟨Nat.zero_le _,Nat.zero_le _⟩ rfl (by (repeat first | exact trivial | refine ⟨rfl,?_⟩)) (by (repeat first | exact trivial | refine ⟨rfl,?_⟩)) rfl (by (repeat' (first | exact trivial | constructor))) (by (repeat' exact trivial)) fun ⟨j,bo,bc⟩ ⟨hj,hbc⟩=>?_
    dsimp only at hj hbc ⊢
    (repeat (first | refine cj_seq ?_ | refine cjr TT rfl ?_ | refine oj_then ?_))
    refine cj_if rfl (fun h=>?_) (fun h=>?_)
    rotate_left
    · have hj0:j=rs.length:=by have:=of_decide_eq_false h;omega
      subst hj0
      rw [List.take_length] at hbc ⊢
      (repeat (first | refine cj_exit ?_ | refine nj_then_exit ?_ | refine nj_block_out ?_))
      refine nj_again (bo,bc) hbc Nat.zero_lt_one rfl (by (repeat first | exact trivial | refine ⟨rfl,?_⟩)) (by (repeat first | exact trivial | refine ⟨rfl,?_⟩)) rfl (by (repeat' (first | exact trivial | constructor))) (by (repeat' exact trivial))
    have hjl:j<rs.length:=by have:=of_decide_eq_true h;omega
    have hrj:=rrRows_get (List.getElem?_eq_getElem hjl)
    have hat:=allRecs_take (List.getElem?_eq_getElem hjl)
    have hrr:=hr rs[j] (List.getElem_mem hjl)
    have hle1:=allRecs_le rs j
    have hle2:=allRecs_le rs (j+1)
    have hlen:=congrArg List.length hat
    rw [List.length_append] at hlen
    generalize rs[j]=r at *
    (repeat (first | refine cj_seq ?_ | refine cjr TT rfl ?_ | refine cj_skip ?_ | refine cj_block ?_ | refine nj_then ?_))
    refine oj_idx TT rfl rfl rfl rfl rfl rfl rfl rfl rfl P (by omega) hrj (oj_run TT rfl ?_)
    (repeat (first | refine cjr TT rfl ?_ | refine oj_then ?_))
    refine oj_append_sl TT 0 rfl rfl rfl rfl rfl rfl rfl hrr rfl rfl rfl rfl rfl rfl rfl rfl rfl (fun q hq=>(recRows_all r.l q hq).2.2) (by omega) (by show ((allRecs (rs.take j)).length+r.l.length)*112<=_;omega) fun ao' cap' hcap'=>oj_run TT rfl ?_
    (repeat (first | refine cjr TT rfl ?_ | refine oj_nil ?_ | refine nj_then ?_ | refine nj_block ?_ | (refine oj_add rfl rfl rfl rfl rfl rfl (by omega) ?_;refine oj_run TT rfl ?_)))
    refine nj_again (⟨j+1,ao',cap'⟩:CcS) ⟨hjl,by dsimp only;omega⟩ (by dsimp only;omega) rfl ?_ (by (repeat first | exact trivial | refine ⟨rfl,?_⟩)) ?_ (by (repeat' (first | exact trivial | constructor))) (by (repeat' exact trivial))
    · dsimp only
      rw [hlen]
      (repeat first | exact trivial | refine ⟨rfl,?_⟩)
    · show [_]=[_]
      dsimp only
      rw [hlen,hat]
      unfold rE
      rw [recXs_append]
      rfl
  obtain ⟨bo,bc⟩:=s
  dsimp only at hs ⊢
  (repeat (first | refine cj_seq ?_ | refine cjr TT rfl ?_ | refine oj_then ?_ | refine cj_ret ?_))
  refine nj_fret TT rfl fun β w' _ _=>?_
  exact ⟨bo,bc,rfl,hs,rfl⟩
set_option maxRecDepth 100000 in
set_option maxHeartbeats 1000000 in
theorem number12_c (σ:Snap) (g:GGap) (gb:Nat) (hg:∀ (j:Nat) c,(gapCells g)[j]?=some c->σ.cell ⟨gb,j,none⟩=some c.val) (n m:Int) (h1:-1<=g.lo/\g.lo<=1099511627776) (h2:-1<=g.hi/\g.hi<=1099511627776) (hn:0<=n/\n<=1000000) (hm:0<=m/\m<=1000000) :
    PlainS Tryz.prog 62 [.a (.v (.int .i64 n)),.a (.v (.int .i64 m)),.a (.v (.pointer (some ⟨gb,0,none⟩)))] σ (fun v=>v=.int .i64 (g.lo+(g.hi - g.lo).tdiv (2*m+1)*(n+1))):=by
  have c1:=hg 1 _ rfl
  have c2:=hg 2 _ rfl
  refine enter_p Tryz.func62 rfl rfl (by (repeat' (first | exact trivial | constructor))) fun w=>?_
  (repeat (first | refine cj_seq ?_ | refine cjr TT rfl ?_ | refine oj_then ?_))
  have hq:=tdiv_bd (b:=2*m+1) (show -1099511627777<=g.hi - g.lo/\g.hi - g.lo<=1099511627777 by omega)
  have hp:=mul_bd (a:=(g.hi - g.lo).tdiv (2*m+1)) (b:=n+1) (c:=1099511627777) (d:=1000001) (by omega) (by omega)
  refine cj_draw [(0,.pure),(1,.quiet),(2,.pure),(3,.quiet),(4,.pure),(5,.quiet),(6,.pure),(7,.pure),(8,.pure),(9,.pure),(10,.pure),(11,.pure),(12,.pure),(13,.pure),(14,.pure),(15,.pure)] mixed (by kernel_rfl) (oj_run TT rfl ?_)
  refine oj_ldS (c:=.v (.int .i64 g.lo)) TT rfl rfl rfl rfl rfl rfl rfl rfl c1 trivial (oj_run TT rfl ?_)
  refine oj_ldS (c:=.v (.int .i64 g.hi)) TT rfl rfl rfl rfl rfl rfl rfl rfl c2 trivial (oj_run TT rfl ?_)
  refine oj_ldS (c:=.v (.int .i64 g.lo)) TT rfl rfl rfl rfl rfl rfl rfl rfl c1 trivial (oj_run TT rfl ?_)
  refine oj_minus rfl rfl rfl rfl rfl rfl (by omega) (oj_run TT rfl ?_)
  refine oj_mul rfl rfl rfl rfl rfl rfl (by omega) (oj_run TT rfl ?_)
  refine oj_add rfl rfl rfl rfl rfl rfl (by omega) (oj_run TT rfl ?_)
  refine oj_quo rfl rfl rfl rfl rfl rfl (by omega) (by omega) (oj_run TT rfl ?_)
  refine oj_add rfl rfl rfl rfl rfl rfl (by omega) (oj_run TT rfl ?_)
  refine oj_mul rfl rfl rfl rfl rfl rfl (by omega) (oj_run TT rfl ?_)
  refine oj_add rfl rfl rfl rfl rfl rfl (by omega) (oj_run TT rfl ?_)
  (repeat (first | refine oj_then ?_ | refine cj_ret ?_))
  refine nj_ret TT rfl fun β w' _ _=>?_
  rfl
end Go.Sy
namespace Go.Sy
open Go.Proofs
def lift (d:Int) (ν:Int->Int) (r:GRec):GRec:=⟨ν (r.st - 1),ν (r.en - 1),r.lv+d,r.kd,r.nm,r.name,r.b,r.n,r.s⟩
def reName (nm:Bool) (name:ByteArray) (r:GRec):GRec:=⟨r.st,r.en,r.lv,r.kd,nm,name,r.b,r.n,r.s⟩
def nameHd (nm:Bool) (name:ByteArray):List GRec->List GRec
  | []=>[]
  | r::l=>reName nm name r::l
theorem nameHd_len (nm:Bool) (name:ByteArray) (l:List GRec):(nameHd nm name l).length=l.length:=by cases l<;>rfl
def laidG (g:GVal) (top:GRec) (ν:Int->Int):List GRec:=nameHd top.nm top.name ((shredV 1 g 0 false emptyS 0).1.map (lift top.lv ν))
def editCells (ao:Option Addr) (n cap:Nat) (fr to:Int) (top:GRec) (vr:List AT) (room:Int) (f:FuncId) (caps:List PT):List AT :=
  [.v (.slice ao n cap),.v (.int .i64 fr),.v (.int .i64 to)]++(recCells top++(vr++[.v (.int .i64 room),.fn (.func f) caps]))
def ord131_9:List (Nat×Tag):=[(0,.pure),(1,.pure),(2,.pure),(3,.pure),(4,.quiet),(5,.pure),(6,.pure),(7,.quiet),(8,.pure),(9,.pure),(10,.keep),(11,.pure),(12,.pure),(13,.sink)]
theorem fn_lt_caps {f:Fn} {caps:List PT} (h:LtAll (caps.map ptSV)) (n:Nat):(AT.fn f caps).lt n:=by
  intro p hp
  have:=h.of (ptSV p) (List.mem_map.2 ⟨p,hp,rfl⟩)
  cases p with
  | loc i o=>exact absurd this (by simp [ptSV,SV.lt,AT.lt])
  | val x=>trivial
mutual
theorem LayV.lvb:∀ {g:GVal} {lv:Int} {nm:Bool} {name:ByteArray} {lo hi:Int} {L:List GRec},LayV g lv nm name lo L hi->∀ r∈L,lv<=r.lv/\r.lv<lv+L.length
  | _,_,_,_,_,_,_,.mk h1 h2 h3 h4=>by
    intro r hr
    rw [List.length_cons]
    rcases List.mem_cons.1 hr with rfl | hr
    · dsimp only
      omega
    · have:=h2.lvb r hr
      omega
theorem LayI.lvb:∀ {xs:List Itm} {lv lo hi:Int} {L:List GRec},LayI xs lv lo L hi->∀ r∈L,lv<=r.lv/\r.lv<lv+L.length
  | _,_,_,_,_,.nil h=>by intro r hr;cases hr
  | _,_,_,_,_,.cons h1 h2=>by
    intro r hr
    rw [List.length_append]
    rcases List.mem_append.1 hr with hr | hr
    · have:=h1.lvb r hr;omega
    · have:=h2.lvb r hr;omega
end
set_option maxRecDepth 100000 in
set_option maxHeartbeats 1000000 in
theorem laid_c (σ:Snap) (g:GVal) (la:Option Addr) (lc:Nat) (lrows:List (List AT)) (ma:Option Addr) (mc:Nat) (vrows:List (List AT)) (V:VAt σ g la lc lrows ma mc vrows) (hw:g.weight<=100000) (hs:sane g=0)
    (ao:Option Addr) (n cap:Nat) (fr to:Int) (top:GRec) (htl:0<=top.lv/\top.lv<=1000000) (room:Int) (f:FuncId) (caps:List PT) (hcap:LtAll (caps.map ptSV)) (hcall:∀ args w,(callFunc f args).run Tryz.prog w=.ok (.enter f args) w)
    (ν:Int->Int) (hν:∀ σ':Snap,σ.le σ'->∀ k:Int,0<=k->k<2*((shredV 1 g 0 false emptyS 0).1.length:Nat)->PlainS Tryz.prog f (.a (.v (.int .i64 k))::.a (.v (.int .i64 ((shredV 1 g 0 false emptyS 0).1.length:Nat)))::caps.map ptSV) σ' (fun v=>v=.int .i64 (ν k))) :
    PureS Tryz.prog 140 [.agg (editCells ao n cap fr to top (vCells g la lc ma mc) room f caps)] σ (fun v σ'=>∃ bo bc,v=.slice bo (laidG g top ν).length bc/\SlAt σ' bo (laidG g top ν).length bc 11 (recRows (laidG g top ν))):=by
  have hG:=shredG_ok (g:=g) (gap:=1) (by omega) (by omega) hs
  obtain ⟨hlen1,hlen2⟩:=shredV_len 1 g 0 false emptyS 0
  have hbd:=(shredV_bd (gap:=1) (by omega) g 0 false emptyS 0).2
  have hstp:∀ r∈(shredV 1 g 0 false emptyS 0).1,0<=r.st - 1/\r.st - 1<2*((shredV 1 g 0 false emptyS 0).1.length:Nat)/\0<=r.en - 1/\r.en - 1<2*((shredV 1 g 0 false emptyS 0).1.length:Nat):=by
    intro r hr
    have h1:=(shred_lay (gap:=1) (by omega) V.rep.wf 0 false emptyS 0).bd r hr
    have h2:=hbd r hr
    rw [hlen2] at h2
    omega
  have hlvb:∀ r∈(shredV 1 g 0 false emptyS 0).1,0<=r.lv/\r.lv<=1000000:=by
    intro r hr
    have:=(shred_lay (gap:=1) (by omega) V.rep.wf 0 false emptyS 0).lvb r hr
    omega
  have hposL:0<(shredV 1 g 0 false emptyS 0).1.length:=by rw [shredV_eq];simp
  have hlaid:laidG g top ν=nameHd top.nm top.name ((shredV 1 g 0 false emptyS 0).1.map (lift top.lv ν)):=rfl
  have hfn:∀ m,(AT.fn (.func f) caps).lt m:=fn_lt_caps hcap
  have hce:∀ m,∀ c∈editCells ao n cap fr to top (vCells g la lc ma mc) room f caps,c.lt m:=by
    intro m c hc
    unfold editCells at hc
    simp only [List.mem_append,List.mem_cons,List.not_mem_nil,or_false] at hc
    rcases hc with (rfl | rfl | rfl) | hc | hc | rfl | rfl
    · trivial
    · trivial
    · trivial
    · exact recCells_lt m top c hc
    · exact vCells_lt _ _ _ _ _ _ c hc
    · trivial
    · exact hfn m
  refine enter_s Tryz.func140 rfl rfl ⟨hce 0,trivial⟩ fun w=>?_
  (repeat (first | refine cj_seq ?_ | refine cjr TT rfl ?_ | refine oj_then ?_))
  refine oj_callF [] (A0:=[]) (Ar:=[]) rfl rfl rfl rfl rfl rfl rfl Tryz.call39 ⟨vCells_lt _ _ _ _ _ _,trivial,trivial⟩ (Shred_f σ g _ 1 V.rep hw) fun v σ1 A1 hle1 ⟨E,hA,ao1,cap1,hc,hE,hv⟩=>?_
  rw [hG] at hc hE hv
  dsimp only at hc hE hv
  subst hA hE
  refine ⟨.tup [.a (.v (.slice ao1 (shredV 1 g 0 false emptyS 0).1.length cap1)),.a (.v (.int .i64 0))],(by (repeat' (first | exact trivial | refine SV.lt_tup ?_ | constructor))),hv.symm,?_⟩
  generalize (shredV 1 g 0 false emptyS 0).1=L at *
  refine oj_run TT rfl ?_
  (repeat (first | refine cj_seq ?_ | refine cjr TT rfl ?_ | refine oj_then ?_ | refine cj_block ?_))
  refine cj_arrAt 0 (E:=rE ao1 L.length cap1 L) rfl hposL fun g1 hg1=>?_
  have hg1:ao1=some ⟨g1,0,none⟩:=hg1
  subst hg1
  have had:∀ k j:Nat,some (SV.a (AT.v (.pointer (some (Addr.add (Addr.add ⟨g1,0,none⟩ ((k:Int).toNat*11)) j)))))=some (SV.a (AT.v (.pointer (some ⟨g1,k*11+j,none⟩)))):=fun k j=>by rw [add0,Addr.add_lit];rfl
  refine cj_cutB (α:=Unit) (fun _=>σ1) (fun _=>[(1,.a (.p 0 0)),(3,.a (.v (.slice (some ⟨g1,0,none⟩) L.length cap1)))])
    (fun _=>[(0,.loc 142,editCells ao n cap fr to top (vCells g la lc ma mc) room f caps)]) (fun _=>[rE (some ⟨g1,0,none⟩) L.length cap1 (L.map (lift top.lv ν))]) 1 (fun _=>True) ?_ (fun _ _=>?_)
  · refine cj_loop (fun (_:Nat)=>σ1) (fun k=>[(1,.a (.p 0 0)),(3,.a (.v (.slice (some ⟨g1,0,none⟩) L.length cap1))),(5,.a (.v (.int .i64 L.length))),(16,.a (.v (.int .i64 L.length))),(17,.a (.v (.int .i64 (k:Nat))))])
      (fun _=>[(0,.loc 142,editCells ao n cap fr to top (vCells g la lc ma mc) room f caps)]) (fun k=>[rE (some ⟨g1,0,none⟩) L.length cap1 (mkK (lift top.lv ν) L k)]) 1 (fun k=>k<=L.length) (fun k=>L.length - k) 0 (Nat.zero_le _) rfl (by (repeat first | exact trivial | refine ⟨rfl,?_⟩)) (by (repeat first | exact trivial | refine ⟨rfl,?_⟩)) rfl (by (repeat' (first | exact trivial | exact Nat.le_of_ble_eq_true rfl | constructor))) ⟨⟨Nat.zero_lt_one,hce 1⟩,trivial⟩ fun k hk=>?_
    (repeat (first | refine cj_seq ?_ | refine cjr TT rfl ?_ | refine oj_then ?_))
    refine cj_if rfl (fun h=>?_) (fun h=>?_)
    rotate_left
    · have hk0:k=L.length:=by have:=of_decide_eq_false h;omega
      subst hk0
      (repeat (first | refine cj_exit ?_ | refine nj_then_exit ?_ | refine nj_block_out ?_))
      refine nj_again () trivial Nat.zero_lt_one rfl (by (repeat first | exact trivial | refine ⟨rfl,?_⟩)) (by (repeat first | exact trivial | refine ⟨rfl,?_⟩)) ?_ (by (repeat' (first | exact trivial | exact Nat.le_of_ble_eq_true rfl | constructor))) ⟨⟨Nat.zero_lt_one,hce 1⟩,trivial⟩
      simp [mkK]
    have hkl:k<L.length:=by have:=of_decide_eq_true h;omega
    have hb:=hstp L[k] (List.getElem_mem hkl)
    have hlvk:=hlvb L[k] (List.getElem_mem hkl)
    have hM0:=mkK_get (lift top.lv ν) L k hkl
    have hS:=mkK_succ (lift top.lv ν) L k hkl
    have hlenM:=mkK_len (lift top.lv ν) L k hk
    generalize hx:L[k]=x at *
    let x1:GRec:=⟨x.st,x.en,x.lv+top.lv,x.kd,x.nm,x.name,x.b,x.n,x.s⟩
    let x2:GRec:=⟨ν (x.st - 1),x.en,x.lv+top.lv,x.kd,x.nm,x.name,x.b,x.n,x.s⟩
    have hM1:((mkK (lift top.lv ν) L k).set k x1)[k]?=some x1:=by rw [List.getElem?_set_self (by omega)]
    have hM2:((mkK (lift top.lv ν) L k).set k x2)[k]?=some x2:=by rw [List.getElem?_set_self (by omega)]
    have hS1:((mkK (lift top.lv ν) L k).set k x1).set k x2=(mkK (lift top.lv ν) L k).set k x2:=by rw [List.set_set]
    have hS2:((mkK (lift top.lv ν) L k).set k x2).set k (lift top.lv ν x)=mkK (lift top.lv ν) L (k+1):=by rw [List.set_set];exact hS
    have hoff:∀ j,j<11->k*11+j<L.length*11:=fun j hj=>by omega
    (repeat (first | refine cj_seq ?_ | refine cjr TT rfl ?_ | refine oj_then ?_ | refine cj_skip ?_ | refine cj_block ?_ | refine nj_then ?_))
    refine cj_draw [(0,.pure),(1,.pure),(2,.pure),(3,.pure),(4,.quiet),(5,.pure),(6,.pure),(7,.quiet),(8,.pure),(9,.pure),(10,.pure),(11,.sink)] mixed (by kernel_rfl) (oj_run TT rfl ?_)
    refine oj_indexAddr TT rfl rfl rfl rfl rfl rfl rfl rfl rfl ⟨by omega,by omega⟩ (oj_run TT rfl ?_)
    refine oj_ldA 0 (off:=k*11+2) (c:=.v (.int .i64 x.lv)) TT rfl rfl rfl rfl rfl (had k 2) rfl rfl rfl rfl (recXs_get hM0 rfl) trivial (oj_run TT rfl ?_)
    refine oj_add rfl rfl rfl rfl rfl rfl (by omega) (oj_run TT rfl ?_)
    refine oj_indexAddr TT rfl rfl rfl rfl rfl rfl rfl rfl rfl ⟨by omega,by omega⟩ (oj_run TT rfl ?_)
    refine oj_stA 0 (off:=k*11+2) (A':=[rE (some ⟨g1,0,none⟩) L.length cap1 ((mkK (lift top.lv ν) L k).set k x1)]) TT rfl rfl rfl rfl (had k 2) rfl rfl rfl rfl rfl (hoff 2 (by omega)) trivial rfl ?_ (oj_run TT rfl ?_)
    · show [_]=[_]
      congr 1
      unfold rE
      congr 1
      exact recXs_set (r':=x1) (.v (.int .i64 (x.lv+top.lv))) hM0 (by omega) rfl
    (repeat refine oj_then ?_)
    refine cj_draw [(0,.pure),(1,.pure),(2,.pure),(3,.pure),(4,.pure),(5,.quiet),(6,.pure),(7,.pure),(8,.pure),(9,.pure),(10,.quiet),(11,.pure),(12,.pure),(14,.pure),(15,.quiet),(16,.pure),(17,.pure),(18,.pure),(19,.pure),(20,.quiet),(21,.pure),(22,.pure),(13,.keep),(23,.keep),(24,.pure),(25,.pure),(26,.sink),(27,.pure),(28,.pure),(29,.sink)] mixed (by kernel_rfl) (oj_run TT rfl ?_)
    refine oj_indexAddr TT rfl rfl rfl rfl rfl rfl rfl rfl rfl ⟨by omega,by omega⟩ (oj_run TT rfl ?_)
    refine oj_ldA 0 (off:=k*11+0) (c:=.v (.int .i64 x.st)) TT rfl rfl rfl rfl rfl (had k 0) rfl rfl rfl rfl (recXs_get hM1 rfl) trivial (oj_run TT rfl ?_)
    refine oj_minus rfl rfl rfl rfl rfl rfl (by omega) (oj_run TT rfl ?_)
    refine oj_indexAddr TT rfl rfl rfl rfl rfl rfl rfl rfl rfl ⟨by omega,by omega⟩ (oj_run TT rfl ?_)
    refine oj_ldA 0 (off:=k*11+1) (c:=.v (.int .i64 x.en)) TT rfl rfl rfl rfl rfl (had k 1) rfl rfl rfl rfl (recXs_get hM1 rfl) trivial (oj_run TT rfl ?_)
    refine oj_minus rfl rfl rfl rfl rfl rfl (by omega) (oj_run TT rfl ?_)
    refine oj_callP (ys:=.a (.v (.int .i64 (x.st - 1)))::.a (.v (.int .i64 L.length))::caps.map ptSV) rfl rfl rfl rfl rfl hcall ⟨trivial,trivial,hcap⟩ (hν σ1 hle1 _ hb.1 hb.2.1) fun v hv=>⟨.a (.v (.int .i64 (ν (x.st - 1)))),trivial,hv.symm,?_⟩
    refine oj_run TT rfl ?_
    refine oj_callP (ys:=.a (.v (.int .i64 (x.en - 1)))::.a (.v (.int .i64 L.length))::caps.map ptSV) rfl rfl rfl rfl rfl hcall ⟨trivial,trivial,hcap⟩ (hν σ1 hle1 _ hb.2.2.1 hb.2.2.2) fun v hv=>⟨.a (.v (.int .i64 (ν (x.en - 1)))),trivial,hv.symm,?_⟩
    refine oj_run TT rfl ?_
    refine oj_indexAddr TT rfl rfl rfl rfl rfl rfl rfl rfl rfl ⟨by omega,by omega⟩ (oj_run TT rfl ?_)
    refine oj_stA 0 (off:=k*11+0) (A':=[rE (some ⟨g1,0,none⟩) L.length cap1 ((mkK (lift top.lv ν) L k).set k x2)]) TT rfl rfl rfl rfl (had k 0) rfl rfl rfl rfl rfl (hoff 0 (by omega)) trivial rfl ?_ (oj_run TT rfl ?_)
    · show [_]=[_]
      congr 1
      unfold rE
      congr 1
      rw [<-hS1]
      exact recXs_set (r':=x2) (.v (.int .i64 (ν (x.st - 1)))) hM1 (by omega) rfl
    refine oj_indexAddr TT rfl rfl rfl rfl rfl rfl rfl rfl rfl ⟨by omega,by omega⟩ (oj_run TT rfl ?_)
    refine oj_stA 0 (off:=k*11+1) (A':=[rE (some ⟨g1,0,none⟩) L.length cap1 (mkK (lift top.lv ν) L (k+1))]) TT rfl rfl rfl rfl (had k 1) rfl rfl rfl rfl rfl (hoff 1 (by omega)) trivial rfl ?_ (oj_run TT rfl ?_)
    · show [_]=[_]
      congr 1
      unfold rE
      congr 1
      rw [<-hS2]
      exact recXs_set (r':=lift top.lv ν x) (.v (.int .i64 (ν (x.en - 1)))) hM2 (by omega) rfl
    (repeat (first | refine cjr TT rfl ?_ | refine oj_nil ?_ | refine nj_then ?_ | refine nj_block ?_ | (refine oj_add rfl rfl rfl rfl rfl rfl (by omega) ?_;refine oj_run TT rfl ?_)))
    refine nj_again (k+1) hkl (by omega) rfl (by (repeat first | exact trivial | refine ⟨rfl,?_⟩)) (by (repeat first | exact trivial | refine ⟨rfl,?_⟩)) rfl (by (repeat' (first | exact trivial | exact Nat.le_of_ble_eq_true rfl | constructor))) ⟨⟨Nat.zero_lt_one,hce 1⟩,trivial⟩
  generalize hM:L.map (lift top.lv ν)=M at *
  have hMl:M.length=L.length:=by rw [<-hM,List.length_map]
  obtain ⟨m0,M1,rfl⟩:∃ m0 M1,M=m0::M1:=by
    cases M with
    | nil=>rw [List.length_nil] at hMl;omega
    | cons a b=>exact ⟨a,b,rfl⟩
  have hm0:(m0::M1)[0]?=some m0:=rfl
  rw [<-hMl]
  let m1:GRec:=⟨m0.st,m0.en,m0.lv,m0.kd,top.nm,m0.name,m0.b,m0.n,m0.s⟩
  (repeat refine cj_seq ?_)
  refine cj_drawW ord131_9 (fun β w=>StW _ σ1 [(0,.loc 142,editCells ao n cap fr to top (vCells g la lc ma mc) room f caps)] [] β w) (fun β w h=>h.dropA) mixed (by kernel_rfl) ?_
  refine ow_pure TT rfl rfl rfl rfl rfl rfl ?_
  refine ow_pure TT rfl rfl rfl rfl rfl rfl ?_
  refine ow_pure TT rfl rfl rfl rfl rfl rfl ?_
  refine ow_pure TT rfl rfl rfl rfl rfl rfl ?_
  refine ow_load TT [(0,.loc 142,editCells ao n cap fr to top (vCells g la lc ma mc) room f caps)] [] (subH_of ⟨rfl,trivial⟩) (fun _ _ h=>h) rfl rfl rfl rfl rfl ?_
  refine ow_pure TT rfl rfl rfl rfl rfl rfl ?_
  refine ow_pure TT rfl rfl rfl rfl rfl rfl ?_
  refine ow_load TT [(0,.loc 142,editCells ao n cap fr to top (vCells g la lc ma mc) room f caps)] [] (subH_of ⟨rfl,trivial⟩) (fun _ _ h=>h) rfl rfl rfl rfl rfl ?_
  refine ow_idxA TT rfl rfl rfl rfl rfl rfl rfl rfl rfl rfl ⟨by omega,by simp⟩ ?_
  refine ow_pure TT rfl rfl rfl rfl rfl rfl ?_
  refine ow_stA 0 (off:=0*11+4) (A':=[rE (some ⟨g1,0,none⟩) (m0::M1).length cap1 (m1::M1)]) TT rfl rfl rfl rfl (fun β w h=>h.dropA) (had 0 4) rfl rfl rfl rfl rfl (by show 0*11+4<(m0::M1).length*11;rw [List.length_cons];omega) trivial rfl ?_ ?_
  · rfl
  have hm1:(m1::M1)[0]?=some m1:=rfl
  refine ow_idxA TT rfl rfl rfl rfl rfl rfl rfl rfl rfl rfl ⟨by omega,by simp⟩ ?_
  refine ow_pure TT rfl rfl rfl rfl rfl rfl ?_
  refine ow_end rfl (fun β w h=>h.dropA) ?_
  refine oj_stA 0 (off:=0*11+5) (A':=[rE (some ⟨g1,0,none⟩) (m0::M1).length cap1 (reName top.nm top.name m0::M1)]) TT rfl rfl rfl rfl (had 0 5) rfl rfl rfl rfl rfl (by show 0*11+5<(m0::M1).length*11;rw [List.length_cons];omega) trivial rfl ?_ (oj_run TT rfl ?_)
  · rfl
  (repeat (first | refine cj_seq ?_ | refine cjr TT rfl ?_ | refine oj_then ?_ | refine cj_ret ?_))
  refine nj_seal 0 rfl rfl fun σ2 hle2 hS=>?_
  refine nj_ret TT rfl fun β w' _ _=>?_
  have hlc:(nameHd top.nm top.name (m0::M1)).length<=cap1:=by rw [nameHd_len,hMl];exact hc
  rw [hlaid]
  exact ⟨some ⟨g1,0,none⟩,cap1,rfl,rE_sealed hS hlc⟩
end Go.Sy
namespace Go.Sy
open Go.Proofs
structure TrS where
  σ:Snap
  m:Nat
  k:Nat
  ls:List GVal
  lr:List (List AT)
  la:Option Addr
  lc:Nat
  ks:List ByteArray
  vs:List GVal
  vr:List (List AT)
  ma:Option Addr
  mc:Nat
def TrS.bu (s:TrS):BuS:=⟨s.σ,s.m,s.k,s.ls,s.lr,s.la,s.lc,s.ks,s.vs,s.vr,s.ma,s.mc⟩
def trA (s:TrS):List AE:=[⟨s.la,s.ls.length,s.lc,28,8,s.lr.flatten.map AT.val⟩,⟨s.ma,s.ks.length,s.mc,184,9,(keyRows s.ks s.vr).flatten.map AT.val⟩]
theorem RecsFit.drop {L:List GRec} (h:RecsFit L) (k:Nat):RecsFit (L.drop k):=fun r hr=>h r (List.mem_of_mem_drop hr)
theorem RecsFit.take {L:List GRec} (h:RecsFit L) (k:Nat):RecsFit (L.take k):=fun r hr=>h r (List.mem_of_mem_take hr)
set_option maxRecDepth 100000 in
set_option maxHeartbeats 1000000 in
theorem tree_c:∀ (n:Nat) (σ:Snap) (L:List GRec) (ao:Option Addr) (cap:Nat),RecsFit L->L.length<=100000->SlAt σ ao L.length cap 11 (recRows L)->0<L.length->2*L.length<=n ->
    PureS Tryz.prog 202 [.a (.v (.slice ao L.length cap))] σ (fun v σ'=>∃ r,v=(SV.agg r).den β0/\RepV σ' (treeN n L) r):=by
  intro n
  induction n using Nat.strongRecOn with | _ n ih=>?_
  intro σ L ao cap hF hL H hpos hn
  obtain ⟨n,rfl⟩:∃ m,n=m+1:=⟨n - 1,by omega⟩
  have hdc:L=L[0]::L.drop 1:=by
    have:=List.drop_eq_getElem_cons hpos
    rw [List.drop_zero] at this
    exact this
  have hrow:(recRows L)[0]?=some (recCells L[0]):=recRows_get (List.getElem?_eq_getElem hpos)
  have hfit:=hF _ (List.getElem_mem hpos)
  have hcap:=H.ncap
  have htr:treeN (n+1) L=.mk L[0].kd L[0].b L[0].n L[0].s (forestN n (L.drop 1)).ls (forestN n (L.drop 1)).ks (forestN n (L.drop 1)).vs:=by
    conv=>lhs;rw [hdc]
    rw [treeN]
  rw [htr]
  generalize hx:L[0]=x at *
  refine enter_s Tryz.func202 rfl rfl (by (repeat' (first | exact trivial | constructor))) fun w=>?_
  (repeat (first | refine cj_seq ?_ | refine cjr TT rfl ?_ | refine oj_then ?_))
  refine oj_idx TT rfl rfl rfl rfl rfl rfl rfl rfl rfl H (by omega) hrow (oj_run TT rfl ?_)
  (repeat (first | refine cj_seq ?_ | refine cjr TT rfl ?_ | refine oj_then ?_ | refine cj_block ?_))
  refine cj_nilarr 28 8 (cj_nilarr 184 9 ?_)
  refine cj_cutB (fun (s:TrS)=>s.σ) (fun _=>[(2,.a (.p 0 0)),(4,.a (.p 3 0))])
    (fun s=>[(0,.loc 28,zeroV),(3,.loc 28,buCells x s.bu)]) trA 4
    (fun s=>σ.le s.σ/\s.ls=(forestN n (L.drop 1)).ls/\s.ks=(forestN n (L.drop 1)).ks/\s.vs=(forestN n (L.drop 1)).vs /\
      RepL s.σ s.ls s.lr/\RepL s.σ s.vs s.vr/\s.ks.length=s.vs.length/\s.ls.length+s.ks.length<=L.length/\(∀ y∈s.ks,y.size<=mostLen)/\s.ls.length<=s.lc/\s.ks.length<=s.mc) ?_
    (fun s ⟨hs,e1,e2,e3,hR1,hR2,hkv,hlen,hky,hc1,hc2⟩=>?_)
  · refine cj_loop (fun (s:TrS)=>s.σ) (fun s=>[(0,.a (.v (.slice ao L.length cap))),(2,.a (.p 0 0)),(4,.a (.p 3 0)),(5,.a (.v (.int .i64 (s.k:Nat))))])
      (fun s=>[(0,.loc 28,zeroV),(3,.loc 28,buCells x s.bu)]) trA 4
      (fun s=>σ.le s.σ/\s.ls++(forestN s.m (L.drop s.k)).ls=(forestN n (L.drop 1)).ls/\s.ks++(forestN s.m (L.drop s.k)).ks=(forestN n (L.drop 1)).ks/\s.vs++(forestN s.m (L.drop s.k)).vs=(forestN n (L.drop 1)).vs /\
        s.m<=n/\2*(L.drop s.k).length+1<=s.m /\
        RepL s.σ s.ls s.lr/\RepL s.σ s.vs s.vr/\s.ks.length=s.vs.length/\0<s.k/\s.k<=L.length/\s.ls.length+s.ks.length+(L.length - s.k)<=L.length/\(∀ y∈s.ks,y.size<=mostLen)/\s.ls.length<=s.lc/\s.ks.length<=s.mc)
      (fun s=>L.length - s.k) ⟨σ,n,1,[],[],none,0,[],[],[],none,0⟩ ⟨Snap.le_refl _,rfl,rfl,rfl,Nat.le_refl _,by dsimp only;rw [List.length_drop];omega,rfl,rfl,rfl,by dsimp only;omega,by dsimp only;omega,by dsimp only [List.length_nil];omega,fun y h=>(by cases h),Nat.le_refl _,Nat.le_refl _⟩
      rfl (by (repeat first | exact trivial | refine ⟨rfl,?_⟩)) (by (repeat first | exact trivial | refine ⟨rfl,?_⟩)) rfl (by (repeat' (first | exact trivial | exact Nat.le_of_ble_eq_true rfl | constructor))) (by (repeat' (first | exact trivial | exact Nat.le_of_ble_eq_true rfl | refine AllLt.of ?_ | constructor))) fun ⟨s,m,k1,ls,lr,la,lc,ks,vs,vr,ma,mc⟩ ⟨hs,e1,e2,e3,hm,hm2,hR1,hR2,hkv,hk1,hk2,hlen,hky,hc1,hc2⟩=>?_
    dsimp only at hs e1 e2 e3 hm hm2 hR1 hR2 hkv hk1 hk2 hlen hky hc1 hc2 ⊢
    obtain ⟨m,rfl⟩:∃ m',m=m'+1:=⟨m - 1,by omega⟩
    (repeat (first | refine cj_seq ?_ | refine cjr TT rfl ?_ | refine oj_then ?_))
    refine cj_if rfl (fun h=>?_) (fun h=>?_)
    rotate_left
    · have hk0:k1=L.length:=by have:=of_decide_eq_false h;omega
      subst hk0
      rw [List.drop_length,forestN] at e1 e2 e3
      simp only [List.append_nil] at e1 e2 e3
      (repeat (first | refine cj_exit ?_ | refine nj_then_exit ?_ | refine nj_block_out ?_))
      refine nj_again ⟨s,m,L.length,ls,lr,la,lc,ks,vs,vr,ma,mc⟩ ⟨hs,e1,e2,e3,hR1,hR2,hkv,by dsimp only;omega,hky,hc1,hc2⟩ Nat.zero_lt_one rfl (by (repeat first | exact trivial | refine ⟨rfl,?_⟩)) (by (repeat first | exact trivial | refine ⟨rfl,?_⟩)) rfl (by (repeat' (first | exact trivial | exact Nat.le_of_ble_eq_true rfl | constructor))) (by (repeat' (first | exact trivial | exact Nat.le_of_ble_eq_true rfl | refine AllLt.of ?_ | constructor)))
    have hkl:k1<L.length:=by have:=of_decide_eq_true h;omega
    have hd1:L.drop k1=L[k1]::L.drop (k1+1):=List.drop_eq_getElem_cons hkl
    have hLk:L[k1]?=some L[k1]:=List.getElem?_eq_getElem hkl
    have hrow1:(recRows L)[k1]?=some (recCells L[k1]):=recRows_get hLk
    have hfit1:=hF _ (List.getElem_mem hkl)
    have Hs:=H.mono hs
    generalize hy:L[k1]=y at *
    rw [hd1,forestN] at e1 e2 e3
    have hrl:=runL_le y.en (L.drop (k1+1))
    rw [List.length_drop] at hrl
    (repeat (first | refine cj_seq ?_ | refine cjr TT rfl ?_ | refine oj_then ?_ | refine cj_skip ?_ | refine cj_block ?_ | refine nj_then ?_ | (refine oj_add rfl rfl rfl rfl rfl rfl (by omega) ?_;refine oj_run TT rfl ?_)))
    refine cj_cutB (α:=Unit) (fun _=>s) (fun _=>[(0,.a (.v (.slice ao L.length cap))),(2,.a (.p 0 0)),(4,.a (.p 3 0)),(5,.a (.v (.int .i64 k1))),(6,.a (.v (.int .i64 (k1+1+runL y.en (L.drop (k1+1)):Nat))))])
      (fun _=>[(0,.loc 28,zeroV),(3,.loc 28,[.v (.int .i64 x.kd),.b x.b,.b x.n.neg,.v (.string x.n.dg),.v (.int .i64 x.n.ex),.v (.string x.s),.v (.slice la ls.length lc),.v (.slice ma ks.length mc)])]) (fun _=>[⟨la,ls.length,lc,28,8,lr.flatten.map AT.val⟩,⟨ma,ks.length,mc,184,9,(keyRows ks vr).flatten.map AT.val⟩]) 4 (fun _=>True) ?_ (fun _ _=>?_)
    · refine cj_loop (fun _=>s) (fun (j:Nat)=>[(0,.a (.v (.slice ao L.length cap))),(2,.a (.p 0 0)),(4,.a (.p 3 0)),(5,.a (.v (.int .i64 k1))),(6,.a (.v (.int .i64 (j:Nat))))])
        (fun _=>[(0,.loc 28,zeroV),(3,.loc 28,[.v (.int .i64 x.kd),.b x.b,.b x.n.neg,.v (.string x.n.dg),.v (.int .i64 x.n.ex),.v (.string x.s),.v (.slice la ls.length lc),.v (.slice ma ks.length mc)])]) (fun _=>[⟨la,ls.length,lc,28,8,lr.flatten.map AT.val⟩,⟨ma,ks.length,mc,184,9,(keyRows ks vr).flatten.map AT.val⟩]) 4
        (fun j=>j<=L.length/\runK L y.en j=runK L y.en (k1+1)) (fun j=>L.length - j) (k1+1) ⟨hkl,rfl⟩ rfl (by (repeat first | exact trivial | refine ⟨rfl,?_⟩)) (by (repeat first | exact trivial | refine ⟨rfl,?_⟩)) rfl (by (repeat' (first | exact trivial | exact Nat.le_of_ble_eq_true rfl | constructor))) (by (repeat' (first | exact trivial | exact Nat.le_of_ble_eq_true rfl | refine AllLt.of ?_ | constructor))) fun j ⟨hj,hp⟩=>?_
      have hrk:runK L y.en (k1+1)=k1+1+runL y.en (L.drop (k1+1)):=rfl
      (repeat refine cj_seq ?_)
      refine cj_draw [(0,.pure),(1,.pure),(2,.pure),(3,.pure),(4,.pure),(5,.pure),(6,.pure),(7,.pure),(8,.pure),(9,.quiet),(10,.pure),(11,.pure),(12,.pure),(13,.pure),(14,.quiet),(15,.pure),(16,.pure)] mixed (by kernel_rfl) (oj_run TT rfl ?_)
      refine oj_split 30 rfl (fun h=>?_) (fun h=>?_)
      rotate_left
      · have hj0:j=L.length:=by have:=of_decide_eq_false h;omega
        subst hj0
        rw [runK_end] at hp
        refine oj_run TT rfl ?_
        (repeat (first | refine oj_then ?_ | refine cj_if_f rfl ?_ | refine cj_exit ?_ | refine nj_then_exit ?_ | refine nj_block_out ?_))
        rw [<-hrk,<-hp]
        refine nj_again () trivial Nat.zero_lt_one rfl (by (repeat first | exact trivial | refine ⟨rfl,?_⟩)) (by (repeat first | exact trivial | refine ⟨rfl,?_⟩)) rfl (by (repeat' (first | exact trivial | exact Nat.le_of_ble_eq_true rfl | constructor))) (by (repeat' (first | exact trivial | exact Nat.le_of_ble_eq_true rfl | refine AllLt.of ?_ | constructor)))
      have hjl:j<L.length:=by have:=of_decide_eq_true h;omega
      have hrowj:=recRows_get (List.getElem?_eq_getElem hjl)
      rw [runK_step L y.en hjl] at hp
      generalize L[j]=z at *
      refine oj_run TT rfl ?_
      refine oj_idx TT rfl rfl rfl rfl rfl rfl rfl rfl rfl Hs (by omega) hrowj (oj_run TT rfl ?_)
      refine oj_idx TT rfl rfl rfl rfl rfl rfl rfl rfl rfl Hs (by omega) hrow1 (oj_run TT rfl ?_)
      (repeat refine oj_then ?_)
      refine cj_if rfl (fun h=>?_) (fun h=>?_)
      · rw [if_pos (of_decide_eq_true h)] at hp
        (repeat (first | refine cjr TT rfl ?_ | refine oj_nil ?_ | refine cj_skip ?_ | refine cj_block ?_ | refine nj_then ?_ | refine nj_block ?_ | (refine oj_add rfl rfl rfl rfl rfl rfl (by omega) ?_;refine oj_run TT rfl ?_)))
        refine nj_again (j+1) ⟨hjl,hp⟩ (by omega) rfl (by (repeat first | exact trivial | refine ⟨rfl,?_⟩)) (by (repeat first | exact trivial | refine ⟨rfl,?_⟩)) rfl (by (repeat' (first | exact trivial | exact Nat.le_of_ble_eq_true rfl | constructor))) (by (repeat' (first | exact trivial | exact Nat.le_of_ble_eq_true rfl | refine AllLt.of ?_ | constructor)))
      · rw [if_neg (of_decide_eq_false h)] at hp
        (repeat (first | refine cj_exit ?_ | refine nj_then_exit ?_ | refine nj_block_out ?_))
        rw [<-hrk,<-hp]
        refine nj_again () trivial Nat.zero_lt_one rfl (by (repeat first | exact trivial | refine ⟨rfl,?_⟩)) (by (repeat first | exact trivial | refine ⟨rfl,?_⟩)) rfl (by (repeat' (first | exact trivial | exact Nat.le_of_ble_eq_true rfl | constructor))) (by (repeat' (first | exact trivial | exact Nat.le_of_ble_eq_true rfl | refine AllLt.of ?_ | constructor)))
    generalize hq:runL y.en (L.drop (k1+1))=q at *
    have hsub:=Hs.sub (l:=k1) (k:=k1+1+q) (by omega) (by omega)
    have hrs:((recRows L).take (k1+1+q)).drop k1=recRows (y::(L.drop (k1+1)).take q):=by
      have:y::(L.drop (k1+1)).take q=(L.drop k1).take (q+1):=by rw [hd1,List.take_succ_cons]
      rw [this]
      unfold recRows
      rw [List.drop_take,<-List.map_drop,<-List.map_take]
      congr 2
      omega
    have hsl:(y::(L.drop (k1+1)).take q).length=k1+1+q - k1:=by
      rw [List.length_cons,List.length_take,List.length_drop]
      omega
    rw [hrs,<-hsl] at hsub
    have hsf:RecsFit (y::(L.drop (k1+1)).take q):=fun r hr=>by
      rcases List.mem_cons.1 hr with rfl | hr
      · exact hfit1
      · exact hF r (List.mem_of_mem_drop (List.mem_of_mem_take hr))
    have hdl1:(L.drop k1).length=L.length - k1:=List.length_drop
    (repeat (first | refine cj_seq ?_ | refine cjr TT rfl ?_))
    refine oj_slice TT k1 (k1+1+q) rfl rfl rfl rfl rfl rfl rfl rfl rfl rfl (.inr ⟨_,_,rfl,rfl⟩) (.inr ⟨_,_,rfl,rfl⟩) (by omega) (by omega) hcap (oj_run TT rfl ?_)
    rw [<-hsl]
    refine oj_callS rfl rfl rfl rfl rfl Tryz.call202 (by (repeat' (first | exact trivial | constructor))) (ih m (by omega) s _ _ _ hsf (by omega) hsub (by rw [List.length_cons];omega) (by omega)) fun v σ2 hle2 ⟨rr,hv,hrep⟩=>⟨.agg rr,hrep.clo,hv.symm,?_⟩
    generalize treeN m (y::(L.drop (k1+1)).take q)=gx at *
    obtain ⟨xla,xlc,xlrows,xma,xmc,xvrows,rfl,XV⟩:=hrep.open
    have hs2:=Snap.le_trans hs hle2
    have Hs2:=H.mono hs2
    have hR1':=hR1.mono hle2
    have hR2':=hR2.mono hle2
    have hlr:=hR1.len
    have hvr:=hR2.len
    have hdd:(L.drop (k1+1)).drop q=L.drop (k1+1+q):=by rw [List.drop_drop]
    rw [hdd] at e1 e2 e3
    refine oj_run TT rfl ?_
    (repeat (first | refine cj_seq ?_ | refine cjr TT rfl ?_ | refine oj_then ?_))
    refine oj_idx TT rfl rfl rfl rfl rfl rfl rfl rfl rfl Hs2 (by omega) hrow1 (oj_run TT rfl ?_)
    (repeat refine oj_then ?_)
    refine cj_if rfl (fun h=>?_) (fun h=>?_)
    · simp only [if_pos (show y.nm=true from h)] at e1 e2 e3
      skip
      refine cj_draw [(0,.pure),(1,.quiet),(2,.pure),(3,.pure),(4,.pure),(5,.pure),(6,.quiet),(7,.quiet),(8,.pure),(9,.keep),(10,.sink),(11,.pure),(12,.sink)] mixed (by kernel_rfl) (oj_run TT rfl ?_)
      refine oj_idx TT rfl rfl rfl rfl rfl rfl rfl rfl rfl Hs2 (by omega) hrow1 (oj_run TT rfl ?_)
      refine oj_append_lit TT 1 rfl rfl rfl rfl rfl rfl rfl rfl rfl rfl rfl rfl rfl rfl rfl rfl rfl rfl (by (repeat' (first | exact trivial | refine AllLt.of ?_ | constructor))) rfl (by omega) (by show (ks.length+1)*128<=_;omega) fun ao' cap' hcap'=>oj_run TT rfl ?_
      (repeat (first | refine cjr TT rfl ?_ | refine oj_then ?_ | refine oj_nil ?_ | refine nj_block ?_))
      refine nj_again ⟨σ2,m,k1+1+q,ls,lr,la,lc,ks++[y.name],vs++[gx],vr++[vCells gx xla xlc xma xmc],ao',cap'⟩
        ⟨hs2,e1,by rw [List.append_assoc];exact e2,by rw [List.append_assoc];exact e3,by dsimp only;omega,by dsimp only;rw [List.length_drop];omega,hR1',RepL.append hR2' ⟨_,_,rfl,hrep,rfl⟩,by simp [hkv],by dsimp only;omega,by dsimp only;omega,by dsimp only;rw [List.length_append,List.length_singleton];omega,
          fun z hz=>by
            rcases List.mem_append.1 hz with hz | hz
            · exact hky z hz
            · rw [List.mem_singleton.1 hz];exact hfit1.2.2,hc1,by dsimp only;rw [List.length_append];exact hcap'⟩ (by dsimp only;omega) rfl (by (repeat first | exact trivial | refine ⟨rfl,?_⟩)) ?_ ?_ (by (repeat' (first | exact trivial | exact Nat.le_of_ble_eq_true rfl | constructor))) (by (repeat' (first | exact trivial | exact Nat.le_of_ble_eq_true rfl | refine AllLt.of ?_ | constructor)))
      · refine ⟨rfl,?_,trivial⟩
        show some _=some _
        unfold buCells TrS.bu
        rw [List.length_append]
        rfl
      · unfold trA
        dsimp only
        rw [keyRows_snoc _ _ _ _ (by omega),List.length_append]
        simp only [List.flatten_append,List.map_append,List.flatten_cons,List.flatten_nil,List.append_nil]
        rfl
    · simp only [if_neg (show ¬ y.nm=true by simp [show y.nm=false from h])] at e1 e2 e3
      (repeat refine cjr TT rfl ?_)
      refine oj_append_lit TT 0 rfl rfl rfl rfl rfl rfl rfl rfl rfl rfl rfl rfl rfl rfl rfl rfl rfl rfl (by (repeat' exact vCells_lt _ _ _ _ _ _)) rfl (by omega) (by show (ls.length+1)*112<=_;omega) fun ao' cap' hcap'=>oj_run TT rfl ?_
      (repeat (first | refine cjr TT rfl ?_ | refine oj_then ?_ | refine oj_nil ?_ | refine nj_block ?_))
      refine nj_again ⟨σ2,m,k1+1+q,ls++[gx],lr++[vCells gx xla xlc xma xmc],ao',cap',ks,vs,vr,ma,mc⟩
        ⟨hs2,by rw [List.append_assoc];exact e1,e2,e3,by dsimp only;omega,by dsimp only;rw [List.length_drop];omega,RepL.append hR1' ⟨_,_,rfl,hrep,rfl⟩,hR2',hkv,by dsimp only;omega,by dsimp only;omega,by dsimp only;rw [List.length_append,List.length_singleton];omega,
          hky,by dsimp only;rw [List.length_append];exact hcap',hc2⟩ (by dsimp only;omega) rfl (by (repeat first | exact trivial | refine ⟨rfl,?_⟩)) ?_ ?_ (by (repeat' (first | exact trivial | exact Nat.le_of_ble_eq_true rfl | constructor))) (by (repeat' (first | exact trivial | exact Nat.le_of_ble_eq_true rfl | refine AllLt.of ?_ | constructor)))
      · refine ⟨rfl,?_,trivial⟩
        show some _=some _
        unfold buCells TrS.bu
        rw [List.length_append]
        rfl
      · unfold trA
        dsimp only
        rw [List.length_append]
        simp only [List.flatten_append,List.map_append,List.flatten_cons,List.flatten_nil,List.append_nil]
        rfl
  obtain ⟨s,m,k1,ls,lr,la,lc,ks,vs,vr,ma,mc⟩:=s
  dsimp only at hs e1 e2 e3 hR1 hR2 hkv hlen hky hc1 hc2 ⊢
  rw [<-e1,<-e2,<-e3]
  clear e1 e2 e3
  have hlr:=hR1.len
  have hvr:=hR2.len
  (repeat (first | refine cj_seq ?_ | refine cjr TT rfl ?_ | refine oj_then ?_ | refine cj_ret ?_))
  refine nj_seal 0 rfl rfl fun σ1 hle1 hS1=>?_
  refine nj_seal 0 rfl rfl fun σ2 hle2 hS2=>?_
  refine nj_ret TT rfl fun β w' _ _=>?_
  have S1:=(hS1.sl (rows:=lr) (sz:=8) rfl (fun r hr=>⟨(hR1.rows r hr).1,(hR1.rows r hr).2.1⟩) hlr rfl hc1).mono hle2
  have S2:=hS2.sl (rows:=keyRows ks vr) (sz:=9) (n:=ks.length) rfl (fun r hr=>?_) (keyRows_len (by omega)) rfl hc2
  · refine ⟨buCells x ⟨s,m,k1,ls,lr,la,lc,ks,vs,vr,ma,mc⟩,rfl,?_⟩
    simp only [RepV]
    exact ⟨la,lc,lr,ma,mc,vr,rfl,S1,(hR1.mono hle1).mono hle2,hkv,S2,(hR2.mono hle1).mono hle2,hfit.1,hfit.2.1,by simp only [mostLen];omega,by simp only [mostLen];omega,hky⟩
  · obtain ⟨j,hj⟩:=List.getElem?_of_mem hr
    have hjl:=(List.getElem?_eq_some_iff.1 hj).1
    rw [keyRows_len (by omega)] at hjl
    have hg:=keyRows_get (List.getElem?_eq_getElem hjl) (List.getElem?_eq_getElem (l:=vr) (i:=j) (by omega))
    rw [hg] at hj
    injection hj with hj
    subst hj
    have:=hR2.rows _ (List.getElem_mem (l:=vr) (n:=j) (by omega))
    exact ⟨by simp [keyRow,this.1],keyRow_lt this.2.1⟩
end Go.Sy
namespace Go.Sy
open Go.Proofs
def anA (gO gR gL g1:Nat) (cap:Nat) (oo:Option Addr) (oc:Nat) (s:RnS):List AE :=
  [boxE gO 74 (.slice oo s.op.length oc),boxE gR 3 (.int .i64 s.ord),boxE gL 32 (.slice (some ⟨g1,0,none⟩) s.L.length cap),kdE oo oc s.op.reverse,rE (some ⟨g1,0,none⟩) s.L.length cap s.L]
theorem intVs'_get {o:List Nat} {i:Nat} {k:Nat} (h:o[i]?=some k):(intVs' o)[i]?=some (AT.v (.int .i64 k)).val:=by unfold intVs';rw [List.getElem?_map,h];rfl
set_option maxRecDepth 100000 in
set_option maxHeartbeats 1000000 in
theorem shut_c (σ:Snap) (gO gR gL g1 cap:Nat) (lv:Int) (h0:0<=lv) (oo:Option Addr) (oc:Nat) (L:List GRec) (op:List Nat) (ord:Int) (hL:L.length<=1000000) (hop:∀ t∈op,t<L.length) (hol:op.length<=1000000) (hoc:op.length<=oc) (ho:0<=ord) (hob:ord+op.length<=1000000000) :
    FnS Tryz.prog 201 (.a (.v (.int .i64 lv))::[ptrTo gO,ptrTo gR,ptrTo gL].map ptSV) σ (anA gO gR gL g1 cap oo oc ⟨L,op,ord⟩) (fun v _ A'=>v=.tuple #[]/\A'=anA gO gR gL g1 cap oo oc (shutS lv L op ord)):=by
  refine enter_f Tryz.func201 rfl rfl ⟨trivial,trivial,trivial,trivial,trivial⟩ fun w=>?_
  (repeat refine cj_block ?_)
  refine cj_loop (fun (_:RnS)=>σ) (fun _=>[(0,.a (.v (.int .i64 lv))),(1,.a (.v (.pointer (some ⟨gO,0,none⟩)))),(2,.a (.v (.pointer (some ⟨gR,0,none⟩)))),(3,.a (.v (.pointer (some ⟨gL,0,none⟩))))]) (fun _=>[]) (fun s=>anA gO gR gL g1 cap oo oc s) 0
    (fun s=>shutS lv s.L s.op s.ord=shutS lv L op ord/\s.L.length=L.length/\(∀ t∈s.op,t<L.length)/\s.op.length<=op.length/\0<=s.ord/\s.ord+s.op.length<=1000000000) (fun s=>s.op.length) ⟨L,op,ord⟩ ⟨rfl,rfl,hop,Nat.le_refl _,ho,hob⟩ rfl (by (repeat first | exact trivial | refine ⟨rfl,?_⟩)) (by (repeat first | exact trivial | refine ⟨rfl,?_⟩)) rfl (by (repeat' (first | exact trivial | constructor))) (by (repeat' exact trivial)) fun ⟨M,oq,od⟩ ⟨hp,hMl,hoq,hql,hod,hodb⟩=>?_
  dsimp only at hp hMl hoq hql hod hodb ⊢
  (repeat (first | refine cj_seq ?_ | refine cjr TT rfl ?_))
  refine oj_ldA 0 (off:=0) (c:=.v (.slice oo oq.length oc)) TT rfl rfl rfl rfl rfl rfl rfl rfl rfl rfl rfl trivial (oj_run TT rfl ?_)
  (repeat refine oj_then ?_)
  refine cj_if rfl (fun h=>?_) (fun h=>?_)
  rotate_left
  · have h:=of_decide_eq_false h
    have hq:=shutS_same (lv:=lv) M oq od (by omega)
    rw [hq] at hp
    (repeat (first | refine cj_exit ?_ | refine nj_then_exit ?_ | refine nj_block_out ?_))
    refine nj_fend TT rfl fun β w' _ _=>?_
    rw [<-hp]
    exact ⟨rfl,rfl⟩
  have h:=of_decide_eq_true h
  cases oq with
  | nil=>simp at h;omega
  | cons t oq =>
    rw [List.length_cons] at h hql hodb
    rw [shutS,if_pos (by omega)] at hp
    have ht:t<M.length:=by have:=hoq t List.mem_cons_self;omega
    have hMt:M[t]?=some M[t]:=List.getElem?_eq_getElem ht
    have hse:setEn M t od=M.set t (M[t].atEn od):=by unfold setEn;rw [hMt]
    generalize M[t]=r at *
    (repeat (first | refine cj_seq ?_ | refine cj_skip ?_ | refine cj_block ?_ | refine nj_then ?_))
    refine cj_arrAt 3 (E:=kdE oo oc (t::oq).reverse) rfl (by show 0<(t::oq).reverse.length;simp) fun go hgo=>?_
    have hgo:oo=some ⟨go,0,none⟩:=hgo
    subst hgo
    have hrev:(t::oq).reverse[oq.length]?=some t:=by
      rw [List.reverse_cons,List.getElem?_append_right (by rw [List.length_reverse];exact Nat.le_refl _),List.length_reverse,Nat.sub_self]
      rfl
    have hlr:(t::oq).reverse.length=oq.length+1:=by rw [List.length_reverse,List.length_cons]
    have had:∀ (g k j:Nat),some (SV.a (AT.v (.pointer (some (Addr.add (Addr.add ⟨g,0,none⟩ ((k:Int).toNat*11)) j)))))=some (SV.a (AT.v (.pointer (some ⟨g,k*11+j,none⟩)))):=fun g k j=>by rw [add0,Addr.add_lit];rfl
    have had1:∀ q:Nat,some (SV.a (AT.v (.pointer (some (Addr.add ⟨go,0,none⟩ ((q:Int).toNat*1))))))=some (SV.a (AT.v (.pointer (some ⟨go,q,none⟩)))):=fun q=>by
      rw [Int.toNat_natCast,add0,Nat.mul_one]
    rw [List.length_cons]
    refine cj_draw [(0,.quiet),(1,.quiet),(2,.quiet),(3,.pure),(4,.pure),(5,.pure),(6,.quiet),(7,.quiet),(8,.pure),(9,.pure),(10,.sink)] mixed (by kernel_rfl) (oj_run TT rfl ?_)
    refine oj_ldA 2 (off:=0) (c:=.v (.slice (some ⟨g1,0,none⟩) M.length cap)) TT rfl rfl rfl rfl rfl rfl rfl rfl rfl rfl rfl trivial (oj_run TT rfl ?_)
    refine oj_ldA 0 (off:=0) (c:=.v (.slice (some ⟨go,0,none⟩) (oq.length+1) oc)) TT rfl rfl rfl rfl rfl rfl rfl rfl rfl rfl rfl trivial (oj_run TT rfl ?_)
    refine oj_ldA 0 (off:=0) (c:=.v (.slice (some ⟨go,0,none⟩) (oq.length+1) oc)) TT rfl rfl rfl rfl rfl rfl rfl rfl rfl rfl rfl trivial (oj_run TT rfl ?_)
    refine oj_minus rfl rfl rfl rfl rfl rfl (by omega) (oj_run TT rfl ?_)
    rw [show ((oq.length+1:Nat):Int) - 1=((oq.length:Nat):Int) by omega]
    refine oj_run TT rfl ?_
    refine oj_indexAddr TT rfl rfl rfl rfl rfl rfl rfl rfl rfl ⟨by omega,by omega⟩ (oj_run TT rfl ?_)
    refine oj_ldA 3 (off:=oq.length) (c:=.v (.int .i64 t)) TT rfl rfl rfl rfl rfl (had1 _) rfl rfl rfl rfl (intVs'_get hrev) trivial (oj_run TT rfl ?_)
    refine oj_ldA 1 (off:=0) (c:=.v (.int .i64 od)) TT rfl rfl rfl rfl rfl rfl rfl rfl rfl rfl rfl trivial (oj_run TT rfl ?_)
    refine oj_indexAddr TT rfl rfl rfl rfl rfl rfl rfl rfl rfl ⟨by omega,by omega⟩ (oj_run TT rfl ?_)
    have hset:(recXs M).set (t*11+1) (AT.v (.int .i64 od)).val=recXs (M.set t (r.atEn od)):=recXs_set (r':=r.atEn od) (.v (.int .i64 od)) hMt (by omega) rfl
    have hsl:(M.set t (r.atEn od)).length=M.length:=List.length_set ..
    refine oj_stA 4 (off:=t*11+1) (A':=anA gO gR gL g1 cap (some ⟨go,0,none⟩) oc ⟨M.set t (r.atEn od),t::oq,od⟩) TT rfl rfl rfl rfl (had g1 t 1) rfl rfl rfl rfl rfl (by show t*11+1<M.length*11;omega) trivial rfl ?_ (oj_run TT rfl ?_)
    · show [_,_,_,_,_]=[_,_,_,_,_]
      unfold rE
      dsimp only
      rw [hset,hsl]
    rw [<-hse] at hsl ⊢
    generalize setEn M t od=M2 at *
    have hM2:M2.length=M.length:=hsl
    (repeat (first | refine cj_seq ?_ | refine cjr TT rfl ?_ | refine oj_then ?_))
    refine oj_ldA 1 (off:=0) (c:=.v (.int .i64 od)) TT rfl rfl rfl rfl rfl rfl rfl rfl rfl rfl rfl trivial (oj_run TT rfl ?_)
    refine oj_add rfl rfl rfl rfl rfl rfl (by omega) (oj_run TT rfl ?_)
    refine oj_stA 1 (off:=0) (A':=anA gO gR gL g1 cap (some ⟨go,0,none⟩) oc ⟨M2,t::oq,od+1⟩) TT rfl rfl rfl rfl rfl rfl rfl rfl rfl rfl (by show 0<1*1;omega) trivial rfl rfl (oj_run TT rfl ?_)
    (repeat (first | refine cjr TT rfl ?_ | refine oj_then ?_))
    refine oj_ldA 0 (off:=0) (c:=.v (.slice (some ⟨go,0,none⟩) (oq.length+1) oc)) TT rfl rfl rfl rfl rfl rfl rfl rfl rfl rfl rfl trivial (oj_run TT rfl ?_)
    refine oj_ldA 0 (off:=0) (c:=.v (.slice (some ⟨go,0,none⟩) (oq.length+1) oc)) TT rfl rfl rfl rfl rfl rfl rfl rfl rfl rfl rfl trivial (oj_run TT rfl ?_)
    refine oj_minus rfl rfl rfl rfl rfl rfl (by omega) (oj_run TT rfl ?_)
    rw [show ((oq.length+1:Nat):Int) - 1=((oq.length:Nat):Int) by omega]
    refine oj_run TT rfl ?_
    refine oj_slice_to TT oq.length rfl rfl rfl rfl rfl rfl rfl rfl rfl rfl (by omega) (by omega) ?_
    have hcut:(kdE (some ⟨go,0,none⟩) oc (t::oq).reverse).cut oq.length=kdE (some ⟨go,0,none⟩) oc oq.reverse:=by
      unfold AE.cut kdE
      dsimp only
      rw [Nat.mul_one,List.length_reverse]
      congr 1
      unfold intVs'
      rw [<-List.map_take,List.reverse_cons,List.take_left' (by rw [List.length_reverse])]
    refine oj_cutArr 3 oq.length rfl rfl (by show oq.length<=(t::oq).reverse.length;omega) (congrArg (fun E=>[_,_,_,E,_]) hcut) (oj_run TT rfl ?_)
    refine oj_stA 0 (off:=0) (A':=anA gO gR gL g1 cap (some ⟨go,0,none⟩) oc ⟨M2,oq,od+1⟩) TT rfl rfl rfl rfl rfl rfl rfl rfl rfl rfl (by show 0<1*1;omega) trivial rfl rfl (oj_run TT rfl ?_)
    (repeat (first | refine oj_nil ?_ | refine nj_block ?_))
    refine nj_again (⟨M2,oq,od+1⟩:RnS) ⟨hp,by dsimp only;omega,fun q hq=>hoq q (List.mem_cons_of_mem _ hq),by dsimp only;omega,by dsimp only;omega,by dsimp only;omega⟩ (by simp) rfl (by (repeat first | exact trivial | refine ⟨rfl,?_⟩)) (by (repeat first | exact trivial | refine ⟨rfl,?_⟩)) rfl (by (repeat' (first | exact trivial | constructor))) (by (repeat' exact trivial))
end Go.Sy
namespace Go.Sy
open Go.Proofs
theorem set_er {L:List GRec} {i:Nat} {r r':GRec} (h:L[i]?=some r) (he:er r'=er r):(L.set i r').map er=L.map er:=by
  apply List.ext_getElem?
  intro j
  rw [List.getElem?_map,List.getElem?_map,List.getElem?_set]
  by_cases hij:i=j
  · subst hij
    rw [if_pos rfl,if_pos (List.getElem?_eq_some_iff.1 h).1,h,Option.map_some,Option.map_some,he]
  · rw [if_neg hij]
theorem setEn_er (L:List GRec) (i:Nat) (x:Int):(setEn L i x).map er=L.map er:=by
  unfold setEn
  split
  · rename_i r h
    exact set_er h rfl
  · rfl
theorem setSt_er (L:List GRec) (i:Nat) (x:Int):(setSt L i x).map er=L.map er:=by
  unfold setSt
  split
  · rename_i r h
    exact set_er h rfl
  · rfl
theorem shutS_er:∀ (lv:Int) (L:List GRec) (op:List Nat) (ord:Int),(shutS lv L op ord).L.map er=L.map er
  | _,L,[],_=>rfl
  | lv,L,t::op,ord=>by
    rw [shutS]
    split
    · rw [shutS_er lv,setEn_er]
    · rfl
theorem shutS_op:∀ (lv:Int) (L:List GRec) (op:List Nat) (ord:Int),(∀ t∈(shutS lv L op ord).op,t∈op)/\(shutS lv L op ord).op.length<=op.length/\ord<=(shutS lv L op ord).ord/\(shutS lv L op ord).ord+(shutS lv L op ord).op.length=ord+op.length
  | _,L,[],ord=>⟨fun _ h=>h,Nat.le_refl _,Int.le_refl _,rfl⟩
  | lv,L,t::op,ord=>by
    rw [shutS]
    split
    · obtain ⟨h1,h2,h3,h4⟩:=shutS_op lv (setEn L t ord) op (ord+1)
      refine ⟨fun q hq=>List.mem_cons_of_mem _ (h1 q hq),by rw [List.length_cons];omega,by omega,?_⟩
      rw [h4,List.length_cons]
      omega
    · exact ⟨fun _ h=>h,Nat.le_refl _,Int.le_refl _,rfl⟩
structure RInv (L:List GRec) (k:Nat) (s:RnS):Prop where
  er:s.L.map er=L.map er
  op:∀ t∈s.op,t<k
  ord:0<=s.ord/\s.ord+s.op.length=2*(k:Int)
  len:s.op.length<=k
theorem rinv_step {L:List GRec} {k:Nat} {s:RnS} (h:RInv L k s):RInv L (k+1) (stepR s k):=by
  obtain ⟨h1,h2,h3,h4⟩:=shutS_op (lvAt s.L k) s.L s.op s.ord
  have h5:=shutS_er (lvAt s.L k) s.L s.op s.ord
  have:=h.ord
  have:=h.len
  unfold stepR
  refine ⟨?_,fun t ht=>?_,⟨?_,?_⟩,?_⟩
  · dsimp only
    rw [setSt_er,h5,h.er]
  · dsimp only at ht
    rcases List.mem_cons.1 ht with rfl | ht
    · omega
    · have:=h.op t (h1 t ht)
      omega
  · dsimp only
    omega
  · dsimp only
    rw [List.length_cons]
    omega
  · dsimp only
    rw [List.length_cons]
    omega
theorem rinv_run (L:List GRec):∀ k,RInv L k (runR ⟨L,[],0⟩ 0 k)
  | 0=>⟨rfl,fun t h=>(by cases h),⟨Int.le_refl _,rfl⟩,Nat.le_refl _⟩
  | k+1=>by
    rw [runR_add,runR_one,Nat.zero_add]
    exact rinv_step (rinv_run L k)
theorem renum_er (L:List GRec):(renumG L).map er=L.map er:=by
  unfold renumG
  dsimp only
  rw [shutS_er,(rinv_run L L.length).er]
theorem renum_len (L:List GRec):(renumG L).length=L.length:=by
  have:=congrArg List.length (renum_er L)
  simpa using this
theorem fit_er {L M:List GRec} (h:L.map er=M.map er) (hF:RecsFit M):RecsFit L:=by
  intro r hr
  have:er r∈M.map er:=by rw [<-h];exact List.mem_map.2 ⟨r,hr,rfl⟩
  obtain ⟨q,hq,e⟩:=List.mem_map.1 this
  have h1:=congrArg GRec.n e
  have h2:=congrArg GRec.s e
  have h3:=congrArg GRec.name e
  have h1:q.n=r.n:=h1
  have h2:q.s=r.s:=h2
  have h3:q.name=r.name:=h3
  rw [<-h1,<-h2,<-h3]
  exact hF q hq
theorem recsW_map_er:∀ L:List GRec,recsW (L.map er)=recsW L
  | []=>rfl
  | r::l=>by rw [List.map_cons,recsW,recsW,recsW_map_er l];rfl
theorem recsW_er {L M:List GRec} (h:L.map er=M.map er):recsW L=recsW M:=by rw [<-recsW_map_er L,h,recsW_map_er]
def anewG (L:List GRec):List GRec×Int:=shredG (treeG (renumG L)) 8
structure NwS where
  σ:Snap
  k:Nat
  oo:Option Addr
  oc:Nat
set_option maxRecDepth 100000 in
set_option maxHeartbeats 1000000 in
theorem anew_c (σ:Snap) (L:List GRec) (hF:RecsFit L) (hpos:0<L.length) (hw:recsW L<=100000) (hlv:∀ r∈L,0<=r.lv) (ao:Option Addr) (cap:Nat) (H:SlAt σ ao L.length cap 11 (recRows L)) :
    PureS Tryz.prog 142 [.a (.v (.slice ao L.length cap))] σ (fun v σ'=>∃ bo bc,v=.tuple #[.slice bo (anewG L).1.length bc,.int .i64 (anewG L).2]/\SlAt σ' bo (anewG L).1.length bc 11 (recRows (anewG L).1)):=by
  have hL:L.length<=100000:=Nat.le_trans (recsW_len L) hw
  refine enter_s Tryz.func142 rfl rfl (by (repeat' (first | exact trivial | constructor))) fun w=>?_
  (repeat (first | refine cj_seq ?_ | refine cjr TT rfl ?_ | refine oj_then ?_))
  refine oj_callF [] (A0:=[]) (Ar:=[]) rfl rfl rfl rfl rfl rfl rfl Tryz.call76 (by (repeat' (first | exact trivial | constructor))) (CloneRec_c σ L (by omega) hpos ao cap H) fun v σ1 A1 hle1 ⟨bo,bc,hv,hbc,hA⟩=>⟨.a (.v (.slice bo L.length bc)),trivial,hv.symm,?_⟩
  subst hA
  refine oj_run TT rfl ?_
  (repeat (first | refine cj_seq ?_ | refine cjr TT rfl ?_ | refine oj_then ?_ | refine cj_block ?_))
  refine cj_arrAt 0 (E:=rE bo L.length bc L) rfl hpos fun g1 hg1=>?_
  have hg1:bo=some ⟨g1,0,none⟩:=hg1
  subst hg1
  refine cj_own 2 1 1 rfl (by (repeat' (first | exact trivial | refine AllLt.of ?_ | constructor))) rfl (by decide) fun gO=>?_
  refine cj_own 1 1 1 rfl (by (repeat' (first | exact trivial | refine AllLt.of ?_ | constructor))) rfl (by decide) fun gR=>?_
  refine cj_own 0 1 1 rfl (by (repeat' (first | exact trivial | refine AllLt.of ?_ | constructor))) rfl (by decide) fun gL=>?_
  refine cj_nilarr 3 1 ?_
  refine cj_re [1,2,3,4,0] (A':=anA gO gR gL g1 bc none 0 ⟨L,[],0⟩) rfl rfl ?_
  have hfl:∀ m,(SV.a (.fn (.func 201) [ptrTo gO,ptrTo gR,ptrTo gL])).lt m:=fun m x hx=>by
    simp only [List.mem_cons,List.not_mem_nil,or_false] at hx
    rcases hx with rfl | rfl | rfl<;>trivial
  have had:∀ (g k j:Nat),some (SV.a (AT.v (.pointer (some (Addr.add (Addr.add ⟨g,0,none⟩ ((k:Int).toNat*11)) j)))))=some (SV.a (AT.v (.pointer (some ⟨g,k*11+j,none⟩)))):=fun g k j=>by rw [add0,Addr.add_lit];rfl
  refine cj_cutB (fun (o:NwS)=>o.σ) (fun _=>[(1,.a (.v (.pointer (some ⟨gL,0,none⟩)))),(6,.a (.fn (.func 201) [ptrTo gO,ptrTo gR,ptrTo gL]))]) (fun _=>[]) (fun o=>anA gO gR gL g1 bc o.oo o.oc (runR ⟨L,[],0⟩ 0 L.length)) 3
    (fun o=>σ1.le o.σ/\(runR ⟨L,[],0⟩ 0 L.length).op.length<=o.oc) ?_ (fun o ⟨hσo,hoc⟩=>?_)
  · refine cj_loop (fun (s:NwS)=>s.σ) (fun s=>[(1,.a (.v (.pointer (some ⟨gL,0,none⟩)))),(4,.a (.v (.pointer (some ⟨gR,0,none⟩)))),(5,.a (.v (.pointer (some ⟨gO,0,none⟩)))),(6,.a (.fn (.func 201) [ptrTo gO,ptrTo gR,ptrTo gL])),(14,.a (.v (.int .i64 L.length))),(15,.a (.v (.int .i64 (s.k:Nat))))]) (fun _=>[]) (fun s=>anA gO gR gL g1 bc s.oo s.oc (runR ⟨L,[],0⟩ 0 s.k)) 3
      (fun s=>s.k<=L.length/\σ1.le s.σ/\(runR ⟨L,[],0⟩ 0 s.k).op.length<=s.oc) (fun s=>L.length - s.k) ⟨σ1,0,none,0⟩ ⟨Nat.zero_le _,Snap.le_refl _,Nat.le_refl _⟩ rfl (by (repeat first | exact trivial | refine ⟨rfl,?_⟩)) (by (repeat first | exact trivial | refine ⟨rfl,?_⟩)) rfl ⟨trivial,trivial,trivial,hfl 3,trivial,trivial,trivial⟩ trivial fun ⟨σk,k,oo,oc⟩ ⟨hk,hσ,hoc⟩=>?_
    dsimp only at hk hσ hoc ⊢
    (repeat (first | refine cj_seq ?_ | refine cjr TT rfl ?_ | refine oj_then ?_))
    refine cj_if rfl (fun h=>?_) (fun h=>?_)
    rotate_left
    · have hk0:k=L.length:=by have:=of_decide_eq_false h;omega
      subst hk0
      (repeat (first | refine cj_exit ?_ | refine nj_then_exit ?_ | refine nj_block_out ?_))
      refine nj_again (⟨σk,L.length,oo,oc⟩:NwS) ⟨hσ,hoc⟩ Nat.zero_lt_one rfl (by (repeat first | exact trivial | refine ⟨rfl,?_⟩)) (by (repeat first | exact trivial | refine ⟨rfl,?_⟩)) rfl ⟨trivial,hfl 3,trivial⟩ trivial
    have hkl:k<L.length:=by have:=of_decide_eq_true h;omega
    have hI:=rinv_run L k
    have hnext:runR ⟨L,[],0⟩ 0 (k+1)=stepR (runR ⟨L,[],0⟩ 0 k) k:=by rw [runR_add,runR_one,Nat.zero_add]
    generalize runR ⟨L,[],0⟩ 0 k=s at *
    have hMl:s.L.length=L.length:=by have:=congrArg List.length hI.er;simpa using this
    have hlk:lvAt s.L k=L[k].lv:=by
      rw [er_lv hI.er k]
      unfold lvAt
      rw [List.getElem?_eq_getElem hkl]
      rfl
    have hlk0:=hlv L[k] (List.getElem_mem hkl)
    have hMk:s.L[k]?=some (s.L[k]'(by omega)):=List.getElem?_eq_getElem _
    have hlk2:lvAt s.L k=(s.L[k]'(by omega)).lv:=by unfold lvAt;rw [hMk];rfl
    have hst:stepR s k=⟨setSt (shutS (lvAt s.L k) s.L s.op s.ord).L k (shutS (lvAt s.L k) s.L s.op s.ord).ord,k::(shutS (lvAt s.L k) s.L s.op s.ord).op,(shutS (lvAt s.L k) s.L s.op s.ord).ord+1⟩:=rfl
    rw [hst] at hnext
    clear hst
    generalize s.L[k]'(by omega)=y at *
    have hio:=hI.op
    have hord:=hI.ord
    have hlen:=hI.len
    (repeat (first | refine cj_seq ?_ | refine cjr TT rfl ?_ | refine oj_then ?_ | refine cj_skip ?_ | refine cj_block ?_ | refine nj_then ?_))
    refine oj_ldA 2 (off:=0) (c:=.v (.slice (some ⟨g1,0,none⟩) s.L.length bc)) TT rfl rfl rfl rfl rfl rfl rfl rfl rfl rfl rfl trivial (oj_run TT rfl ?_)
    refine oj_indexAddr TT rfl rfl rfl rfl rfl rfl rfl rfl rfl ⟨by omega,by omega⟩ (oj_run TT rfl ?_)
    refine oj_ldA 4 (off:=k*11+2) (c:=.v (.int .i64 y.lv)) TT rfl rfl rfl rfl rfl (had g1 k 2) rfl rfl rfl rfl (recXs_get hMk rfl) trivial (oj_run TT rfl ?_)
    have hsc:=shut_c σk gO gR gL g1 bc y.lv (by omega) oo oc s.L s.op s.ord (by omega) (fun t ht=>by have:=hio t ht;omega) (by omega) hoc (by omega) (by omega)
    refine oj_callF [0,1,2,3,4] (A0:=anA gO gR gL g1 bc oo oc s) (Ar:=[]) rfl rfl rfl rfl rfl rfl rfl Tryz.call201 ⟨trivial,trivial,trivial,trivial,trivial⟩ hsc fun v σ2 A2 hle2 ⟨hv,hA⟩=>?_
    subst hA
    refine ⟨.tup [],(by (repeat' (first | exact trivial | refine SV.lt_tup ?_))),hv.symm,?_⟩
    obtain ⟨q1,q2,q3,q4⟩:=shutS_op y.lv s.L s.op s.ord
    have q5:=shutS_len y.lv s.L s.op s.ord
    rw [hlk2] at hnext
    generalize shutS y.lv s.L s.op s.ord=t at *
    have htk:t.L[k]?=some (t.L[k]'(by omega)):=List.getElem?_eq_getElem _
    have hss:setSt t.L k t.ord=t.L.set k ((t.L[k]'(by omega)).atSt t.ord):=by unfold setSt;rw [htk]
    generalize t.L[k]'(by omega)=z at *
    have hset:(recXs t.L).set (k*11+0) (AT.v (.int .i64 t.ord)).val=recXs (t.L.set k (z.atSt t.ord)):=recXs_set (r':=z.atSt t.ord) (.v (.int .i64 t.ord)) htk (by omega) rfl
    have hsl:(t.L.set k (z.atSt t.ord)).length=t.L.length:=List.length_set ..
    refine oj_run TT rfl ?_
    (repeat (first | refine cj_seq ?_ | refine cjr TT rfl ?_ | refine oj_then ?_))
    refine oj_ldA 2 (off:=0) (c:=.v (.slice (some ⟨g1,0,none⟩) t.L.length bc)) TT rfl rfl rfl rfl rfl rfl rfl rfl rfl rfl rfl trivial (oj_run TT rfl ?_)
    refine oj_ldA 1 (off:=0) (c:=.v (.int .i64 t.ord)) TT rfl rfl rfl rfl rfl rfl rfl rfl rfl rfl rfl trivial (oj_run TT rfl ?_)
    refine oj_indexAddr TT rfl rfl rfl rfl rfl rfl rfl rfl rfl ⟨by omega,by omega⟩ (oj_run TT rfl ?_)
    refine oj_stA 4 (off:=k*11+0) (A':=anA gO gR gL g1 bc oo oc ⟨t.L.set k (z.atSt t.ord),t.op,t.ord⟩) TT rfl rfl rfl rfl (had g1 k 0) rfl rfl rfl rfl rfl (by show k*11+0<t.L.length*11;omega) trivial rfl ?_ (oj_run TT rfl ?_)
    · show [_,_,_,_,_]=[_,_,_,_,_]
      unfold rE
      dsimp only
      rw [hset,hsl]
    rw [<-hss] at hsl ⊢
    generalize setSt t.L k t.ord=M2 at *
    have hM2:M2.length=t.L.length:=hsl
    (repeat (first | refine cj_seq ?_ | refine cjr TT rfl ?_ | refine oj_then ?_))
    refine oj_ldA 1 (off:=0) (c:=.v (.int .i64 t.ord)) TT rfl rfl rfl rfl rfl rfl rfl rfl rfl rfl rfl trivial (oj_run TT rfl ?_)
    refine oj_add rfl rfl rfl rfl rfl rfl (by omega) (oj_run TT rfl ?_)
    refine oj_stA 1 (off:=0) (A':=anA gO gR gL g1 bc oo oc ⟨M2,t.op,t.ord+1⟩) TT rfl rfl rfl rfl rfl rfl rfl rfl rfl rfl (by show 0<1*1;omega) trivial rfl rfl (oj_run TT rfl ?_)
    (repeat (first | refine cjr TT rfl ?_ | refine oj_then ?_))
    refine oj_ldA 0 (off:=0) (c:=.v (.slice oo t.op.length oc)) TT rfl rfl rfl rfl rfl rfl rfl rfl rfl rfl rfl trivial (oj_run TT rfl ?_)
    have hrl:t.op.reverse.length=t.op.length:=List.length_reverse ..
    refine oj_append_lit TT 3 rfl rfl rfl rfl rfl rfl rfl rfl rfl (by show (_,_,_,_)=(_,_,_,_);unfold kdE;dsimp only;rw [hrl]) rfl rfl rfl rfl rfl rfl rfl rfl (by (repeat' (first | exact trivial | refine AllLt.of ?_ | constructor))) rfl (by omega) (by show (t.op.length+1)*8<=_;omega) fun ao' cap' hcap'=>oj_run TT rfl ?_
    have hkd:(⟨ao',t.op.length+1,cap',(kdE oo oc t.op.reverse).e,(kdE oo oc t.op.reverse).sz,(kdE oo oc t.op.reverse).xs++[AT.val (.v (.int .i64 k))]⟩:AE)=kdE ao' cap' (k::t.op).reverse:=by
      have e1:(k::t.op).reverse.length=t.op.length+1:=by rw [List.length_reverse,List.length_cons]
      unfold kdE
      rw [e1,List.reverse_cons]
      dsimp only
      unfold intVs'
      rw [List.map_append]
      rfl
    refine oj_stA 0 (off:=0) (A':=anA gO gR gL g1 bc ao' cap' ⟨M2,k::t.op,t.ord+1⟩) TT rfl rfl rfl rfl rfl rfl rfl rfl rfl rfl (by show 0<1*1;omega) trivial rfl ?_ (oj_run TT rfl ?_)
    · show [_,_,_,_,_]=[_,_,_,_,_]
      rw [<-hkd]
      rfl
    (repeat (first | refine cjr TT rfl ?_ | refine oj_nil ?_ | refine nj_then ?_ | refine nj_block ?_ | (refine oj_add rfl rfl rfl rfl rfl rfl (by omega) ?_;refine oj_run TT rfl ?_)))
    refine nj_again (⟨σ2,k+1,ao',cap'⟩:NwS) ⟨hkl,Snap.le_trans hσ hle2,by dsimp only;rw [hnext];exact hcap'⟩ (by dsimp only;omega) rfl (by (repeat first | exact trivial | refine ⟨rfl,?_⟩)) (by (repeat first | exact trivial | refine ⟨rfl,?_⟩)) ?_ ⟨trivial,trivial,trivial,hfl 3,trivial,trivial,trivial⟩ trivial
    dsimp only
    rw [hnext]
  obtain ⟨σo,ko,oo,oc⟩:=o
  dsimp only at hσo hoc ⊢
  have hI:=rinv_run L L.length
  have hren:renumG L=(shutS 0 (runR ⟨L,[],0⟩ 0 L.length).L (runR ⟨L,[],0⟩ 0 L.length).op (runR ⟨L,[],0⟩ 0 L.length).ord).L:=rfl
  have hrl:=renum_len L
  have hrf:=fit_er (renum_er L) hF
  have hrw:recsW (renumG L)=recsW L:=recsW_er (renum_er L)
  generalize runR ⟨L,[],0⟩ 0 L.length=s at *
  have hMl:s.L.length=L.length:=by have:=congrArg List.length hI.er;simpa using this
  have hio:=hI.op
  have hord:=hI.ord
  have hlen:=hI.len
  have hsc:=shut_c σo gO gR gL g1 bc 0 (by omega) oo oc s.L s.op s.ord (by omega) (fun t ht=>by have:=hio t ht;omega) (by omega) hoc (by omega) (by omega)
  (repeat (first | refine cj_seq ?_ | refine cjr TT rfl ?_))
  refine oj_callF [0,1,2,3,4] (A0:=anA gO gR gL g1 bc oo oc s) (Ar:=[]) rfl rfl rfl rfl rfl rfl rfl Tryz.call201 ⟨trivial,trivial,trivial,trivial,trivial⟩ hsc fun v σ2 A2 hle2 ⟨hv,hA⟩=>?_
  subst hA
  refine ⟨.tup [],(by (repeat' (first | exact trivial | refine SV.lt_tup ?_))),hv.symm,?_⟩
  have q5:=shutS_len 0 s.L s.op s.ord
  generalize shutS 0 s.L s.op s.ord=t at *
  have htl:t.L=renumG L:=hren.symm
  refine oj_run TT rfl ?_
  (repeat (first | refine cj_seq ?_ | refine cjr TT rfl ?_ | refine oj_then ?_))
  refine oj_ldA 2 (off:=0) (c:=.v (.slice (some ⟨g1,0,none⟩) t.L.length bc)) TT rfl rfl rfl rfl rfl rfl rfl rfl rfl rfl rfl trivial ?_
  refine oj_seal 4 rfl rfl rfl fun σ3 hle3 hS=>?_
  have hanw:anewG L=shredG (treeG (renumG L)) 8:=rfl
  rw [hanw]
  clear hren hanw
  have HT:SlAt σ3 (some ⟨g1,0,none⟩) t.L.length bc 11 (recRows t.L):=rE_sealed hS (by omega)
  rw [htl] at HT ⊢
  generalize renumG L=M at *
  have hMM:M.length=L.length:=by rw [<-htl];omega
  have htc:=tree_c (enough M) σ3 M _ bc hrf (by omega) HT (by omega) (by unfold enough;omega)
  have htw:(treeG M).weight<=100000:=Nat.le_trans (treeN_w _ M (by omega)) (by omega)
  refine oj_run TT rfl ?_
  refine oj_callS rfl rfl rfl rfl rfl Tryz.call202 (by (repeat' (first | exact trivial | constructor))) htc fun v σ4 hle4 ⟨r,hv,hrep⟩=>⟨.agg r,hrep.clo,hv.symm,?_⟩
  rw [show treeN (enough M) M=treeG M from rfl] at hrep
  generalize treeG M=gt at *
  obtain ⟨xla,xlc,xlrows,xma,xmc,xvrows,rfl,XV⟩:=hrep.open
  have hsg:shredG gt 8=if sane gt≠0 then ([],sane gt) else ((shredV 8 gt 0 false emptyS 0).1,0):=by unfold shredG;rw [if_neg (by omega)]
  refine oj_run TT rfl ?_
  (repeat (first | refine cj_seq ?_ | refine cjr TT rfl ?_ | refine oj_then ?_))
  refine oj_callP rfl rfl rfl rfl rfl Tryz.call60 (by (repeat' (first | exact trivial | exact vCells_lt _ _ _ _ _ _ | constructor))) (Sane_c σ4 gt _ XV.rep (by omega)) fun v hv=>⟨.a (.v (.int .i64 (sane gt))),trivial,hv.symm,?_⟩
  refine oj_run TT rfl ?_
  (repeat (first | refine cj_seq ?_ | refine cjr TT rfl ?_ | refine oj_then ?_))
  refine cj_if rfl (fun h=>?_) (fun h=>?_)
  · have h:sane gt≠0:=by simpa using h
    rw [if_pos h] at hsg
    rw [hsg]
    (repeat (first | refine cj_seq ?_ | refine cjr TT rfl ?_ | refine oj_then ?_ | refine cj_ret ?_ | refine nj_then_ret ?_))
    refine nj_ret TT rfl fun β w' _ _=>?_
    exact ⟨none,0,rfl,SlAt.nil _ _ _ _⟩
  · (repeat (first | refine cj_seq ?_ | refine cjr TT rfl ?_ | refine cj_skip ?_ | refine nj_then ?_))
    refine oj_callS rfl rfl rfl rfl rfl Tryz.call39 ⟨vCells_lt _ _ _ _ _ _,trivial,trivial⟩ (Shred_s σ4 gt _ 8 XV.rep htw) fun v σ5 hle5 ⟨so,sc,hv,HS⟩=>⟨.tup [.a (.v (.slice so (shredG gt 8).1.length sc)),.a (.v (.int .i64 (shredG gt 8).2))],(by (repeat' (first | exact trivial | refine SV.lt_tup ?_ | constructor))),hv.symm,?_⟩
    refine oj_run TT rfl ?_
    (repeat (first | refine oj_then ?_ | refine cj_ret ?_))
    refine nj_ret TT rfl fun β w' _ _=>?_
    exact ⟨so,sc,rfl,HS⟩
end Go.Sy
namespace Go.Sy
open Go.Proofs
structure GRes where
  l:List GRec
  laid:Int
  moved:Int
  e:Int
def spliced (L:List GRec) (fr to:Nat) (M:List GRec):List GRec:=L.take fr++(M++L.drop to)
def runG (L:List GRec) (fr to:Nat) (M:List GRec) (room:Int):GRes :=
  if (anewG (spliced L fr to M)).2≠0 then ⟨[],0,0,(anewG (spliced L fr to M)).2⟩
  else if room<2*(M.length:Int) then ⟨(anewG (spliced L fr to M)).1,M.length,(L.length:Int) - ((to:Int) - fr),0⟩ else ⟨spliced L fr to M,M.length,0,0⟩
def ord105_2:List (Nat×Tag):=[(0,.pure),(1,.quiet),(2,.pure),(3,.quiet),(4,.pure),(5,.pure),(6,.pure),(7,.quiet),(8,.pure),(9,.quiet),(10,.pure),(11,.keep),(12,.sink),(13,.pure)]
def ResOk (σ:Snap) (R:GRes) (v:Value):Prop:=∃ bo bc,v=.tuple #[.slice bo R.l.length bc,.agg #[.int .i64 R.laid,.int .i64 R.moved],.int .i64 R.e]/\SlAt σ bo R.l.length bc 11 (recRows R.l)
set_option maxRecDepth 100000 in
set_option maxHeartbeats 1000000 in
theorem run_c (σ:Snap) (g:GVal) (la:Option Addr) (lc:Nat) (lrows:List (List AT)) (ma:Option Addr) (mc:Nat) (vrows:List (List AT)) (V:VAt σ g la lc lrows ma mc vrows) (hw:g.weight<=100000) (hs:sane g=0)
    (L:List GRec) (ao:Option Addr) (cap:Nat) (H:SlAt σ ao L.length cap 11 (recRows L)) (hL:L.length<=100000) (fr to:Nat) (hft:fr<=to) (htn:to<=L.length) (top:GRec) (htl:0<=top.lv/\top.lv<=1000000) (room:Int) (f:FuncId) (caps:List PT) (hcap:LtAll (caps.map ptSV)) (hcall:∀ args w,(callFunc f args).run Tryz.prog w=.ok (.enter f args) w)
    (ν:Int->Int) (hν:∀ σ':Snap,σ.le σ'->∀ k:Int,0<=k->k<2*((shredV 1 g 0 false emptyS 0).1.length:Nat)->PlainS Tryz.prog f (.a (.v (.int .i64 k))::.a (.v (.int .i64 ((shredV 1 g 0 false emptyS 0).1.length:Nat)))::caps.map ptSV) σ' (fun v=>v=.int .i64 (ν k)))
    (hF:RecsFit (spliced L fr to (laidG g top ν))) (hW:recsW (spliced L fr to (laidG g top ν))<=100000) (hlv:∀ r∈spliced L fr to (laidG g top ν),0<=r.lv) :
    PureS Tryz.prog 63 [.agg (editCells ao L.length cap fr to top (vCells g la lc ma mc) room f caps)] σ (fun v σ'=>ResOk σ' (runG L fr to (laidG g top ν) room) v):=by
  have hML:(laidG g top ν).length=(shredV 1 g 0 false emptyS 0).1.length:=by unfold laidG;rw [nameHd_len,List.length_map]
  have hMp:0<(laidG g top ν).length:=by rw [hML,shredV_eq];simp
  have hMw:(laidG g top ν).length<=100000:=by
    rw [hML]
    exact Nat.le_trans (shredV_len 1 g 0 false emptyS 0).1 hw
  have hlc:=laid_c σ g la lc lrows ma mc vrows V hw hs ao L.length cap fr to top htl room f caps hcap hcall ν hν
  have hfn:∀ m,(AT.fn (.func f) caps).lt m:=fn_lt_caps hcap
  have hce:∀ m,∀ c∈editCells ao L.length cap fr to top (vCells g la lc ma mc) room f caps,c.lt m:=by
    intro m c hc
    unfold editCells at hc
    simp only [List.mem_append,List.mem_cons,List.not_mem_nil,or_false] at hc
    rcases hc with (rfl | rfl | rfl) | hc | hc | rfl | rfl
    · trivial
    · trivial
    · trivial
    · exact recCells_lt m top c hc
    · exact vCells_lt _ _ _ _ _ _ c hc
    · trivial
    · exact hfn m
  generalize laidG g top ν=M at *
  have hrun:runG L fr to M room=if (anewG (spliced L fr to M)).2≠0 then ⟨[],0,0,(anewG (spliced L fr to M)).2⟩
    else if room<2*(M.length:Int) then ⟨(anewG (spliced L fr to M)).1,M.length,(L.length:Int) - ((to:Int) - fr),0⟩ else ⟨spliced L fr to M,M.length,0,0⟩:=rfl
  refine enter_s Tryz.func63 rfl rfl ⟨hce 0,trivial⟩ fun w=>?_
  (repeat (first | refine cj_seq ?_ | refine cjr TT rfl ?_ | refine oj_then ?_))
  refine oj_callS rfl rfl rfl rfl rfl Tryz.call140 ⟨hce 0,trivial⟩ hlc fun v σ1 hle1 ⟨mo,mcp,hv,HM⟩=>⟨.a (.v (.slice mo M.length mcp)),trivial,hv.symm,?_⟩
  have H:=H.mono hle1
  refine oj_run TT rfl ?_
  (repeat (first | refine cj_seq ?_ | refine oj_then ?_))
  refine cj_draw ord105_2 mixed (by kernel_rfl) (oj_run TT rfl ?_)
  refine oj_slice_to TT fr rfl rfl rfl rfl rfl rfl rfl rfl rfl rfl (Nat.le_trans (by omega) H.ncap) H.ncap (oj_run TT rfl ?_)
  refine oj_slice TT to L.length rfl rfl rfl rfl rfl rfl rfl rfl rfl rfl (.inr ⟨_,_,rfl,rfl⟩) (.inl ⟨rfl,rfl⟩) htn H.ncap H.ncap (oj_run TT rfl ?_)
  refine oj_own 2 3 1 rfl (by (repeat' (first | exact trivial | refine AllLt.of ?_ | constructor))) rfl (by decide) fun g3=>?_
  have hl1:(L.take fr).length=fr:=by rw [List.length_take];omega
  have hl2:(L.drop to).length=L.length - to:=List.length_drop ..
  have hH1:=H.front (k:=fr) (by omega)
  have hH2:=H.sub (l:=to) (k:=L.length) htn (Nat.le_refl _)
  have e1:(recRows L).take fr=recRows (L.take fr):=by unfold recRows;rw [List.map_take]
  have e2:((recRows L).take L.length).drop to=recRows (L.drop to):=by
    have:L.length=(recRows L).length:=(recRows_len L).symm
    rw [this,List.take_length]
    unfold recRows
    rw [List.map_drop]
  rw [e1] at hH1
  rw [e2] at hH2
  generalize hao2:(if cap=to then ao else ao.map (·.add (to*11)))=ao2 at hH2
  have hall:allRecs [⟨ao,cap,L.take fr⟩,⟨mo,mcp,M⟩,⟨ao2,cap - to,L.drop to⟩]=spliced L fr to M:=by
    unfold allRecs spliced
    simp
  have hsplen:(spliced L fr to M).length<=1000000:=Nat.le_trans (recsW_len _) (by omega)
  refine oj_peekF (Φ:=fun v A'=>∃ bo bc,v=.slice bo (spliced L fr to M).length bc/\(spliced L fr to M).length<=bc/\A'=[rE bo (spliced L fr to M).length bc (spliced L fr to M)]) rfl rfl rfl rfl rfl Tryz.call141 (by (repeat' (first | exact trivial | constructor))) (fun σ' h1 h2=>by
    have hP:SlAt σ' (some ⟨g3,0,none⟩) 3 3 1 (rrRows [⟨ao,cap,L.take fr⟩,⟨mo,mcp,M⟩,⟨ao2,cap - to,L.drop to⟩]):=ArrSealed.sl (h2 0 _ rfl) (by
        unfold rrRows
        simp only [List.map_cons,List.map_nil]
        rw [hl1,hl2,<-hao2]
        rfl) (fun r hr=>by
        unfold rrRows at hr
        obtain ⟨q,_,rfl⟩:=List.mem_map.1 hr
        exact ⟨rfl,by (repeat' (first | exact trivial | refine AllLt.of ?_ | constructor))⟩) rfl rfl (Nat.le_refl 3)
    have:=Concat_c σ' [⟨ao,cap,L.take fr⟩,⟨mo,mcp,M⟩,⟨ao2,cap - to,L.drop to⟩] (by show 3<=1000;omega) (by rw [hall];exact hsplen) (some ⟨g3,0,none⟩) 3 hP (fun r hr=>by
      simp only [List.mem_cons,List.not_mem_nil,or_false] at hr
      rcases hr with rfl | rfl | rfl
      · dsimp only
        rw [hl1]
        exact hH1.mono h1
      · exact HM.mono h1
      · dsimp only
        rw [hl2]
        exact hH2.mono h1)
    rw [hall] at this
    exact this) fun v A' ⟨bo,bc,hv,hbc,hA⟩=>⟨.a (.v (.slice bo (spliced L fr to M).length bc)),trivial,hv.symm,?_⟩
  subst hA
  refine oj_run TT rfl ?_
  (repeat (first | refine cj_seq ?_ | refine cjr TT rfl ?_ | refine oj_then ?_))
  refine oj_seal 1 rfl rfl rfl fun σ2 hle2 hS=>?_
  have HO:=rE_sealed hS hbc
  have hspos:0<(spliced L fr to M).length:=by unfold spliced;rw [List.length_append,List.length_append];omega
  refine oj_callS rfl rfl rfl rfl rfl Tryz.call142 (by (repeat' (first | exact trivial | constructor))) (anew_c σ2 _ hF hspos hW hlv bo bc HO) fun v σ3 hle3 ⟨no,nc,hv,HN⟩=>⟨.tup [.a (.v (.slice no (anewG (spliced L fr to M)).1.length nc)),.a (.v (.int .i64 (anewG (spliced L fr to M)).2))],(by (repeat' (first | exact trivial | refine SV.lt_tup ?_ | constructor))),hv.symm,?_⟩
  have HO:=HO.mono hle3
  generalize anewG (spliced L fr to M)=N at *
  generalize spliced L fr to M=O at *
  refine oj_run TT rfl ?_
  (repeat (first | refine cj_seq ?_ | refine cjr TT rfl ?_ | refine oj_then ?_ | refine cj_block ?_))
  refine cj_if rfl (fun h=>?_) (fun h=>?_)
  · have h:N.2≠0:=by simpa using h
    rw [if_pos h] at hrun
    rw [hrun]
    (repeat (first | refine cj_seq ?_ | refine cjr TT rfl ?_ | refine oj_then ?_ | refine cj_ret ?_ | refine nj_then_ret ?_ | refine nj_block_ret ?_))
    refine nj_ret TT rfl fun β w' _ _=>?_
    exact ⟨none,0,rfl,SlAt.nil _ _ _ _⟩
  have h:N.2=0:=by simpa using h
  rw [if_neg (by simp [h])] at hrun
  (repeat (first | refine cj_seq ?_ | refine cjr TT rfl ?_))
  refine oj_mul rfl rfl rfl rfl rfl rfl (by omega) (oj_run TT rfl ?_)
  (repeat refine oj_then ?_)
  refine cj_if rfl (fun h2=>?_) (fun h2=>?_)
  · have h2:decide (room<2*(M.length:Int))=true:=h2
    rw [if_pos (of_decide_eq_true h2)] at hrun
    rw [hrun]
    (repeat refine cj_seq ?_)
    refine cj_draw [(0,.pure),(1,.pure),(2,.pure),(3,.pure),(4,.quiet),(5,.pure),(6,.pure),(7,.quiet),(8,.pure),(9,.quiet),(10,.pure),(11,.pure),(12,.pure),(13,.pure),(14,.sink),(15,.pure)] mixed (by kernel_rfl) (oj_run TT rfl ?_)
    refine oj_minus rfl rfl rfl rfl rfl rfl (by omega) (oj_run TT rfl ?_)
    refine oj_minus rfl rfl rfl rfl rfl rfl (by omega) (oj_run TT rfl ?_)
    (repeat (first | refine oj_then ?_ | refine cj_ret ?_ | refine nj_then_ret ?_ | refine nj_block_ret ?_))
    refine nj_ret TT rfl fun β w' _ _=>?_
    exact ⟨no,nc,rfl,HN⟩
  · have h2:decide (room<2*(M.length:Int))=false:=h2
    rw [if_neg (of_decide_eq_false h2)] at hrun
    rw [hrun]
    (repeat (first | refine cj_seq ?_ | refine cjr TT rfl ?_ | refine oj_then ?_ | refine cj_skip ?_ | refine cj_ret ?_ | refine nj_then ?_ | refine nj_block ?_))
    refine nj_ret TT rfl fun β w' _ _=>?_
    exact ⟨bo,bc,rfl,HO⟩
end Go.Sy
