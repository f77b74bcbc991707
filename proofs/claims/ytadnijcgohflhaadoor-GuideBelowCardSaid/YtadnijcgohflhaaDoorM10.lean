/- Parts of the proof of CGuideBelow: F36, F37, F38, F29, SyT, F30, SyU, Le. No conditions. -/
import Derived.Test.YtadnijcgohflhaaDoorM9
namespace Go.Sy
open Go.Proofs

/-! ### id, Below -/

theorem SlAt.fore {σ : Snap} {ao : Option Addr} {n cap sz : Nat} {rows : List (List AT)} (h : SlAt σ ao n cap sz rows) {k : Nat} (hk : k ≤ n) : SlAt σ ao k cap sz (rows.take k) := by
  refine ⟨by rw [List.length_take, h.len]; omega, Nat.le_trans hk h.ncap, fun r hr => h.clo r (List.mem_of_mem_take hr), ?_⟩
  rcases h.at_ with h0 | ⟨ad, h1, h2⟩
  · exact .inl (by omega)
  · refine .inr ⟨ad, h1, fun i r j c hr hc => h2 i r j c ?_ hc⟩
    rw [List.getElem?_take] at hr
    split at hr
    · exact hr
    · cases hr

set_option maxRecDepth 100000 in
set_option maxHeartbeats 1000000 in
theorem id1_c (σ : Snap) (x : GLine) (id : Int) (g : Nat) (hg : σ.cell ⟨g, 0, none⟩ = some (.int .i64 id)) :
    PlainS Tryd.prog 129 (.agg (lnCells x) :: [ptrTo g].map ptSV) σ (fun v => v = .bool (decide (x.id = id))) := by
  refine enter_p Tryd.func129 rfl rfl ⟨lnCells_lt 0 x, trivial, trivial⟩ fun w => ?_
  (repeat (first | refine cj_seq ?_ | (refine cj_region ?_; refine oj_run TT rfl ?_) | refine oj_then ?_))
  refine oj_ldS (c := .v (.int .i64 id)) TT rfl rfl rfl rfl rfl rfl rfl rfl hg trivial (oj_run TT rfl ?_)
  (repeat (first | refine oj_then ?_ | refine cj_ret ?_))
  refine nj_ret TT rfl fun β w' _ _ => ?_
  rfl

def idG (xs : List GLine) (id : Int) : Int := findG (fun x => decide (x.id = id)) xs 0
theorem idG_bd (xs : List GLine) (id : Int) : -1 ≤ idG xs id ∧ idG xs id < xs.length := by
  have := findG_bd (fun x : GLine => decide (x.id = id)) xs 0
  unfold idG
  omega
theorem cell_of {σ : Snap} {g e sz : Nat} {v : Value} (hS : ArrSealed σ ⟨some ⟨g, 0, none⟩, 1, 1, e, sz, [v]⟩) : σ.cell ⟨g, 0, none⟩ = some v := by
  rcases hS with ⟨h, _⟩ | ⟨g', h1, h2⟩
  · cases h
  · obtain rfl : g = g' := by simpa using h1
    exact h2 0 _ rfl

set_option maxRecDepth 100000 in
set_option maxHeartbeats 1000000 in
theorem id_c (σ : Snap) (xs : List GLine) (hl : xs.length ≤ 140737488355328) (ao : Option Addr) (cap : Nat) (next : Int) (H : SlAt σ ao xs.length cap 3 (lnRows xs)) (id : Int) :
    PlainS Tryd.prog 97 [.agg [.v (.slice ao xs.length cap), .v (.int .i64 next)], .a (.v (.int .i64 id))] σ (fun v => v = .int .i64 (idG xs id)) := by
  refine enter_p Tryd.func97 rfl rfl (by (repeat' (first | exact trivial | refine AllLt.of ?_ | constructor))) fun w => ?_
  (repeat (first | refine cj_seq ?_ | (refine cj_region ?_; refine oj_run TT rfl ?_) | refine oj_then ?_))
  refine oj_own 1 1 1 rfl (by (repeat' (first | exact trivial | refine AllLt.of ?_ | constructor))) rfl (by decide) fun g => ?_
  refine oj_seal 0 rfl rfl rfl fun σ1 hle1 hS => ?_
  refine oj_callP rfl rfl rfl rfl rfl Tryd.call125 ⟨(by (repeat' (first | exact trivial | refine AllLt.of ?_ | constructor))), fn_lt1 (.func 129) g 0, trivial⟩ (where_c σ1 xs hl ao cap next (H.mono hle1) 129 [ptrTo g] ⟨trivial, trivial⟩ Tryd.call129 (fun x => decide (x.id = id)) (fun x hm => id1_c σ1 x id g (cell_of hS)) (fn_lt1 (.func 129) g 0)) fun v hv => ⟨.a (.v (.int .i64 (idG xs id))), trivial, hv.symm, ?_⟩
  refine oj_run TT rfl ?_
  (repeat (first | refine oj_then ?_ | refine cj_ret ?_))
  refine nj_ret TT rfl fun β w' _ _ => ?_
  rfl

def belowQ (top : Nat) (s : List ByteArray) (k : Nat) (x : GLine) : Bool := !decide ((k : Int) = top) && decide ((x.st.length : Int) ≥ s.length) && decide (x.st.take s.length = s)

set_option maxRecDepth 100000 in
set_option maxHeartbeats 1000000 in
theorem below1_c (σ : Snap) (k : Nat) (x : GLine) (hx : LnOk σ x) (top : Nat) (s : List ByteArray) (hsl : s.length ≤ 140737488355328) (so : Option Addr) (sc : Nat) (S : SlAt σ so s.length sc 1 (strRows s)) (g1 g2 : Nat) (h1 : σ.cell ⟨g1, 0, none⟩ = some (.int .i64 top)) (h2 : σ.cell ⟨g2, 0, none⟩ = some (.slice so s.length sc)) :
    PlainS Tryd.prog 98 (.a (.v (.int .i64 k)) :: .agg (lnCells x) :: [ptrTo g1, ptrTo g2].map ptSV) σ (fun v => v = .bool (belowQ top s k x)) := by
  refine enter_p Tryd.func98 rfl rfl ⟨trivial, lnCells_lt 0 x, trivial, trivial, trivial⟩ fun w => ?_
  (repeat (first | refine cj_seq ?_ | (refine cj_region ?_; refine oj_run TT rfl ?_) | refine oj_then ?_))
  refine cj_draw [(0,.pure),(1,.quiet),(2,.pure),(3,.pure),(4,.pure),(5,.quiet),(6,.pure),(7,.quiet),(8,.pure),(9,.pure),(10,.pure),(11,.pure),(12,.pure),(13,.quiet),(14,.quiet),(15,.pure),(16,.pure),(17,.quiet),(18,.keep),(19,.pure),(20,.pure)] mixed (by kernel_rfl) (oj_run TT rfl ?_)
  refine oj_ldS (c := .v (.int .i64 top)) TT rfl rfl rfl rfl rfl rfl rfl rfl h1 trivial (oj_run TT rfl ?_)
  refine oj_split 10 rfl (fun ha => ?_) (fun ha => ?_)
  rotate_left
  · have ha : (!decide ((k : Int) = top)) = false := ha
    refine oj_run TT rfl ?_
    (repeat (first | refine oj_then ?_ | refine cj_ret ?_))
    refine nj_ret TT rfl fun β w' _ _ => ?_
    unfold belowQ
    rw [ha, Bool.false_and, Bool.false_and]
    rfl
  have ha : (!decide ((k : Int) = top)) = true := ha
  refine oj_run TT rfl ?_
  refine oj_ldS (c := .v (.slice so s.length sc)) TT rfl rfl rfl rfl rfl rfl rfl rfl h2 trivial (oj_run TT rfl ?_)
  refine oj_split 18 rfl (fun hb => ?_) (fun hb => ?_)
  rotate_left
  · have hb : decide ((x.st.length : Int) ≥ s.length) = false := hb
    refine oj_run TT rfl ?_
    (repeat (first | refine oj_then ?_ | refine cj_ret ?_))
    refine nj_ret TT rfl fun β w' _ _ => ?_
    unfold belowQ
    rw [ha, hb, Bool.true_and, Bool.false_and]
    rfl
  have hb : decide ((x.st.length : Int) ≥ s.length) = true := hb
  have hle := of_decide_eq_true hb
  have e : (x.st.take s.length).length = s.length := by rw [List.length_take]; omega
  have hX := hx.2.fore (k := s.length) (by omega)
  have e2 : (strRows x.st).take s.length = strRows (x.st.take s.length) := by unfold strRows; rw [List.map_take]
  rw [e2] at hX
  have hc := Equal_c σ (x.st.take s.length) s (by omega) x.ao so x.cap sc (by rw [e]; exact hX) S
  rw [e] at hc
  refine oj_run TT rfl ?_
  refine oj_ldS (c := .v (.slice so s.length sc)) TT rfl rfl rfl rfl rfl rfl rfl rfl h2 trivial (oj_run TT rfl ?_)
  refine oj_slice_to TT s.length rfl rfl rfl rfl rfl rfl rfl rfl rfl rfl (Nat.le_trans (by omega) hx.2.ncap) hx.2.ncap (oj_run TT rfl ?_)
  refine oj_ldS (c := .v (.slice so s.length sc)) TT rfl rfl rfl rfl rfl rfl rfl rfl h2 trivial (oj_run TT rfl ?_)
  refine oj_callP rfl rfl rfl rfl rfl Tryd.call99 (by (repeat' (first | exact trivial | constructor))) hc fun v hv => ⟨.a (.b (decide (x.st.take s.length = s))), trivial, hv.symm, ?_⟩
  refine oj_run TT rfl ?_
  (repeat (first | refine oj_then ?_ | refine cj_ret ?_))
  refine nj_ret TT rfl fun β w' _ _ => ?_
  unfold belowQ
  rw [ha, hb, Bool.true_and, Bool.true_and]
  rfl

theorem fn_lt2 (f : Fn) (g1 g2 n : Nat) : (SV.a (.fn f [ptrTo g1, ptrTo g2])).lt n := by
  intro x hx
  simp only [List.mem_cons, List.not_mem_nil, or_false] at hx
  rcases hx with rfl | rfl <;> trivial

/-- What is below the line of an ID. -/
def belowG (xs : List GLine) (id : Int) : List Int := match xs[(idG xs id).toNat]? with
  | some x => if idG xs id < 0 then [] else allG (belowQ (idG xs id).toNat x.st) xs 0
  | none => []

set_option maxRecDepth 100000 in
set_option maxHeartbeats 1000000 in
theorem Below_c (σ : Snap) (xs : List GLine) (hl : xs.length ≤ 1000000) (ao : Option Addr) (cap : Nat) (next : Int) (H : SlAt σ ao xs.length cap 3 (lnRows xs)) (hx : ∀ x ∈ xs, LnOk σ x) (id : Int) :
    PureS Tryd.prog 56 [.agg [.v (.slice ao xs.length cap), .v (.int .i64 next)], .a (.v (.int .i64 id))] σ (fun v σ' => ∃ oo oc, v = .slice oo (belowG xs id).length oc ∧ SlAt σ' oo (belowG xs id).length oc 1 (idRows (belowG xs id))) := by
  have hbd := idG_bd xs id
  have hbg : belowG xs id = match xs[(idG xs id).toNat]? with | some x => if idG xs id < 0 then [] else allG (belowQ (idG xs id).toNat x.st) xs 0 | none => [] := rfl
  refine enter_s Tryd.func56 rfl rfl (by (repeat' (first | exact trivial | refine AllLt.of ?_ | constructor))) fun w => ?_
  (repeat (first | refine cj_seq ?_ | (refine cj_region ?_; refine oj_run TT rfl ?_) | refine oj_then ?_))
  refine oj_callP rfl rfl rfl rfl rfl Tryd.call97 (by (repeat' (first | exact trivial | refine AllLt.of ?_ | constructor))) (id_c σ xs (by omega) ao cap next H id) fun v hv => ⟨.a (.v (.int .i64 (idG xs id))), trivial, hv.symm, ?_⟩
  refine oj_run TT rfl ?_
  (repeat (first | refine cj_seq ?_ | (refine cj_region ?_; refine oj_run TT rfl ?_) | refine oj_then ?_))
  refine cj_if rfl (fun h => ?_) (fun h => ?_)
  · have h := of_decide_eq_true h
    have he : belowG xs id = [] := by
      rw [hbg]
      split
      · rw [if_pos h]
      · rfl
    (repeat (first | refine cj_seq ?_ | (refine cj_region ?_; refine oj_run TT rfl ?_) | refine oj_then ?_ | refine cj_ret ?_ | refine nj_then_ret ?_))
    refine nj_ret TT rfl fun β w' _ _ => ?_
    rw [he]
    exact ⟨none, 0, rfl, SlAt.nil _ _ _ _⟩
  have h := of_decide_eq_false h
  obtain ⟨j, hj⟩ : ∃ j : Nat, idG xs id = j := ⟨(idG xs id).toNat, by omega⟩
  have hjl : j < xs.length := by omega
  have hrow := lnRows_get (List.getElem?_eq_getElem hjl)
  have hxo := hx xs[j] (List.getElem_mem hjl)
  rw [hj, Int.toNat_natCast, List.getElem?_eq_getElem hjl] at hbg
  dsimp only at hbg
  rw [if_neg (by omega)] at hbg
  rw [hj, hbg]
  generalize xs[j] = y at *
  (repeat (first | refine cj_seq ?_ | (refine cj_region ?_; refine oj_run TT rfl ?_) | refine cj_skip ?_ | refine nj_then ?_))
  refine oj_idx TT rfl rfl rfl rfl rfl rfl rfl rfl rfl H (by omega) hrow (oj_run TT rfl ?_)
  (repeat (first | refine cj_seq ?_ | (refine cj_region ?_; refine oj_run TT rfl ?_) | refine oj_then ?_))
  refine oj_own 1 1 1 rfl (by (repeat' (first | exact trivial | refine AllLt.of ?_ | constructor))) rfl (by decide) fun g1 => ?_
  refine oj_seal 0 rfl rfl rfl fun σ1 hle1 hS1 => ?_
  refine oj_own 3 1 1 rfl (by (repeat' (first | exact trivial | refine AllLt.of ?_ | constructor))) rfl (by decide) fun g2 => ?_
  refine oj_seal 0 rfl rfl rfl fun σ2 hle2 hS2 => ?_
  have hc1 : σ2.cell ⟨g1, 0, none⟩ = some (.int .i64 j) := hle2.cell (cell_of hS1)
  have hc2 : σ2.cell ⟨g2, 0, none⟩ = some (.slice y.ao y.st.length y.cap) := cell_of hS2
  have H2 := H.mono (Snap.le_trans hle1 hle2)
  have hx2 := fun x h => (hx x h).mono (Snap.le_trans hle1 hle2)
  have hxo2 := hxo.mono (Snap.le_trans hle1 hle2)
  refine oj_callS rfl rfl rfl rfl rfl Tryd.call94 ⟨(by (repeat' (first | exact trivial | refine AllLt.of ?_ | constructor))), fn_lt2 (.func 98) g1 g2 0, trivial⟩ (all_c σ2 xs hl ao cap next H2 98 [ptrTo g1, ptrTo g2] ⟨trivial, trivial, trivial⟩ Tryd.call98 (belowQ j y.st) (fun k x hk => below1_c σ2 k x (hx2 x (List.mem_of_getElem? hk)) j y.st hxo2.1 y.ao y.cap hxo2.2 g1 g2 hc1 hc2) (fn_lt2 (.func 98) g1 g2 0)) fun v σ3 hle3 ⟨oo, oc, hv, HO⟩ => ⟨.a (.v (.slice oo (allG (belowQ j y.st) xs 0).length oc)), trivial, hv.symm, ?_⟩
  refine oj_run TT rfl ?_
  (repeat (first | refine oj_then ?_ | refine cj_ret ?_))
  refine nj_ret TT rfl fun β w' _ _ => ?_
  exact ⟨oo, oc, rfl, HO⟩
end Go.Sy
namespace Go.Sy
open Go.Proofs

/-! ### matches -/

/-- One step of what 'deep' does. -/
def deepAt (ps : List GPat) (V : List Bool) (k : Nat) : List Bool := match ps[k]? with
  | some p => if p.what = 4 then (if V.getD k false then V.set (k + 1) true else V) else V
  | none => V
def deepV (ps : List GPat) (V : List Bool) : List Bool := (List.range ps.length).foldl (deepAt ps) V
/-- One step of what is done at a step s. -/
def patAt (ps : List GPat) (V : List Bool) (s : ByteArray) (N : List Bool) (k : Nat) : List Bool := match ps[k]? with
  | some p => if V.getD k false then (if p.what = 4 then N.set k true else if fitsP p s then N.set (k + 1) true else N) else N
  | none => N
def nextV (ps : List GPat) (V : List Bool) (s : ByteArray) : List Bool := (List.range ps.length).foldl (patAt ps V s) (List.replicate (ps.length + 1) false)
def startV (ps : List GPat) : List Bool := deepV ps ((List.replicate (ps.length + 1) false).set 0 true)
def runV (ps : List GPat) (ss : List ByteArray) : List Bool := ss.foldl (fun V s => deepV ps (nextV ps V s)) (startV ps)
def matchG (ss : List ByteArray) (ps : List GPat) : Bool := (runV ps ss).getD ps.length false

theorem deepAt_len (ps : List GPat) (V : List Bool) (k : Nat) : (deepAt ps V k).length = V.length := by
  unfold deepAt
  split
  · split
    · split
      · rw [List.length_set]
      · rfl
    · rfl
  · rfl
theorem fold_len {α β : Type} (f : List α → β → List α) (hf : ∀ l b, (f l b).length = l.length) : ∀ (bs : List β) (l : List α), (bs.foldl f l).length = l.length
  | [], _ => rfl
  | b :: bs, l => by rw [List.foldl_cons, fold_len f hf bs, hf]
theorem deepV_len (ps : List GPat) (V : List Bool) : (deepV ps V).length = V.length := fold_len _ (deepAt_len ps) _ _
theorem patAt_len (ps : List GPat) (V : List Bool) (s : ByteArray) (N : List Bool) (k : Nat) : (patAt ps V s N k).length = N.length := by
  unfold patAt
  split
  · split
    · split
      · rw [List.length_set]
      · split
        · rw [List.length_set]
        · rfl
    · rfl
  · rfl
theorem nextV_len (ps : List GPat) (V : List Bool) (s : ByteArray) : (nextV ps V s).length = ps.length + 1 := by
  unfold nextV
  rw [fold_len _ (patAt_len ps V s), List.length_replicate]
theorem startV_len (ps : List GPat) : (startV ps).length = ps.length + 1 := by
  unfold startV
  rw [deepV_len, List.length_set, List.length_replicate]
theorem range_fold {α : Type} (f : α → Nat → α) (a : α) (k : Nat) : (List.range (k + 1)).foldl f a = f ((List.range k).foldl f a) k := by
  rw [List.range_succ, List.foldl_append]
  rfl

def blE (g : Nat) (V : List Bool) : AE := ⟨some ⟨g, 0, none⟩, V.length, V.length, 4, 1, V.map Value.bool⟩
def nwE (g5 gb n : Nat) : AE := ⟨some ⟨g5, 0, none⟩, 1, 1, 181, 1, [.slice (some ⟨gb, 0, none⟩) n n]⟩
theorem bl_get {V : List Bool} {k : Nat} {b : Bool} (h : V[k]? = some b) : (V.map Value.bool)[k]? = some (AT.b b).val := by rw [List.getElem?_map, h]; rfl
theorem bl_set (g : Nat) (V : List Bool) (k : Nat) : (⟨some ⟨g, 0, none⟩, V.length, V.length, 4, 1, (V.map Value.bool).set k (AT.val .tt)⟩ : AE) = blE g (V.set k true) := by
  unfold blE
  rw [List.length_set, List.map_set]
  rfl
theorem getD_of {V : List Bool} {k : Nat} {b : Bool} (h : V[k]? = some b) : V.getD k false = b := by rw [List.getD_eq_getElem?_getD, h]; rfl

set_option maxRecDepth 100000 in
set_option maxHeartbeats 1000000 in
theorem deep_c (σ : Snap) (ps : List GPat) (hl : ps.length ≤ 1000000) (po : Option Addr) (pc : Nat) (P : SlAt σ po ps.length pc 2 (ptRows ps)) (g3 g5 gb : Nat) (h3 : σ.cell ⟨g3, 0, none⟩ = some (.slice po ps.length pc)) (V : List Bool) (hV : V.length = ps.length + 1) :
    FnS Tryd.prog 127 ([ptrTo g3, ptrTo g5].map ptSV) σ [nwE g5 gb V.length, blE gb V] (fun v _ A' => v = .tuple #[] ∧ A' = [nwE g5 gb V.length, blE gb (deepV ps V)]) := by
  refine enter_f Tryd.func127 rfl rfl ⟨trivial, trivial, trivial⟩ fun w => ?_
  refine cj_seq ?_
  refine cj_region ?_
  refine oj_ldS (c := .v (.slice po ps.length pc)) TT rfl rfl rfl rfl rfl rfl rfl rfl h3 trivial (oj_run TT rfl ?_)
  (repeat (first | refine oj_then ?_ | refine cj_block ?_))
  refine cj_loop (fun (_ : Nat) => σ) (fun k => [(1, .a (.v (.pointer (some ⟨g5, 0, none⟩)))), (4, .a (.v (.slice po ps.length pc))), (5, .a (.v (.int .i64 ps.length))), (6, .a (.v (.int .i64 (k : Nat))))]) (fun _ => []) (fun k => [nwE g5 gb V.length, blE gb ((List.range k).foldl (deepAt ps) V)]) 0
    (fun k => k ≤ ps.length) (fun k => ps.length - k) 0 (Nat.zero_le _) rfl (by (repeat (first | exact trivial | refine And.intro rfl ?_))) (by (repeat (first | exact trivial | refine And.intro rfl ?_))) rfl (by (repeat' (first | exact trivial | constructor))) (by (repeat' exact trivial)) fun k hk => ?_
  (repeat (first | refine cj_seq ?_ | (refine cj_region ?_; refine oj_run TT rfl ?_) | refine oj_then ?_))
  refine cj_if rfl (fun h => ?_) (fun h => ?_)
  rotate_left
  · have hk0 : k = ps.length := by have := of_decide_eq_false h; omega
    subst hk0
    (repeat (first | refine cj_exit ?_ | refine nj_then_exit ?_ | refine nj_block_out ?_))
    refine nj_fend TT rfl fun β w' _ _ => ?_
    exact ⟨rfl, rfl⟩
  have hkl : k < ps.length := by have := of_decide_eq_true h; omega
  have hra := ptRows_get (List.getElem?_eq_getElem hkl)
  have hnx := range_fold (deepAt ps) V k
  have hlen : ((List.range k).foldl (deepAt ps) V).length = ps.length + 1 := by rw [fold_len _ (deepAt_len ps), hV]
  generalize (List.range k).foldl (deepAt ps) V = Vk at *
  have hd : deepAt ps Vk k = match ps[k]? with | some p => if p.what = 4 then (if Vk.getD k false then Vk.set (k + 1) true else Vk) else Vk | none => Vk := rfl
  rw [List.getElem?_eq_getElem hkl] at hd
  dsimp only at hd
  have hbk : Vk[k]? = some (Vk[k]'(by omega)) := List.getElem?_eq_getElem _
  rw [getD_of hbk] at hd
  generalize Vk[k]'(by omega) = b at *
  generalize ps[k] = p at *
  have hnw : ∀ W : List Bool, W.length = ps.length + 1 → nwE g5 gb V.length = nwE g5 gb W.length := fun W hW => by rw [hV, hW]
  have had : ∀ q : Nat, some (SV.a (AT.v (.pointer (some (Addr.add ⟨gb, 0, none⟩ ((q : Int).toNat * 1)))))) = some (SV.a (AT.v (.pointer (some ⟨gb, q, none⟩)))) := fun q => by
    rw [Int.toNat_natCast, add0, Nat.mul_one]
  (repeat (first | refine cj_seq ?_ | (refine cj_region ?_; refine oj_run TT rfl ?_) | refine cj_skip ?_ | refine cj_block ?_ | refine nj_then ?_))
  refine oj_idx TT rfl rfl rfl rfl rfl rfl rfl rfl rfl P (by omega) hra (oj_run TT rfl ?_)
  (repeat (first | refine cj_seq ?_ | (refine cj_region ?_; refine oj_run TT rfl ?_) | refine oj_then ?_))
  refine oj_split 14 rfl (fun h1 => ?_) (fun h1 => ?_)
  rotate_left
  · have h1 : decide (p.what = 4) = false := h1
    rw [if_neg (of_decide_eq_false h1)] at hd
    refine oj_run TT rfl ?_
    (repeat (first | (refine cj_region ?_; refine oj_run TT rfl ?_) | refine oj_then ?_ | refine oj_nil ?_ | refine cj_if_f rfl ?_ | refine cj_skip ?_ | refine nj_then ?_ | refine nj_block ?_ | (refine oj_add rfl rfl rfl rfl rfl rfl (by omega) ?_; refine oj_run TT rfl ?_)))
    refine nj_again (k + 1) hkl (by omega) rfl (by (repeat (first | exact trivial | refine And.intro rfl ?_))) (by (repeat (first | exact trivial | refine And.intro rfl ?_))) ?_ (by (repeat' (first | exact trivial | constructor))) (by (repeat' exact trivial))
    rw [hnx, hd]
  have h1 : decide (p.what = 4) = true := h1
  rw [if_pos (of_decide_eq_true h1)] at hd
  refine oj_run TT rfl ?_
  refine oj_ldA 0 (off := 0) (c := .v (.slice (some ⟨gb, 0, none⟩) V.length V.length)) TT rfl rfl rfl rfl rfl rfl rfl rfl rfl rfl rfl trivial (oj_run TT rfl ?_)
  refine oj_indexAddr TT rfl rfl rfl rfl rfl rfl rfl rfl rfl ⟨by omega, by omega⟩ (oj_run TT rfl ?_)
  refine oj_ldA 1 (off := k) (c := .b b) TT rfl rfl rfl rfl rfl (had k) rfl rfl rfl rfl (bl_get hbk) trivial (oj_run TT rfl ?_)
  (repeat refine oj_then ?_)
  refine cj_if rfl (fun h2 => ?_) (fun h2 => ?_)
  rotate_left
  · rw [h2, if_neg (by simp)] at hd
    (repeat (first | (refine cj_region ?_; refine oj_run TT rfl ?_) | refine oj_nil ?_ | refine cj_skip ?_ | refine nj_then ?_ | refine nj_block ?_ | (refine oj_add rfl rfl rfl rfl rfl rfl (by omega) ?_; refine oj_run TT rfl ?_)))
    refine nj_again (k + 1) hkl (by omega) rfl (by (repeat (first | exact trivial | refine And.intro rfl ?_))) (by (repeat (first | exact trivial | refine And.intro rfl ?_))) ?_ (by (repeat' (first | exact trivial | constructor))) (by (repeat' exact trivial))
    rw [hnx, hd]
  rw [h2, if_pos rfl] at hd
  (repeat (refine cj_region ?_; refine oj_run TT rfl ?_))
  refine oj_ldA 0 (off := 0) (c := .v (.slice (some ⟨gb, 0, none⟩) V.length V.length)) TT rfl rfl rfl rfl rfl rfl rfl rfl rfl rfl rfl trivial (oj_run TT rfl ?_)
  refine oj_add rfl rfl rfl rfl rfl rfl (by omega) (oj_run TT rfl ?_)
  refine oj_indexAddr TT rfl rfl rfl rfl rfl rfl rfl rfl rfl ⟨by omega, by omega⟩ (oj_run TT rfl ?_)
  refine oj_stA 1 (off := k + 1) (c := .tt) (A' := [nwE g5 gb V.length, blE gb (Vk.set (k + 1) true)]) TT rfl rfl rfl rfl (had (k + 1)) rfl rfl rfl rfl rfl (by show k + 1 < Vk.length * 1; omega) trivial rfl ?_ (oj_run TT rfl ?_)
  · show [_, _] = [_, _]
    rw [← bl_set]
    rfl
  (repeat (first | (refine cj_region ?_; refine oj_run TT rfl ?_) | refine oj_nil ?_ | refine nj_then ?_ | refine nj_block ?_ | (refine oj_add rfl rfl rfl rfl rfl rfl (by omega) ?_; refine oj_run TT rfl ?_)))
  refine nj_again (k + 1) hkl (by omega) rfl (by (repeat (first | exact trivial | refine And.intro rfl ?_))) (by (repeat (first | exact trivial | refine And.intro rfl ?_))) ?_ (by (repeat' (first | exact trivial | constructor))) (by (repeat' exact trivial))
  rw [hnx, hd]

theorem bl_rep (g n : Nat) : (⟨some ⟨g, 0, none⟩, n, n, 4, 1, List.replicate n (AT.val .ff)⟩ : AE) = blE g (List.replicate n false) := by
  unfold blE
  rw [List.length_replicate, List.map_replicate]
  rfl

structure MtS where
  k : Nat
  gb : Nat
  V : List Bool

set_option maxRecDepth 100000 in
set_option maxHeartbeats 1000000 in
theorem matches_c (σ : Snap) (ss : List ByteArray) (hs : ss.length ≤ 140737488355328) (so : Option Addr) (sc : Nat) (S : SlAt σ so ss.length sc 1 (strRows ss)) (ps : List GPat) (hl : ps.length ≤ 1000000) (po : Option Addr) (pc : Nat) (P : SlAt σ po ps.length pc 2 (ptRows ps)) :
    PlainS Tryd.prog 96 [.a (.v (.slice so ss.length sc)), .a (.v (.slice po ps.length pc))] σ (fun v => v = .bool (matchG ss ps)) := by
  refine enter_p Tryd.func96 rfl rfl (by (repeat' (first | exact trivial | constructor))) fun w => ?_
  (repeat (first | refine cj_seq ?_ | (refine cj_region ?_; refine oj_run TT rfl ?_) | refine oj_then ?_ | (refine oj_add rfl rfl rfl rfl rfl rfl (by omega) ?_; refine oj_run TT rfl ?_)))
  refine oj_makeSlice (n := ps.length + 1) TT rfl rfl rfl rfl rfl rfl rfl rfl rfl rfl rfl rfl trivial (by show (ps.length + 1) * 1 ≤ _; omega) (by omega) fun gb => oj_run TT rfl ?_
  refine oj_own 1 1 1 rfl (by (repeat' (first | exact trivial | refine AllLt.of ?_ | constructor))) rfl (by decide) fun g5 => ?_
  refine oj_own 0 1 1 rfl (by (repeat' (first | exact trivial | refine AllLt.of ?_ | constructor))) rfl (by decide) fun g3 => ?_
  refine oj_seal 2 rfl rfl rfl fun σ1 hle1 hS3 => ?_
  have h3 : σ1.cell ⟨g3, 0, none⟩ = some (.slice po ps.length pc) := cell_of hS3
  have P1 := P.mono hle1
  have S1 := S.mono hle1
  have hdeep : ∀ (s : Snap) (_ : σ1.le s) (gb : Nat) (V : List Bool), V.length = ps.length + 1 → FnS Tryd.prog 127 ([ptrTo g3, ptrTo g5].map ptSV) s [nwE g5 gb (ps.length + 1), blE gb V] (fun v _ A' => v = .tuple #[] ∧ A' = [nwE g5 gb (ps.length + 1), blE gb (deepV ps V)]) := by
    intro s hs gb V hV
    have := deep_c s ps hl po pc (P1.mono hs) g3 g5 gb (hs.cell h3) V hV
    rw [hV] at this
    exact this
  refine oj_then ?_
  refine cj_re [1, 0] (A' := [nwE g5 gb (ps.length + 1), blE gb (List.replicate (ps.length + 1) false)]) (by show [_, _] = [_, _]; rw [← bl_rep]; rfl) rfl ?_
  have had : ∀ (g q : Nat), some (SV.a (AT.v (.pointer (some (Addr.add ⟨g, 0, none⟩ ((q : Int).toNat * 1)))))) = some (SV.a (AT.v (.pointer (some ⟨g, q, none⟩)))) := fun g q => by
    rw [Int.toNat_natCast, add0, Nat.mul_one]
  have hrl : (List.replicate (ps.length + 1) false).length = ps.length + 1 := List.length_replicate
  (repeat (first | refine cj_seq ?_ | (refine cj_region ?_; refine oj_run TT rfl ?_)))
  refine oj_ldA 0 (off := 0) (c := .v (.slice (some ⟨gb, 0, none⟩) (ps.length + 1) (ps.length + 1))) TT rfl rfl rfl rfl rfl rfl rfl rfl rfl rfl rfl trivial (oj_run TT rfl ?_)
  refine oj_indexAddr TT rfl rfl rfl rfl rfl rfl rfl rfl rfl ⟨by omega, by omega⟩ (oj_run TT rfl ?_)
  refine oj_stA 1 (off := 0) (c := .tt) (A' := [nwE g5 gb (ps.length + 1), blE gb ((List.replicate (ps.length + 1) false).set 0 true)]) TT rfl rfl rfl rfl (had gb 0) rfl rfl rfl rfl rfl (by show 0 < (List.replicate (ps.length + 1) false).length * 1; omega) trivial rfl ?_ (oj_run TT rfl ?_)
  · show [_, _] = [_, _]
    rw [← bl_set]
    rfl
  (repeat (first | refine cj_seq ?_ | (refine cj_region ?_; refine oj_run TT rfl ?_) | refine oj_then ?_))
  refine oj_callF [0, 1] (A0 := [nwE g5 gb (ps.length + 1), blE gb ((List.replicate (ps.length + 1) false).set 0 true)]) (Ar := []) rfl rfl rfl rfl rfl rfl rfl Tryd.call127 ⟨trivial, trivial, trivial⟩ (hdeep σ1 (Snap.le_refl _) gb _ (by rw [List.length_set, hrl])) fun v σ2 A2 hle2 ⟨hv, hA⟩ => ⟨.tup [], (by (repeat' (first | exact trivial | refine SV.lt_tup ?_))), hv.symm, ?_⟩
  subst hA
  have hst : deepV ps ((List.replicate (ps.length + 1) false).set 0 true) = startV ps := rfl
  rw [hst]
  refine oj_run TT rfl ?_
  (repeat (first | refine cj_seq ?_ | (refine cj_region ?_; refine oj_run TT rfl ?_) | refine oj_then ?_ | refine cj_block ?_))
  refine cj_loop2 (fun (s : Snap) (_ : MtS) => s) (fun _ t => [(3, .a (.v (.pointer (some ⟨g3, 0, none⟩)))), (5, .a (.v (.pointer (some ⟨g5, 0, none⟩)))), (6, .a (.fn (.func 127) [ptrTo g3, ptrTo g5])), (21, .a (.v (.slice so ss.length sc))), (22, .a (.v (.int .i64 ss.length))), (23, .a (.v (.int .i64 (t.k : Nat))))]) (fun _ _ => []) (fun _ t => [nwE g5 t.gb (ps.length + 1), blE t.gb t.V]) 0
    (fun s t => σ1.le s ∧ t.k ≤ ss.length ∧ t.V = runV ps (ss.take t.k) ∧ t.V.length = ps.length + 1) (fun _ t => ss.length - t.k) σ2 ⟨0, gb, startV ps⟩ ⟨hle2, Nat.zero_le _, rfl, startV_len ps⟩ rfl (by (repeat (first | exact trivial | refine And.intro rfl ?_))) (by (repeat (first | exact trivial | refine And.intro rfl ?_))) rfl ⟨trivial, trivial, fn_lt2 (.func 127) g3 g5 0, trivial, trivial, trivial, trivial⟩ trivial fun s ⟨k, gb, V⟩ ⟨hle, hk, hV, hVl⟩ => ?_
  dsimp only at hk hV hVl ⊢
  have h3 := hle.cell h3
  have P1 := P1.mono hle
  have S1 := S1.mono hle
  (repeat (first | refine cj_seq ?_ | (refine cj_region ?_; refine oj_run TT rfl ?_) | refine oj_then ?_))
  refine cj_if rfl (fun h => ?_) (fun h => ?_)
  rotate_left
  · have hk0 : k = ss.length := by have := of_decide_eq_false h; omega
    rw [hk0, List.take_length] at hV
    have hb : V[ps.length]? = some (V[ps.length]'(by omega)) := List.getElem?_eq_getElem _
    have hm : matchG ss ps = V[ps.length]'(by omega) := by
      unfold matchG
      rw [← hV]
      exact getD_of hb
    generalize V[ps.length]'(by omega) = b at *
    (repeat (first | refine cj_seq ?_ | (refine cj_region ?_; refine oj_run TT rfl ?_) | refine cj_exit ?_ | refine nj_then ?_ | refine nj_then_exit ?_ | refine nj_block_out ?_))
    refine oj_ldA 0 (off := 0) (c := .v (.slice (some ⟨gb, 0, none⟩) (ps.length + 1) (ps.length + 1))) TT rfl rfl rfl rfl rfl rfl rfl rfl rfl rfl rfl trivial (oj_run TT rfl ?_)
    refine oj_ldS (c := .v (.slice po ps.length pc)) TT rfl rfl rfl rfl rfl rfl rfl rfl h3 trivial (oj_run TT rfl ?_)
    refine oj_indexAddr TT rfl rfl rfl rfl rfl rfl rfl rfl rfl ⟨by omega, by omega⟩ (oj_run TT rfl ?_)
    refine oj_ldA 1 (off := ps.length) (c := .b b) TT rfl rfl rfl rfl rfl (had gb ps.length) rfl rfl rfl rfl (bl_get hb) trivial (oj_run TT rfl ?_)
    (repeat (first | refine oj_then ?_ | refine cj_ret ?_))
    refine nj_ret TT rfl fun β w' _ _ => ?_
    rw [hm]
    rfl
  have hkl : k < ss.length := by have := of_decide_eq_true h; omega
  have hrow := strRows_get (List.getElem?_eq_getElem hkl)
  have hnext : runV ps (ss.take (k + 1)) = deepV ps (nextV ps V ss[k]) := by
    unfold runV
    rw [List.take_succ_eq_append_getElem hkl, List.foldl_append]
    rw [hV]
    rfl
  clear hV
  generalize ss[k] = x at *
  (repeat (first | refine cj_seq ?_ | (refine cj_region ?_; refine oj_run TT rfl ?_) | refine cj_skip ?_ | refine cj_block ?_ | refine nj_then ?_))
  refine oj_idx TT rfl rfl rfl rfl rfl rfl rfl rfl rfl S1 (by omega) hrow (oj_run TT rfl ?_)
  (repeat (first | refine cj_seq ?_ | (refine cj_region ?_; refine oj_run TT rfl ?_) | refine oj_then ?_))
  refine oj_ldS (c := .v (.slice po ps.length pc)) TT rfl rfl rfl rfl rfl rfl rfl rfl h3 trivial (oj_run TT rfl ?_)
  refine oj_add rfl rfl rfl rfl rfl rfl (by omega) (oj_run TT rfl ?_)
  refine oj_makeSlice (n := ps.length + 1) TT rfl rfl rfl rfl rfl rfl rfl rfl rfl rfl rfl rfl trivial (by show (ps.length + 1) * 1 ≤ _; omega) (by omega) fun g2 => oj_run TT rfl ?_
  refine oj_then ?_
  refine cj_re [0, 1, 2] (A' := [nwE g5 gb (ps.length + 1), blE gb V, blE g2 (List.replicate (ps.length + 1) false)]) (by show [_, _, _] = [_, _, _]; rw [← bl_rep]) rfl ?_
  (repeat (first | refine cj_seq ?_ | (refine cj_region ?_; refine oj_run TT rfl ?_)))
  refine oj_ldS (c := .v (.slice po ps.length pc)) TT rfl rfl rfl rfl rfl rfl rfl rfl h3 trivial (oj_run TT rfl ?_)
  (repeat (first | refine oj_then ?_ | refine cj_block ?_))
  refine cj_loop (fun (_ : Nat) => s) (fun j => [(3, .a (.v (.pointer (some ⟨g3, 0, none⟩)))), (5, .a (.v (.pointer (some ⟨g5, 0, none⟩)))), (6, .a (.fn (.func 127) [ptrTo g3, ptrTo g5])), (8, .a (.v (.string x))), (9, .a (.v (.slice (some ⟨g2, 0, none⟩) (ps.length + 1) (ps.length + 1)))), (21, .a (.v (.slice so ss.length sc))), (22, .a (.v (.int .i64 ss.length))), (23, .a (.v (.int .i64 (k : Nat)))), (31, .a (.v (.slice po ps.length pc))), (32, .a (.v (.int .i64 ps.length))), (33, .a (.v (.int .i64 (j : Nat))))])
    (fun _ => []) (fun j => [nwE g5 gb (ps.length + 1), blE gb V, blE g2 ((List.range j).foldl (patAt ps V x) (List.replicate (ps.length + 1) false))]) 0
    (fun j => j ≤ ps.length) (fun j => ps.length - j) 0 (Nat.zero_le _) rfl (by (repeat (first | exact trivial | refine And.intro rfl ?_))) (by (repeat (first | exact trivial | refine And.intro rfl ?_))) rfl ⟨trivial, trivial, fn_lt2 (.func 127) g3 g5 0, trivial, trivial, trivial, trivial, trivial, trivial, trivial, trivial, trivial⟩ trivial fun j hj => ?_
  (repeat (first | refine cj_seq ?_ | (refine cj_region ?_; refine oj_run TT rfl ?_) | refine oj_then ?_))
  refine cj_if rfl (fun h => ?_) (fun h => ?_)
  rotate_left
  · have hj0 : j = ps.length := by have := of_decide_eq_false h; omega
    subst hj0
    have hN : (List.range ps.length).foldl (patAt ps V x) (List.replicate (ps.length + 1) false) = nextV ps V x := rfl
    have hNl := nextV_len ps V x
    rw [hN]
    generalize nextV ps V x = N at *
    (repeat (first | refine cj_seq ?_ | (refine cj_region ?_; refine oj_run TT rfl ?_) | refine cj_exit ?_ | refine nj_then ?_ | refine nj_then_exit ?_ | refine nj_block_out ?_))
    refine oj_stA 0 (off := 0) (c := .v (.slice (some ⟨g2, 0, none⟩) (ps.length + 1) (ps.length + 1))) (A' := [nwE g5 g2 (ps.length + 1), blE gb V, blE g2 N]) TT rfl rfl rfl rfl rfl rfl rfl rfl rfl rfl (by show 0 < 1 * 1; omega) trivial rfl rfl (oj_run TT rfl ?_)
    (repeat (first | (refine cj_region ?_; refine oj_run TT rfl ?_) | refine oj_then ?_))
    refine oj_callF [0, 2] (A0 := [nwE g5 g2 (ps.length + 1), blE g2 N]) (Ar := []) rfl rfl rfl rfl rfl rfl rfl Tryd.call127 ⟨trivial, trivial, trivial⟩ (hdeep s hle g2 N hNl) fun v σ3 A3 hle3 ⟨hv, hA⟩ => ⟨.tup [], (by (repeat' (first | exact trivial | refine SV.lt_tup ?_))), hv.symm, ?_⟩
    subst hA
    refine oj_run TT rfl ?_
    (repeat (first | (refine cj_region ?_; refine oj_run TT rfl ?_) | refine oj_nil ?_ | refine nj_then ?_ | refine nj_block ?_ | (refine oj_add rfl rfl rfl rfl rfl rfl (by omega) ?_; refine oj_run TT rfl ?_)))
    refine nj_again (σ3, (⟨k + 1, g2, deepV ps N⟩ : MtS)) ⟨Snap.le_trans hle hle3, hkl, hnext.symm, by dsimp only; rw [deepV_len, hNl]⟩ (by dsimp only; omega) rfl (by (repeat (first | exact trivial | refine And.intro rfl ?_))) (by (repeat (first | exact trivial | refine And.intro rfl ?_))) rfl ⟨trivial, trivial, fn_lt2 (.func 127) g3 g5 0, trivial, trivial, trivial, trivial⟩ trivial
  have hjl : j < ps.length := by have := of_decide_eq_true h; omega
  have hra := ptRows_get (List.getElem?_eq_getElem hjl)
  have hnx := range_fold (patAt ps V x) (List.replicate (ps.length + 1) false) j
  have hNl : ((List.range j).foldl (patAt ps V x) (List.replicate (ps.length + 1) false)).length = ps.length + 1 := by rw [fold_len _ (patAt_len ps V x), List.length_replicate]
  generalize (List.range j).foldl (patAt ps V x) (List.replicate (ps.length + 1) false) = N at *
  have hd : patAt ps V x N j = match ps[j]? with | some p => if V.getD j false then (if p.what = 4 then N.set j true else if fitsP p x then N.set (j + 1) true else N) else N | none => N := rfl
  rw [List.getElem?_eq_getElem hjl] at hd
  dsimp only at hd
  have hbk : V[j]? = some (V[j]'(by omega)) := List.getElem?_eq_getElem _
  rw [getD_of hbk] at hd
  generalize V[j]'(by omega) = b at *
  generalize ps[j] = p at *
  have hlt : EnvLt 0 [(3, .a (.v (.pointer (some ⟨g3, 0, none⟩)))), (5, .a (.v (.pointer (some ⟨g5, 0, none⟩)))), (6, .a (.fn (.func 127) [ptrTo g3, ptrTo g5])), (8, .a (.v (.string x))), (9, .a (.v (.slice (some ⟨g2, 0, none⟩) (ps.length + 1) (ps.length + 1)))), (21, .a (.v (.slice so ss.length sc))), (22, .a (.v (.int .i64 ss.length))), (23, .a (.v (.int .i64 (k : Nat)))), (31, .a (.v (.slice po ps.length pc))), (32, .a (.v (.int .i64 ps.length))), (33, .a (.v (.int .i64 ((j + 1 : Nat) : Int))))] := ⟨trivial, trivial, fn_lt2 (.func 127) g3 g5 0, trivial, trivial, trivial, trivial, trivial, trivial, trivial, trivial, trivial⟩
  (repeat (first | refine cj_seq ?_ | (refine cj_region ?_; refine oj_run TT rfl ?_) | refine cj_skip ?_ | refine cj_block ?_ | refine nj_then ?_))
  refine oj_idx TT rfl rfl rfl rfl rfl rfl rfl rfl rfl P1 (by omega) hra (oj_run TT rfl ?_)
  (repeat (first | refine cj_seq ?_ | (refine cj_region ?_; refine oj_run TT rfl ?_) | refine oj_then ?_))
  refine oj_ldA 0 (off := 0) (c := .v (.slice (some ⟨gb, 0, none⟩) (ps.length + 1) (ps.length + 1))) TT rfl rfl rfl rfl rfl rfl rfl rfl rfl rfl rfl trivial (oj_run TT rfl ?_)
  refine oj_indexAddr TT rfl rfl rfl rfl rfl rfl rfl rfl rfl ⟨by omega, by omega⟩ (oj_run TT rfl ?_)
  refine oj_ldA 1 (off := j) (c := .b b) TT rfl rfl rfl rfl rfl (had gb j) rfl rfl rfl rfl (bl_get hbk) trivial (oj_run TT rfl ?_)
  refine oj_split 42 rfl (fun h1 => ?_) (fun h1 => ?_)
  · have h1 : b = true := h1
    rw [h1, if_pos rfl] at hd
    refine oj_run TT rfl ?_
    (repeat refine oj_then ?_)
    refine cj_if rfl (fun h2 => ?_) (fun h2 => ?_)
    · rw [if_pos (of_decide_eq_true h2)] at hd
      (repeat (refine cj_region ?_; refine oj_run TT rfl ?_))
      refine oj_indexAddr TT rfl rfl rfl rfl rfl rfl rfl rfl rfl ⟨by omega, by omega⟩ (oj_run TT rfl ?_)
      refine oj_stA 2 (off := j) (c := .tt) (A' := [nwE g5 gb (ps.length + 1), blE gb V, blE g2 (N.set j true)]) TT rfl rfl rfl rfl (had g2 j) rfl rfl rfl rfl rfl (by show j < N.length * 1; omega) trivial rfl ?_ (oj_run TT rfl ?_)
      · show [_, _, _] = [_, _, _]
        rw [← bl_set]
        rfl
      (repeat (first | (refine cj_region ?_; refine oj_run TT rfl ?_) | refine oj_nil ?_ | refine nj_then ?_ | refine nj_block ?_ | (refine oj_add rfl rfl rfl rfl rfl rfl (by omega) ?_; refine oj_run TT rfl ?_)))
      refine nj_again (j + 1) hjl (by omega) rfl (by (repeat (first | exact trivial | refine And.intro rfl ?_))) (by (repeat (first | exact trivial | refine And.intro rfl ?_))) ?_ hlt trivial
      rw [hnx, hd]
    · rw [if_neg (of_decide_eq_false h2)] at hd
      (repeat (first | refine cj_seq ?_ | (refine cj_region ?_; refine oj_run TT rfl ?_)))
      refine oj_ldA 0 (off := 0) (c := .v (.slice (some ⟨gb, 0, none⟩) (ps.length + 1) (ps.length + 1))) TT rfl rfl rfl rfl rfl rfl rfl rfl rfl rfl rfl trivial (oj_run TT rfl ?_)
      refine oj_indexAddr TT rfl rfl rfl rfl rfl rfl rfl rfl rfl ⟨by omega, by omega⟩ (oj_run TT rfl ?_)
      refine oj_ldA 1 (off := j) (c := .b b) TT rfl rfl rfl rfl rfl (had gb j) rfl rfl rfl rfl (bl_get hbk) trivial (oj_run TT rfl ?_)
      refine oj_split 54 rfl (fun _ => ?_) (fun h3 => absurd (show b = false from h3) (by rw [h1]; decide))
      refine oj_run TT rfl ?_
      refine oj_callP rfl rfl rfl rfl rfl Tryd.call128 ⟨(by (repeat' (first | exact trivial | refine AllLt.of ?_ | constructor))), trivial, trivial⟩ (fitsP_c s p x) fun v hv => ⟨.a (.b (fitsP p x)), trivial, hv.symm, ?_⟩
      refine oj_run TT rfl ?_
      (repeat refine oj_then ?_)
      refine cj_if rfl (fun h4 => ?_) (fun h4 => ?_)
      · rw [h4, if_pos rfl] at hd
        (repeat (first | (refine cj_region ?_; refine oj_run TT rfl ?_) | (refine oj_add rfl rfl rfl rfl rfl rfl (by omega) ?_; refine oj_run TT rfl ?_)))
        refine oj_indexAddr TT rfl rfl rfl rfl rfl rfl rfl rfl rfl ⟨by omega, by omega⟩ (oj_run TT rfl ?_)
        refine oj_stA 2 (off := j + 1) (c := .tt) (A' := [nwE g5 gb (ps.length + 1), blE gb V, blE g2 (N.set (j + 1) true)]) TT rfl rfl rfl rfl (had g2 (j + 1)) rfl rfl rfl rfl rfl (by show j + 1 < N.length * 1; omega) trivial rfl ?_ (oj_run TT rfl ?_)
        · show [_, _, _] = [_, _, _]
          rw [← bl_set]
          rfl
        (repeat (first | (refine cj_region ?_; refine oj_run TT rfl ?_) | refine oj_nil ?_ | refine nj_then ?_ | refine nj_block ?_ | (refine oj_add rfl rfl rfl rfl rfl rfl (by omega) ?_; refine oj_run TT rfl ?_)))
        refine nj_again (j + 1) hjl (by omega) rfl (by (repeat (first | exact trivial | refine And.intro rfl ?_))) (by (repeat (first | exact trivial | refine And.intro rfl ?_))) ?_ hlt trivial
        rw [hnx, hd]
      · rw [h4, if_neg (by simp)] at hd
        (repeat (first | (refine cj_region ?_; refine oj_run TT rfl ?_) | refine oj_nil ?_ | refine cj_skip ?_ | refine nj_then ?_ | refine nj_block ?_ | (refine oj_add rfl rfl rfl rfl rfl rfl (by omega) ?_; refine oj_run TT rfl ?_)))
        refine nj_again (j + 1) hjl (by omega) rfl (by (repeat (first | exact trivial | refine And.intro rfl ?_))) (by (repeat (first | exact trivial | refine And.intro rfl ?_))) ?_ hlt trivial
        rw [hnx, hd]
  · have h1 : b = false := h1
    rw [h1, if_neg (by simp)] at hd
    refine oj_run TT rfl ?_
    (repeat (first | refine cj_seq ?_ | (refine cj_region ?_; refine oj_run TT rfl ?_) | refine oj_then ?_ | refine cj_if_f rfl ?_))
    refine oj_ldA 0 (off := 0) (c := .v (.slice (some ⟨gb, 0, none⟩) (ps.length + 1) (ps.length + 1))) TT rfl rfl rfl rfl rfl rfl rfl rfl rfl rfl rfl trivial (oj_run TT rfl ?_)
    refine oj_indexAddr TT rfl rfl rfl rfl rfl rfl rfl rfl rfl ⟨by omega, by omega⟩ (oj_run TT rfl ?_)
    refine oj_ldA 1 (off := j) (c := .b b) TT rfl rfl rfl rfl rfl (had gb j) rfl rfl rfl rfl (bl_get hbk) trivial (oj_run TT rfl ?_)
    refine oj_split 54 rfl (fun h3 => absurd (show b = true from h3) (by rw [h1]; decide)) (fun _ => ?_)
    refine oj_run TT rfl ?_
    (repeat (first | (refine cj_region ?_; refine oj_run TT rfl ?_) | refine oj_then ?_ | refine oj_nil ?_ | refine cj_if_f rfl ?_ | refine cj_skip ?_ | refine nj_then ?_ | refine nj_block ?_ | (refine oj_add rfl rfl rfl rfl rfl rfl (by omega) ?_; refine oj_run TT rfl ?_)))
    refine nj_again (j + 1) hjl (by omega) rfl (by (repeat (first | exact trivial | refine And.intro rfl ?_))) (by (repeat (first | exact trivial | refine And.intro rfl ?_))) ?_ hlt trivial
    rw [hnx, hd]
end Go.Sy
namespace Go.Sy
open Go.Proofs

/-! ### Match -/

set_option maxRecDepth 100000 in
set_option maxHeartbeats 1000000 in
theorem match1_c (σ : Snap) (k : Nat) (x : GLine) (hx : LnOk σ x) (ps : List GPat) (hl : ps.length ≤ 1000000) (po : Option Addr) (pc : Nat) (P : SlAt σ po ps.length pc 2 (ptRows ps)) (g : Nat) (hg : σ.cell ⟨g, 0, none⟩ = some (.slice po ps.length pc)) :
    PlainS Tryd.prog 95 (.a (.v (.int .i64 k)) :: .agg (lnCells x) :: [ptrTo g].map ptSV) σ (fun v => v = .bool (matchG x.st ps)) := by
  refine enter_p Tryd.func95 rfl rfl ⟨trivial, lnCells_lt 0 x, trivial, trivial⟩ fun w => ?_
  (repeat (first | refine cj_seq ?_ | (refine cj_region ?_; refine oj_run TT rfl ?_) | refine oj_then ?_))
  refine oj_ldS (c := .v (.slice po ps.length pc)) TT rfl rfl rfl rfl rfl rfl rfl rfl hg trivial (oj_run TT rfl ?_)
  refine oj_callP rfl rfl rfl rfl rfl Tryd.call96 (by (repeat' (first | exact trivial | constructor))) (matches_c σ x.st hx.1 x.ao x.cap hx.2 ps hl po pc P) fun v hv => ⟨.a (.b (matchG x.st ps)), trivial, hv.symm, ?_⟩
  refine oj_run TT rfl ?_
  (repeat (first | refine oj_then ?_ | refine cj_ret ?_))
  refine nj_ret TT rfl fun β w' _ _ => ?_
  rfl

/-- The lines that are as asked for. -/
def matchIds (xs : List GLine) (ps : List GPat) : List Int := allG (fun _ x => matchG x.st ps) xs 0

set_option maxRecDepth 100000 in
set_option maxHeartbeats 1000000 in
theorem Match_c (σ : Snap) (xs : List GLine) (hxl : xs.length ≤ 1000000) (ao : Option Addr) (cap : Nat) (next : Int) (H : SlAt σ ao xs.length cap 3 (lnRows xs)) (hx : ∀ x ∈ xs, LnOk σ x)
    (ps : List GPat) (hl : ps.length ≤ 1000000) (po : Option Addr) (pc : Nat) (P : SlAt σ po ps.length pc 2 (ptRows ps)) :
    PureS Tryd.prog 55 [.agg [.v (.slice ao xs.length cap), .v (.int .i64 next)], .a (.v (.slice po ps.length pc))] σ (fun v σ' => ∃ oo oc, v = .slice oo (matchIds xs ps).length oc ∧ SlAt σ' oo (matchIds xs ps).length oc 1 (idRows (matchIds xs ps))) := by
  refine enter_s Tryd.func55 rfl rfl (by (repeat' (first | exact trivial | refine AllLt.of ?_ | constructor))) fun w => ?_
  (repeat (first | refine cj_seq ?_ | (refine cj_region ?_; refine oj_run TT rfl ?_) | refine oj_then ?_))
  refine oj_own 1 1 1 rfl (by (repeat' (first | exact trivial | refine AllLt.of ?_ | constructor))) rfl (by decide) fun g => ?_
  refine oj_seal 0 rfl rfl rfl fun σ1 hle1 hS => ?_
  refine oj_callS rfl rfl rfl rfl rfl Tryd.call94 ⟨(by (repeat' (first | exact trivial | refine AllLt.of ?_ | constructor))), fn_lt1 (.func 95) g 0, trivial⟩ (all_c σ1 xs hxl ao cap next (H.mono hle1) 95 [ptrTo g] ⟨trivial, trivial⟩ Tryd.call95 (fun _ x => matchG x.st ps) (fun k x hk => match1_c σ1 k x ((hx x (List.mem_of_getElem? hk)).mono hle1) ps hl po pc (P.mono hle1) g (cell_of hS)) (fn_lt1 (.func 95) g 0)) fun v σ2 hle2 ⟨oo, oc, hv, HO⟩ => ⟨.a (.v (.slice oo (matchIds xs ps).length oc)), trivial, hv.symm, ?_⟩
  refine oj_run TT rfl ?_
  (repeat (first | refine oj_then ?_ | refine cj_ret ?_))
  refine nj_ret TT rfl fun β w' _ _ => ?_
  exact ⟨oo, oc, rfl, HO⟩
end Go.Sy
namespace Go.Sy
open Go.Proofs

/-! ### Lists of texts as arrays -/

def strXs (l : List ByteArray) : List Value := l.map fun s => Value.string s
def stE9 (bo : Option Addr) (bc : Nat) (l : List ByteArray) : AE := ⟨bo, l.length, bc, 9, 1, strXs l⟩
theorem strRows_flat : ∀ o : List ByteArray, strXs o = (strRows o).flatten.map AT.val
  | [] => rfl
  | k :: o => by
    show Value.string k :: strXs o = _
    rw [strRows_flat o]
    rfl
theorem strRows_all (a : List ByteArray) : ∀ r ∈ strRows a, r.length = 1 ∧ (∀ c ∈ r, c.lt 0) ∧ r.all AT.one = true := by
  intro r hr
  obtain ⟨x, _, rfl⟩ := List.mem_map.1 hr
  exact ⟨rfl, fun c hc => (by cases hc with | head => trivial | tail _ h => cases h), rfl⟩
theorem st9_sealed {σ : Snap} {oo : Option Addr} {oc : Nat} {o : List ByteArray} (h : ArrSealed σ (stE9 oo oc o)) (hc : o.length ≤ oc) : SlAt σ oo o.length oc 1 (strRows o) :=
  h.sl (E := stE9 oo oc o) (strRows_flat o) (fun r hr => ⟨(strRows_all o r hr).1, (strRows_all o r hr).2.1⟩) (by simp [strRows]) rfl hc

def srXs (l : List SRow) : List Value := (srRows l).flatten.map AT.val
def srE (bo : Option Addr) (bc : Nat) (l : List SRow) : AE := ⟨bo, l.length, bc, 75, 1, srXs l⟩
theorem srXs_append (a b : List SRow) : srXs (a ++ b) = srXs a ++ srXs b := by simp [srXs, srRows]
theorem srRows_all (a : List SRow) : ∀ r ∈ srRows a, r.length = 1 ∧ (∀ c ∈ r, c.lt 0) ∧ r.all AT.one = true := by
  intro r hr
  obtain ⟨x, _, rfl⟩ := List.mem_map.1 hr
  exact ⟨rfl, fun c hc => (by cases hc with | head => trivial | tail _ h => cases h), rfl⟩
theorem sr_sealed {σ : Snap} {oo : Option Addr} {oc : Nat} {o : List SRow} (h : ArrSealed σ (srE oo oc o)) (hc : o.length ≤ oc) : SlAt σ oo o.length oc 1 (srRows o) :=
  h.sl (E := srE oo oc o) rfl (fun r hr => ⟨(srRows_all o r hr).1, (srRows_all o r hr).2.1⟩) (by simp [srRows]) rfl hc

set_option maxRecDepth 100000 in
set_option maxHeartbeats 1000000 in
theorem CloneSt_c (σ : Snap) (xs : List ByteArray) (hl : xs.length ≤ 1000000) (ao : Option Addr) (cap : Nat) (H : SlAt σ ao xs.length cap 1 (strRows xs)) :
    FnS Tryd.prog 93 [.a (.v (.slice ao xs.length cap))] σ [] (fun v _ A' => ∃ bo bc, v = .slice bo xs.length bc ∧ xs.length ≤ bc ∧ A' = [stE9 bo bc xs]) := by
  refine enter_f Tryd.func93 rfl rfl (by (repeat' (first | exact trivial | constructor))) fun w => ?_
  (repeat (first | refine cj_seq ?_ | (refine cj_region ?_; refine oj_run TT rfl ?_) | refine oj_then ?_ | (refine oj_slnil TT rfl rfl rfl rfl rfl rfl rfl rfl ?_; refine oj_run TT rfl ?_)))
  refine cj_if rfl (fun h => ?_) (fun h => ?_)
  · have h0 : ao = none := by simpa using h
    have hn0 : xs.length = 0 := by
      rcases H.at_ with h1 | ⟨ad, h1, _⟩
      · exact h1
      · rw [h0] at h1; cases h1
    have hr : xs = [] := List.eq_nil_of_length_eq_zero hn0
    subst hr
    (repeat (first | refine cj_seq ?_ | (refine cj_region ?_; refine oj_run TT rfl ?_) | refine oj_then ?_ | refine cj_ret ?_ | refine nj_then_ret ?_))
    refine nj_nilarr 9 1 ?_
    refine nj_fret TT rfl fun β w' _ _ => ?_
    exact ⟨none, 0, rfl, Nat.le_refl _, rfl⟩
  (repeat (first | refine cj_seq ?_ | (refine cj_region ?_; refine oj_run TT rfl ?_) | refine cj_skip ?_ | refine nj_then ?_))
  refine oj_own 0 0 1 rfl (by (repeat' (first | exact trivial | refine AllLt.of ?_))) rfl (by decide) fun gb => ?_
  refine oj_append_sl TT 0 rfl rfl rfl rfl rfl rfl rfl H rfl rfl rfl rfl rfl rfl rfl rfl rfl (fun r hr => (strRows_all xs r hr).2.2) (by omega) (by show (0 + xs.length) * 16 ≤ _; omega) fun ao' cap' hcap' => oj_run TT rfl ?_
  (repeat (first | refine oj_then ?_ | refine cj_ret ?_))
  refine nj_fret TT rfl fun β w' _ _ => ?_
  refine ⟨ao', cap', by show Value.slice ao' (0 + xs.length) cap' = _; rw [Nat.zero_add], by omega, ?_⟩
  show [_] = [_]
  rw [Nat.zero_add]
  unfold stE9
  rw [strRows_flat]
  rfl

/-! ### Paths -/

def dotS : ByteArray := ⟨#[46]⟩
def elemS : ByteArray := ⟨#[91, 93]⟩
/-- The way to a record, behind the way to the one ahead of it. -/
def pathStep (way : List ByteArray) (r : GRec) : List ByteArray :=
  way.take (r.lv - 1).toNat ++ (if r.nm then [dotS ++ r.name] else if 0 < r.lv then [elemS] else [])
def pathsF : List ByteArray → List GRec → List (List ByteArray)
  | _, [] => []
  | way, r :: l => pathStep way r :: pathsF (pathStep way r) l
def pathsG (L : List GRec) : List (List ByteArray) := pathsF [] L
theorem levelsOk.mono : ∀ {l : List GRec} {m n : Nat}, levelsOk m l → m ≤ n → levelsOk n l
  | [], _, _, _, _ => trivial
  | _ :: _, _, _, ⟨h1, h2, h3⟩, hmn => ⟨h1, by omega, h3⟩

structure PaW where
  way : List ByteArray
  wo : Option Addr
  wc : Nat
structure PaS where
  way : List ByteArray
  wo : Option Addr
  wc : Nat
  out : List SRow
  oo : Option Addr
  oc : Nat

set_option maxRecDepth 100000 in
set_option maxHeartbeats 1000000 in
theorem Paths_c (σ : Snap) (L : List GRec) (R : RecsOk L) (hL : L.length ≤ 100000) (hs : soundG L = true) (hlev : levelsOk 0 L) (ao : Option Addr) (cap : Nat) (H : SlAt σ ao L.length cap 11 (recRows L)) :
    PureS Tryd.prog 53 [.a (.v (.slice ao L.length cap))] σ (fun v σ' => ∃ ps oo oc, v = .slice oo ps.length oc ∧ SlAt σ' oo ps.length oc 1 (srRows ps) ∧ (∀ p ∈ ps, SrOk σ' p) ∧ ps.map SRow.ss = pathsG L) := by
  refine enter_s Tryd.func53 rfl rfl (by (repeat' (first | exact trivial | constructor))) fun w => ?_
  (repeat (first | refine cj_seq ?_ | (refine cj_region ?_; refine oj_run TT rfl ?_) | refine oj_then ?_))
  refine oj_callP rfl rfl rfl rfl rfl Tryd.call24 (by (repeat' (first | exact trivial | constructor))) (Sound_c σ L R.len R.fit R.bw ao cap H) fun v hv => ⟨.a .tt, trivial, by rw [hv, hs]; rfl, ?_⟩
  refine oj_run TT rfl ?_
  (repeat (first | refine cj_seq ?_ | (refine cj_region ?_; refine oj_run TT rfl ?_) | refine oj_then ?_ | refine cj_if_f rfl ?_ | refine cj_skip ?_ | refine cj_block ?_ | refine nj_then ?_))
  refine cj_nilarr 9 1 ?_
  refine cj_nilarr 75 1 ?_
  refine cj_cutB (fun (p : Snap × PaS) => p.1) (fun p => [(3, .a (.v (.slice p.2.oo p.2.out.length p.2.oc)))]) (fun _ => []) (fun p => [stE9 p.2.wo p.2.wc p.2.way, srE p.2.oo p.2.oc p.2.out]) 0
    (fun p => p.2.out.map SRow.ss = pathsG L ∧ (∀ q ∈ p.2.out, SrOk p.1 q) ∧ p.2.out.length ≤ p.2.oc) ?_ (fun p hp => ?_)
  rotate_left
  · obtain ⟨s, way, wo, wc, out, oo, oc⟩ := p
    obtain ⟨h1, h2, h3⟩ := hp
    dsimp only at h1 h2 h3 ⊢
    (repeat (first | refine cj_seq ?_ | (refine cj_region ?_; refine oj_run TT rfl ?_) | refine oj_then ?_ | refine cj_ret ?_))
    refine nj_seal 1 rfl rfl fun σ2 hle2 hS => ?_
    refine nj_ret TT rfl fun β w' _ _ => ?_
    exact ⟨out, oo, oc, rfl, sr_sealed hS h3, fun q hq => (h2 q hq).mono hle2, h1⟩
  refine cj_loop2 (fun (s : Snap) (_ : Nat × PaS) => s) (fun _ t => [(3, .a (.v (.slice t.2.oo t.2.out.length t.2.oc))), (4, .a (.v (.slice t.2.wo t.2.way.length t.2.wc))), (10, .a (.v (.slice ao L.length cap))), (11, .a (.v (.int .i64 L.length))), (12, .a (.v (.int .i64 (t.1 : Nat))))])
    (fun _ _ => []) (fun _ t => [stE9 t.2.wo t.2.wc t.2.way, srE t.2.oo t.2.oc t.2.out]) 0
    (fun s t => σ.le s ∧ t.1 ≤ L.length ∧ t.2.out.map SRow.ss ++ pathsF t.2.way (L.drop t.1) = pathsG L ∧ levelsOk (t.2.way.length + 1) (L.drop t.1) ∧ t.2.way.length ≤ t.1 ∧ t.2.way.length ≤ t.2.wc ∧ t.2.out.length ≤ t.2.oc ∧ t.2.out.length ≤ t.1 ∧ ∀ q ∈ t.2.out, SrOk s q)
    (fun _ t => L.length - t.1) σ (0, ⟨[], none, 0, [], none, 0⟩) ⟨Snap.le_refl _, Nat.zero_le _, rfl, hlev.mono (Nat.zero_le _), Nat.le_refl _, Nat.le_refl _, Nat.le_refl _, Nat.le_refl _, fun _ h => (by cases h)⟩ rfl (by (repeat (first | exact trivial | refine And.intro rfl ?_))) (by (repeat (first | exact trivial | refine And.intro rfl ?_))) rfl (by (repeat' (first | exact trivial | constructor))) (by (repeat' exact trivial)) fun s ⟨k, way, wo, wc, out, oo, oc⟩ ⟨hle, hk, hp, hlv, hwk, hwc, hoc, hok, hout⟩ => ?_
  dsimp only at hk hp hlv hwk hwc hoc hok hout ⊢
  have H := H.mono hle
  (repeat (first | refine cj_seq ?_ | (refine cj_region ?_; refine oj_run TT rfl ?_) | refine oj_then ?_))
  refine cj_if rfl (fun h => ?_) (fun h => ?_)
  rotate_left
  · have hk0 : k = L.length := by have := of_decide_eq_false h; omega
    subst hk0
    rw [List.drop_length, pathsF, List.append_nil] at hp
    (repeat (first | refine cj_exit ?_ | refine nj_then_exit ?_ | refine nj_block_out ?_))
    refine nj_again (s, (⟨way, wo, wc, out, oo, oc⟩ : PaS)) ⟨hp, hout, hoc⟩ Nat.zero_lt_one rfl (by (repeat (first | exact trivial | refine And.intro rfl ?_))) (by (repeat (first | exact trivial | refine And.intro rfl ?_))) rfl (by (repeat' (first | exact trivial | constructor))) (by (repeat' exact trivial))
  have hkl : k < L.length := by have := of_decide_eq_true h; omega
  have hrow := recRows_get (List.getElem?_eq_getElem hkl)
  have hfit := R.fit L[k] (List.getElem_mem hkl)
  rw [List.drop_eq_getElem_cons hkl] at hp hlv
  rw [pathsF] at hp
  generalize L[k] = x at *
  obtain ⟨hlv1, hlv2, hlv3⟩ := hlv
  obtain ⟨j, hj⟩ : ∃ j : Nat, (x.lv - 1).toNat = j := ⟨_, rfl⟩
  have hjw : j ≤ way.length := by omega
  have hps : pathStep way x = way.take j ++ (if x.nm then [dotS ++ x.name] else if 0 < x.lv then [elemS] else []) := by unfold pathStep; rw [hj]
  rw [hps] at hp
  (repeat (first | refine cj_seq ?_ | (refine cj_region ?_; refine oj_run TT rfl ?_) | refine cj_skip ?_ | refine cj_block ?_ | refine nj_then ?_))
  refine oj_idx TT rfl rfl rfl rfl rfl rfl rfl rfl rfl H (by omega) hrow (oj_run TT rfl ?_)
  (repeat (first | refine cj_seq ?_ | (refine cj_region ?_; refine oj_run TT rfl ?_) | refine oj_then ?_ | (refine oj_minus rfl rfl rfl rfl rfl rfl (by omega) ?_; refine oj_run TT rfl ?_)))
  have hmx : (if x.lv - 1 > 0 then x.lv - 1 else 0) = (j : Int) := by split <;> omega
  refine oj_mm rfl rfl rfl rfl rfl rfl rfl (oj_run TT rfl ?_)
  refine oj_slice_to TT j rfl rfl rfl rfl rfl rfl rfl rfl rfl hmx (by omega) hwc (oj_run TT rfl ?_)
  have hl1 : (way.take j).length = j := by rw [List.length_take]; omega
  have hcut : [stE9 wo wc way, srE oo oc out].set 0 (AE.cut (stE9 wo wc way) j) = [stE9 wo wc (way.take j), srE oo oc out] := by
    show [_, _] = [_, _]
    unfold stE9
    rw [hl1]
    simp [AE.cut, strXs, List.map_take]
  refine oj_cutArr 0 j rfl rfl hjw hcut ?_
  have hwcj : j ≤ wc := by omega
  have hjk : j ≤ k := by omega
  generalize way.take j = w1 at *
  subst hl1
  have hname := hfit.2.2
  simp only [mostLen] at hname
  refine oj_then ?_
  refine cj_cut (fun (_ : PaW) => s) (fun q => [(3, .a (.v (.slice oo out.length oc))), (4, .a (.v (.slice q.wo q.way.length q.wc))), (10, .a (.v (.slice ao L.length cap))), (11, .a (.v (.int .i64 L.length))), (12, .a (.v (.int .i64 k)))]) (fun _ => [])
    (fun q => [stE9 q.wo q.wc q.way, srE oo oc out]) 0 (fun q => q.way = w1 ++ (if x.nm then [dotS ++ x.name] else if 0 < x.lv then [elemS] else []) ∧ q.way.length ≤ q.wc) ?_ (fun q hq => ?_)
  · (repeat (first | refine cj_seq ?_ | (refine cj_region ?_; refine oj_run TT rfl ?_) | refine oj_then ?_ | refine cj_block ?_))
    refine cj_if rfl (fun h => ?_) (fun h => ?_)
    · (repeat (refine cj_region ?_; refine oj_run TT rfl ?_))
      refine oj_strcat rfl rfl rfl rfl rfl rfl (by show 1 + x.name.size ≤ _; omega) (oj_run TT rfl ?_)
      refine oj_append_lit TT 0 rfl rfl rfl rfl rfl rfl rfl rfl rfl rfl rfl rfl rfl rfl rfl rfl rfl rfl (by (repeat' (first | exact trivial | refine AllLt.of ?_ | constructor))) rfl (by omega) (by show (w1.length + 1) * 16 ≤ _; omega) fun wo' wc' hwc' => oj_run TT rfl ?_
      (repeat (first | refine oj_nil ?_ | refine nj_block ?_))
      refine nj_again (⟨w1 ++ [dotS ++ x.name], wo', wc'⟩ : PaW) ⟨by dsimp only; rw [if_pos h], by dsimp only; rw [List.length_append]; exact hwc'⟩ Nat.zero_lt_one rfl ?_ (by (repeat (first | exact trivial | refine And.intro rfl ?_))) ?_ (by (repeat' (first | exact trivial | constructor))) (by (repeat' exact trivial))
      · dsimp only
        rw [List.length_append]
        (repeat (first | exact trivial | refine And.intro rfl ?_))
      · show [_, _] = [_, _]
        dsimp only
        unfold stE9 strXs
        rw [List.map_append, List.length_append]
        rfl
    · (repeat (first | refine cj_seq ?_ | (refine cj_region ?_; refine oj_run TT rfl ?_) | refine oj_then ?_))
      refine cj_if rfl (fun h2 => ?_) (fun h2 => ?_)
      · have h2 := of_decide_eq_true h2
        (repeat (refine cj_region ?_; refine oj_run TT rfl ?_))
        refine oj_append_lit TT 0 rfl rfl rfl rfl rfl rfl rfl rfl rfl rfl rfl rfl rfl rfl rfl rfl rfl rfl (by (repeat' (first | exact trivial | refine AllLt.of ?_ | constructor))) rfl (by omega) (by show (w1.length + 1) * 16 ≤ _; omega) fun wo' wc' hwc' => oj_run TT rfl ?_
        (repeat (first | refine oj_nil ?_ | refine nj_block ?_))
        refine nj_again (⟨w1 ++ [elemS], wo', wc'⟩ : PaW) ⟨by dsimp only; rw [h, if_neg (by simp), if_pos (by omega)], by dsimp only; rw [List.length_append]; exact hwc'⟩ Nat.zero_lt_one rfl ?_ (by (repeat (first | exact trivial | refine And.intro rfl ?_))) ?_ (by (repeat' (first | exact trivial | constructor))) (by (repeat' exact trivial))
        · dsimp only
          rw [List.length_append]
          (repeat (first | exact trivial | refine And.intro rfl ?_))
        · show [_, _] = [_, _]
          dsimp only
          unfold stE9 strXs
          rw [List.map_append, List.length_append]
          rfl
      · have h2 := of_decide_eq_false h2
        (repeat (first | refine cj_skip ?_ | refine nj_block ?_))
        refine nj_again (⟨w1, wo, wc⟩ : PaW) ⟨by dsimp only; rw [h, if_neg (by simp), if_neg (by omega), List.append_nil], hwcj⟩ Nat.zero_lt_one rfl (by (repeat (first | exact trivial | refine And.intro rfl ?_))) (by (repeat (first | exact trivial | refine And.intro rfl ?_))) rfl (by (repeat' (first | exact trivial | constructor))) (by (repeat' exact trivial))
  obtain ⟨way', wo', wc'⟩ := q
  obtain ⟨hq, hqc⟩ := hq
  dsimp only at hq hqc ⊢
  rw [← hq] at hp
  have hwl : x.lv.toNat ≤ way'.length ∧ way'.length ≤ k + 1 := by
    rw [hq, List.length_append]
    split
    · rw [List.length_singleton]; omega
    · split
      · rw [List.length_singleton]; omega
      · rw [List.length_nil]; omega
  clear hq hps
  (repeat (refine cj_region ?_; refine oj_run TT rfl ?_))
  refine oj_peekF (Φ := fun v A' => ∃ bo bc, v = .slice bo way'.length bc ∧ way'.length ≤ bc ∧ A' = [stE9 bo bc way']) rfl rfl rfl rfl rfl Tryd.call93 (by (repeat' (first | exact trivial | constructor))) (fun σ' h1 h2 => CloneSt_c σ' way' (by omega) wo' wc' (st9_sealed (h2 0 _ rfl) hqc)) fun v A' ⟨bo, bc, hv, hbc, hA⟩ => ⟨.a (.v (.slice bo way'.length bc)), trivial, hv.symm, ?_⟩
  subst hA
  refine oj_seal 2 rfl rfl rfl fun σ2 hle2 hS => ?_
  have hnew : SrOk σ2 ⟨bo, bc, way'⟩ := ⟨by dsimp only; omega, st9_sealed hS hbc⟩
  refine oj_run TT rfl ?_
  refine oj_append_lit TT 1 rfl rfl rfl rfl rfl rfl rfl rfl rfl rfl rfl rfl rfl rfl rfl rfl rfl rfl (by (repeat' (first | exact trivial | refine AllLt.of ?_ | constructor))) rfl (by omega) (by show (out.length + 1) * 24 ≤ _; omega) fun oo' oc' hoc' => oj_run TT rfl ?_
  (repeat (first | (refine cj_region ?_; refine oj_run TT rfl ?_) | refine oj_nil ?_ | refine nj_then ?_ | refine nj_block ?_ | (refine oj_add rfl rfl rfl rfl rfl rfl (by omega) ?_; refine oj_run TT rfl ?_)))
  refine nj_again (σ2, k + 1, (⟨way', wo', wc', out ++ [⟨bo, bc, way'⟩], oo', oc'⟩ : PaS)) ⟨Snap.le_trans hle hle2, hkl, by dsimp only; rw [List.map_append, List.append_assoc]; exact hp, hlv3.mono (by dsimp only; omega), hwl.2, hqc, by dsimp only; rw [List.length_append]; exact hoc', by dsimp only; rw [List.length_append, List.length_singleton]; omega, fun q hq => ?_⟩ (by dsimp only; omega) rfl ?_ (by (repeat (first | exact trivial | refine And.intro rfl ?_))) ?_ (by (repeat' (first | exact trivial | constructor))) (by (repeat' exact trivial))
  · rcases List.mem_append.1 hq with hq | hq
    · exact (hout q hq).mono hle2
    · rw [List.mem_singleton] at hq; subst hq; exact hnew
  · dsimp only
    rw [List.length_append]
    (repeat (first | exact trivial | refine And.intro rfl ?_))
  · show [_, _] = [_, _]
    dsimp only
    unfold srE
    rw [srXs_append, List.length_append]
    rfl
end Go.Sy
/- Arrays that are made, of elements of several cells. No program in sight. -/
namespace Go.Sy
theorem madeCells_rep (z : List Value) (k : Nat) : (madeCells z.toArray (k * z.length)).toList = (List.replicate k z).flatten := by
  have hall : ∀ r ∈ List.replicate k z, r.length = z.length := fun r hr => by rw [List.eq_of_mem_replicate hr]
  have hl : (List.replicate k z).flatten.length = k * z.length := by rw [flat_len hall, List.length_replicate]
  have hl2 : (madeCells z.toArray (k * z.length)).toList.length = k * z.length := by rw [Array.length_toList, size_madeCells]
  apply List.ext_getElem?
  intro i
  by_cases hi : i < k * z.length
  · have hz : 0 < z.length := by
      rcases Nat.eq_zero_or_pos z.length with h | h
      · rw [h, Nat.mul_zero] at hi; omega
      · exact h
    have hm : i / z.length < k := Nat.div_lt_of_lt_mul (by rw [Nat.mul_comm]; exact hi)
    have hj : i % z.length < z.length := Nat.mod_lt _ hz
    have := flat_get hall (m := i / z.length) (j := i % z.length) (r := z) (c := z[i % z.length]) (by rw [List.getElem?_replicate, if_pos hm]) (List.getElem?_eq_getElem hj)
    rw [Nat.mul_comm, Nat.div_add_mod] at this
    rw [this]
    unfold madeCells
    rw [Array.getElem?_toList, Array.getElem?_map, Array.getElem?_range, if_pos hi]
    simp [hj]
  · rw [List.getElem?_eq_none (by omega), List.getElem?_eq_none (by omega)]
section
variable {cf : Cf} {Q : Exit → Act → World → Prop} {σ : Snap} {env : Env} {hp : HP} {A : List AE} {nh : Nat} {it : Item} {rest : List Item}

/-- 'make([]T, n)'. -/
theorem oj_makeSliceN {d : Nat} {t e n : Nat} {x y : Operand} {T : List (Nat × TI)} (hT : TTok cf.P T) {ti te : TI} (xs : List Value) (hop : it.o.op = .makeSlice t x y) (hd : it.o.dst = some d) (hg : guardVal it.guard env = some true) (hN : Nat.blt d cf.N = true)
    (htg : canSink it.tag = true) (hx : evalO env x = some (.a (.v (.int .i64 n)))) (hy : evalO env y = some (.a (.v (.int .i64 n)))) (ht : tget T t = some ti) (hkt : ti.kind = .slice e) (hte : tget T e = some te)
    (hby : n * te.bytes ≤ 281474976710656) (hmax : n ≤ 1000000000) (hxs : (madeCells (te.zero.map AT.val).toArray (n * te.size)).toList = xs)
    (hk : ∀ g, OJ cf rest Q σ ((d, .a (.v (.slice (some ⟨g, 0, none⟩) n n))) :: env) hp (A ++ [⟨some ⟨g, 0, none⟩, n, n, e, te.size, xs⟩]) nh) : OJ cf (it :: rest) Q σ env hp A nh := by
  refine oj_step hd hg hN htg fun hb a β ha w hw => ?_
  obtain ⟨i1, d1, z1, hs1⟩ := tiOf_spec (hT _ _ ht)
  obtain ⟨i3, d3, z3, hs3⟩ := tiOf_spec (hT _ _ hte)
  have hut : cf.P.underlying t = some (.slice e) := by
    have h1 := hs1.kind
    rw [hkt] at h1
    have h2 := hs1.und
    cases d1 <;> first
      | (simp only [kindD, TK.slice.injEq] at h1; subst h1; exact h2)
      | (simp only [kindD] at h1; cases h1)
  have hz3 : z3.cells = (te.zero.map AT.val).toArray := (zero_den hs3 β0).symm
  have hxl : xs.length = n * te.size := by rw [← hxs, Array.length_toList, size_madeCells]
  have hxe : a.eval x = .int .i64 n := evalO_eval ha hx
  have hye : a.eval y = .int .i64 n := evalO_eval ha hy
  have hrun := run_make (P := cf.P) w t e i3 z3 hut hs3.info hs3.zero .i64 .i64 n n (by omega) (Int.le_refl _) (by rw [hs3.bytes]; rw [← Int.natCast_mul, Nat.mul_comm]; omega) (by omega)
  rw [hs3.size, Int.toNat_natCast, hz3] at hrun
  have hm := ((StW.nilArr e te.size).1 hw).moveArr (i := A.length) (E := ⟨none, 0, 0, e, te.size, []⟩) (E' := ⟨some ⟨w.heap.size, 0, none⟩, n, n, e, te.size, xs⟩) (cur' := madeCells (te.zero.map AT.val).toArray (n * te.size)) (by simp) rfl (Nat.le_refl _) (by simp only [maxLen]; omega) (by dsimp only; exact hxl) (by rw [size_madeCells]) (by dsimp only; rw [hxs, ← hxl, List.take_length])
  have hset : (A ++ [(⟨none, 0, 0, e, te.size, []⟩ : AE)]).set A.length ⟨some ⟨w.heap.size, 0, none⟩, n, n, e, te.size, xs⟩ = A ++ [⟨some ⟨w.heap.size, 0, none⟩, n, n, e, te.size, xs⟩] := by
    rw [List.set_append_right _ _ (Nat.le_refl _), Nat.sub_self]
    rfl
  rw [hset] at hm
  refine ⟨.a (.v (.slice (some ⟨w.heap.size, 0, none⟩) n n)), σ, hp, _, nh, _, β, ?_, ha, hb.put (x := .a (.v (.slice (some ⟨w.heap.size, 0, none⟩) n n))) trivial d, hm.undrew, hk w.heap.size⟩
  simp only [execOp, hop, hxe, hye, Sem.run_bind, hrun, Result.andThen_ok, Sem.run_pure]
  rfl
end

/-! ### A row becomes an array, also where other rows speak of it -/

def concH (h g : Nat) : HP → HP
  | [] => []
  | (i, k, cs) :: l => (i, k, cs.map (conc h g)) :: concH h g l
theorem concH_get {h g : Nat} : ∀ {hp : HP} {i : Nat}, (concH h g hp).get i = (hp.get i).map fun x => (x.1, x.2.map (conc h g))
  | [], _ => rfl
  | (j, k, cs) :: l, i => by
    rw [concH, HP.get_cons, HP.get_cons]
    split
    · rfl
    · exact concH_get
theorem concH_some {h g : Nat} {hp : HP} {i : Nat} {k : HK} {cs' : List AT} (hi : (concH h g hp).get i = some (k, cs')) : ∃ cs, hp.get i = some (k, cs) ∧ cs' = cs.map (conc h g) := by
  rw [concH_get] at hi
  cases hx : hp.get i with
  | none => rw [hx] at hi; cases hi
  | some x =>
    rw [hx] at hi
    obtain ⟨k0, cs⟩ := x
    simp only [Option.map_some, Option.some.injEq, Prod.mk.injEq] at hi
    exact ⟨cs, by rw [hi.1], hi.2.symm⟩
theorem concH_of {h g : Nat} {hp : HP} {i : Nat} {k : HK} {cs : List AT} (hi : hp.get i = some (k, cs)) : (concH h g hp).get i = some (k, cs.map (conc h g)) := by
  rw [concH_get, hi]
  rfl
section
variable {cf : Cf} {σ : Snap} {hp : HP} {A : List AE} {β : Nat → Addr} {w : World}
theorem StW.concH {h g : Nat} (hβ : β h = ⟨g, 0, none⟩) : StW cf σ hp A β w ↔ StW cf σ (concH h g hp) A β w := by
  constructor
  · intro s
    refine ⟨s.os, s.tape, s.output, s.size, s.fr, s.sealed, s.le, s.grow, fun i e cs hi => ?_, fun i cs hi j c hc => ?_, fun i j e e' cs cs' hi hj => ?_, s.arr, s.arrd, fun i j E e cs hE hj => ?_⟩
    · obtain ⟨cs0, h1, rfl⟩ := concH_some hi
      obtain ⟨q1, q2, q3⟩ := s.loc i e cs0 h1
      exact ⟨q1, by rw [concL_den hβ]; exact q2, q3⟩
    · obtain ⟨cs0, h1, rfl⟩ := concH_some hi
      rw [List.getElem?_map] at hc
      cases hc0 : cs0[j]? with
      | none => rw [hc0] at hc; cases hc
      | some c0 =>
        rw [hc0] at hc
        obtain rfl := Option.some.inj hc
        rw [conc_den hβ]
        exact s.ro i cs0 h1 j c0 hc0
    · obtain ⟨c1, h1, rfl⟩ := concH_some hi
      obtain ⟨c2, h2, rfl⟩ := concH_some hj
      exact s.inj i j e e' c1 c2 h1 h2
    · obtain ⟨c1, h1, rfl⟩ := concH_some hj
      exact s.arrh i j E e c1 hE h1
  · intro s
    refine ⟨s.os, s.tape, s.output, s.size, s.fr, s.sealed, s.le, s.grow, fun i e cs hi => ?_, fun i cs hi j c hc => ?_, fun i j e e' cs cs' hi hj => ?_, s.arr, s.arrd, fun i j E e cs hE hj => ?_⟩
    · obtain ⟨q1, q2, q3⟩ := s.loc i e _ (concH_of hi)
      rw [concL_den hβ] at q2
      exact ⟨q1, q2, q3⟩
    · have := s.ro i _ (concH_of hi) j (conc h g c) (by rw [List.getElem?_map, hc]; rfl)
      rw [conc_den hβ] at this
      exact this
    · exact s.inj i j e e' _ _ (concH_of hi) (concH_of hj)
    · exact s.arrh i j E e _ hE (concH_of hj)
end
section
variable {cf : Cf} {Q : Exit → Act → World → Prop} {σ : Snap} {env : Env} {hp : HP} {A : List AE} {nh : Nat}
theorem Bd.concH {h g : Nat} (hb : Bd env hp nh) : Bd env (concH h g hp) nh := by
  refine ⟨hb.env, fun i k cs hi => ?_⟩
  obtain ⟨cs0, h1, rfl⟩ := concH_some hi
  obtain ⟨h2, h3⟩ := hb.hp i k cs0 h1
  refine ⟨h2, fun c hc => ?_⟩
  obtain ⟨c0, h4, rfl⟩ := List.mem_map.1 hc
  exact conc_lt (h3 c0 h4)
theorem oj_ownH {l : List Item} (h : Nat) {e : TypeId} {cs : List AT} (n sz : Nat) (hrow : hp.get h = some (.loc e, cs)) (hcs : ∀ c ∈ cs, c.lt 0) (hlen : cs.length = n * sz) (hn : n ≤ 9223372036854775807)
    (k : ∀ g, OJ cf l Q σ (concE h g env) (concH h g (HP.del h hp)) (A ++ [⟨some ⟨g, 0, none⟩, n, n, e, sz, cs.map AT.val⟩]) nh) : OJ cf l Q σ env hp A nh := by
  refine ⟨fun hb a β ha hex => ?_⟩
  obtain ⟨w, hw⟩ := hex
  have hβ : β h = ⟨(β h).block, 0, none⟩ := (hw.loc h e cs hrow).1
  have e1 : (fun w => StW cf σ hp A β w) = fun w => StW cf σ (concH h (β h).block (HP.del h hp)) (A ++ [⟨some ⟨(β h).block, 0, none⟩, n, n, e, sz, cs.map AT.val⟩]) β w := by
    funext w; exact propext ((StW.own hrow hcs hβ hlen (by simp only [maxLen]; exact hn)).trans (StW.concH hβ))
  rw [e1]
  exact (k _).run hb.conc.concH a β (ha.conc hβ) ⟨w, (congrFun e1 w) ▸ hw⟩
theorem cj_ownH {c : Code} (h : Nat) {e : TypeId} {cs : List AT} (n sz : Nat) (hrow : hp.get h = some (.loc e, cs)) (hcs : ∀ c ∈ cs, c.lt 0) (hlen : cs.length = n * sz) (hn : n ≤ 9223372036854775807)
    (k : ∀ g, CJ cf c Q σ (concE h g env) (concH h g (HP.del h hp)) (A ++ [⟨some ⟨g, 0, none⟩, n, n, e, sz, cs.map AT.val⟩]) nh) : CJ cf c Q σ env hp A nh := by
  refine ⟨fun hb a β w ha hw => ?_⟩
  have hβ : β h = ⟨(β h).block, 0, none⟩ := (hw.loc h e cs hrow).1
  exact (k _).run hb.conc.concH a β w (ha.conc hβ) ((StW.concH hβ).1 ((StW.own hrow hcs hβ hlen (by simp only [maxLen]; exact hn)).1 hw))
end
end Go.Sy
namespace Go.Sy
open Go.Proofs

/-! ### awake of layer 13 -/

def nullG : GVal := .mk 0 false dec0 emptyS [] [] []
def twoG : GVal := .mk 4 false dec0 emptyS [nullG, nullG] [] []
def aw13 : GVal := .mk 5 false dec0 emptyS [] [⟨#[97]⟩] [twoG]
def aw13L : List GRec := [⟨1, 8, 0, 5, false, emptyS, false, dec0, emptyS⟩, ⟨2, 7, 1, 4, true, ⟨#[97]⟩, false, dec0, emptyS⟩, ⟨3, 4, 2, 0, false, emptyS, false, dec0, emptyS⟩, ⟨5, 6, 2, 0, false, emptyS, false, dec0, emptyS⟩]
theorem aw13_shred : shredG aw13 1 = (aw13L, 0) := by decide
theorem aw13_sound : soundG aw13L = true := by decide
theorem aw13_ok : RecsOk aw13L := ⟨by decide, fun r hr => by simp only [aw13L, List.mem_cons, List.not_mem_nil, or_false] at hr; rcases hr with rfl | rfl | rfl | rfl <;> exact ⟨by decide, by decide, by decide⟩, fun _ => by decide⟩
def aw13P : List (List ByteArray) := [[], [⟨#[46, 97]⟩], [⟨#[46, 97]⟩, elemS], [⟨#[46, 97]⟩, elemS]]
theorem aw13_paths : pathsG aw13L = aw13P := by decide

theorem null_rep (σ : Snap) : RepV σ nullG (vCells nullG none 0 none 0) := by
  simp only [nullG, RepV]
  exact ⟨none, 0, [], none, 0, [], rfl, SlAt.nil _ _ _ _, rfl, rfl, SlAt.nil _ _ _ _, rfl, by decide, by decide, by decide, by decide, fun k h => (by cases h)⟩

theorem aw13_levels : levelsOk 0 aw13L := by
  refine ⟨by decide, by decide, ?_⟩
  refine ⟨by decide, by decide, ?_⟩
  refine ⟨by decide, by decide, ?_⟩
  exact ⟨by decide, by decide, trivial⟩
def aS : ByteArray := ⟨#[46, 97]⟩
theorem aw13_list {ps : List SRow} (h : ps.map SRow.ss = aw13P) : ∃ a0 c0 a1 c1 a2 c2 a3 c3, ps = [⟨a0, c0, []⟩, ⟨a1, c1, [aS]⟩, ⟨a2, c2, [aS, elemS]⟩, ⟨a3, c3, [aS, elemS]⟩] := by
  match ps, h with
  | [⟨a0, c0, s0⟩, ⟨a1, c1, s1⟩, ⟨a2, c2, s2⟩, ⟨a3, c3, s3⟩], h =>
    simp only [aw13P, List.map_cons, List.map_nil, List.cons.injEq, and_true] at h
    obtain ⟨rfl, rfl, rfl, rfl⟩ := h
    exact ⟨a0, c0, a1, c1, a2, c2, a3, c3, rfl⟩
def aw13X (a0 : Option Addr) (c0 : Nat) (a1 : Option Addr) (c1 : Nat) (a2 : Option Addr) (c2 : Nat) : List GLine := [⟨0, a0, c0, [], 1⟩, ⟨1, a1, c1, [aS], 1⟩, ⟨2, a2, c2, [aS, elemS], 2⟩]
theorem aw13_add (a0 : Option Addr) (c0 : Nat) (a1 : Option Addr) (c1 : Nat) (a2 : Option Addr) (c2 : Nat) (a3 : Option Addr) (c3 : Nat) :
    addAll ⟨[], 0, []⟩ [⟨a0, c0, []⟩, ⟨a1, c1, [aS]⟩, ⟨a2, c2, [aS, elemS]⟩, ⟨a3, c3, [aS, elemS]⟩] = ⟨aw13X a0 c0 a1 c1 a2 c2, 3, [0, 1, 2, 2]⟩ := rfl
theorem aw13_find (a0 : Option Addr) (c0 : Nat) (a1 : Option Addr) (c1 : Nat) (a2 : Option Addr) (c2 : Nat) : findIdG (aw13X a0 c0 a1 c1 a2 c2) [aS, elemS] = 2 := rfl
theorem aw13_gsound (a0 : Option Addr) (c0 : Nat) (a1 : Option Addr) (c1 : Nat) (a2 : Option Addr) (c2 : Nat) : soundGd (aw13X a0 c0 a1 c1 a2 c2) 3 = true := rfl

set_option maxRecDepth 100000 in
set_option maxHeartbeats 1000000 in
theorem awake13_c (σ : Snap) : PlainS Tryd.prog 46 [] σ (fun v => v = .bool true) := by
  refine enter_p Tryd.func46 rfl rfl (by (repeat' exact trivial)) fun w => ?_
  (repeat (first | refine cj_seq ?_ | (refine cj_region ?_; refine oj_run TT rfl ?_) | refine oj_then ?_))
  refine oj_makeSliceN (n := 2) TT _ rfl rfl rfl rfl rfl rfl rfl rfl rfl rfl (by decide) (by decide) (madeCells_rep ((vCells nullG none 0 none 0).map AT.val) 2) fun g0 => ?_
  refine oj_seal 0 rfl rfl rfl fun σ1 hle1 hS => ?_
  have H1 : SlAt σ1 (some ⟨g0, 0, none⟩) 2 2 8 [vCells nullG none 0 none 0, vCells nullG none 0 none 0] := hS.sl (rows := [vCells nullG none 0 none 0, vCells nullG none 0 none 0]) rfl (fun r hr => by
    simp only [List.mem_cons, List.not_mem_nil, or_false] at hr
    rcases hr with rfl | rfl <;> exact ⟨rfl, vCells_lt _ _ _ _ _ _⟩) rfl rfl (Nat.le_refl _)
  have R1 : RepV σ1 twoG (vCells twoG (some ⟨g0, 0, none⟩) 2 none 0) := by
    simp only [twoG, RepV]
    exact ⟨some ⟨g0, 0, none⟩, 2, _, none, 0, [], rfl, H1, ⟨_, _, rfl, null_rep σ1, _, _, rfl, null_rep σ1, rfl⟩, rfl, SlAt.nil _ _ _ _, rfl, by decide, by decide, by decide, by decide, fun k h => (by cases h)⟩
  refine oj_run TT rfl ?_
  refine oj_ownH 0 1 9 rfl (by (repeat' (first | exact trivial | refine AllLt.of ?_ | constructor))) rfl (by decide) fun g1 => ?_
  refine oj_seal 0 rfl rfl rfl fun σ2 hle2 hS => ?_
  have H2 : SlAt σ2 (some ⟨g1, 0, none⟩) 1 1 9 (keyRows [⟨#[97]⟩] [vCells twoG (some ⟨g0, 0, none⟩) 2 none 0]) := hS.sl (rows := keyRows [⟨#[97]⟩] [vCells twoG (some ⟨g0, 0, none⟩) 2 none 0]) rfl (fun r hr => by
    simp only [keyRows, List.mem_singleton] at hr
    subst hr
    exact ⟨rfl, by (repeat' (first | exact trivial | refine AllLt.of ?_ | constructor))⟩) rfl rfl (Nat.le_refl _)
  have hrep : RepV σ2 aw13 (vCells aw13 none 0 (some ⟨g1, 0, none⟩) 1) := by
    simp only [aw13, RepV]
    exact ⟨none, 0, [], some ⟨g1, 0, none⟩, 1, _, rfl, SlAt.nil _ _ _ _, rfl, rfl, H2, ⟨_, _, rfl, R1.mono hle2, rfl⟩, by decide, by decide, by decide, by decide, fun k h => (by rw [List.mem_singleton.1 h]; decide)⟩
  (repeat (first | refine cj_seq ?_ | (refine cj_region ?_; refine oj_run TT rfl ?_) | refine oj_then ?_))
  refine oj_set 13 (.agg (vCells aw13 none 0 (some ⟨g1, 0, none⟩) 1)) rfl (vCells_lt _ _ _ _ _ _) (fun _ => rfl) ?_
  refine oj_callS rfl rfl rfl rfl rfl Tryd.call21 ⟨vCells_lt _ _ _ _ _ _, trivial, trivial⟩ (Shred_s σ2 aw13 _ 1 hrep (by decide)) fun v σ3 hle3 ⟨ao, cap, hv, H⟩ => ⟨.tup [.a (.v (.slice ao 4 cap)), .a (.v (.int .i64 0))], (by (repeat' (first | exact trivial | refine SV.lt_tup ?_ | constructor))), (by rw [hv, aw13_shred]; rfl), ?_⟩
  rw [aw13_shred] at H
  have H : SlAt σ3 ao 4 cap 11 (recRows aw13L) := H
  refine oj_run TT rfl ?_
  (repeat (first | refine cj_seq ?_ | (refine cj_region ?_; refine oj_run TT rfl ?_) | refine oj_then ?_))
  refine oj_callS rfl rfl rfl rfl rfl Tryd.call53 (by (repeat' (first | exact trivial | constructor))) (Paths_c σ3 aw13L aw13_ok (by decide) aw13_sound aw13_levels ao cap H) fun v σ4 hle4 ⟨ps, oo, oc, hv, HP, hps, hpe⟩ => ⟨.a (.v (.slice oo ps.length oc)), trivial, hv.symm, ?_⟩
  rw [aw13_paths] at hpe
  obtain ⟨a0, c0, a1, c1, a2, c2, a3, c3, rfl⟩ := aw13_list hpe
  refine oj_run TT rfl ?_
  (repeat (first | refine cj_seq ?_ | (refine cj_region ?_; refine oj_run TT rfl ?_) | refine oj_then ?_))
  refine oj_callS rfl rfl rfl rfl rfl Tryd.call48 (by (repeat' (first | exact trivial | refine AllLt.of ?_ | constructor))) (Add_c σ4 [] 0 none 0 (SlAt.nil _ _ _ _) (fun _ h => (by cases h)) _ oo oc HP hps 0 ⟨Nat.le_refl _, Nat.le_refl _, by decide, fun _ h => (by cases h)⟩ (by show 0 + 4 ≤ 1000000; decide)) fun v σ5 hle5 ⟨bo, bc, io, ic, hv, HX, HI⟩ => ⟨.tup [.agg [.v (.slice bo 3 bc), .v (.int .i64 3)], .a (.v (.slice io 4 ic))], (by (repeat' (first | exact trivial | refine AllLt.of ?_ | refine SV.lt_tup ?_ | constructor))), (by rw [hv, aw13_add]; rfl), ?_⟩
  have hok := addAll_ok (σ := σ5) _ (s := ⟨[], 0, []⟩) (fun _ h => (by cases h)) (fun p h => (hps p h).mono hle5)
  rw [aw13_add] at HX HI hok
  dsimp only at HX HI hok
  have hX2 : (lnRows (aw13X a0 c0 a1 c1 a2 c2))[(2 : Int).toNat]? = some (lnCells ⟨2, a2, c2, [aS, elemS], 2⟩) := rfl
  have hX3 := aw13_find a0 c0 a1 c1 a2 c2
  have hX4 := aw13_gsound a0 c0 a1 c1 a2 c2
  have hXl : (aw13X a0 c0 a1 c1 a2 c2).length = 3 := rfl
  generalize aw13X a0 c0 a1 c1 a2 c2 = X at *
  rw [hXl] at HX
  refine oj_run TT rfl ?_
  (repeat (first | refine cj_seq ?_ | (refine cj_region ?_; refine oj_run TT rfl ?_) | refine oj_then ?_))
  refine oj_split 27 rfl (fun h => ?_) (fun h => absurd h (by decide))
  refine oj_run TT rfl ?_
  refine oj_split 32 rfl (fun h => ?_) (fun h => absurd (show decide ((4 : Int) = 4) = false from h) (by decide))
  refine oj_run TT rfl ?_
  refine oj_split 38 rfl (fun h => ?_) (fun h => absurd h (by decide))
  refine oj_run TT rfl ?_
  refine oj_idx TT rfl rfl rfl rfl rfl rfl rfl rfl rfl HX (by decide) hX2 (oj_run TT rfl ?_)
  refine oj_split 46 rfl (fun h => ?_) (fun h => absurd (show decide ((2 : Int) = 2) = false from h) (by decide))
  refine oj_run TT rfl ?_
  refine oj_split 51 rfl (fun h => ?_) (fun h => absurd h (by decide))
  refine oj_run TT rfl ?_
  refine oj_idx TT rfl rfl rfl rfl rfl rfl rfl rfl rfl HI (by decide) (show (idRows [0, 1, 2, 2])[(3 : Int).toNat]? = some [.v (.int .i64 2)] from rfl) (oj_run TT rfl ?_)
  refine oj_split 57 rfl (fun h => ?_) (fun h => absurd h (by decide))
  refine oj_run TT rfl ?_
  refine oj_own 5 2 1 rfl (by (repeat' (first | exact trivial | refine AllLt.of ?_ | constructor))) rfl (by decide) fun g5 => ?_
  refine oj_seal 0 rfl rfl rfl fun σ6 hle6 hS => ?_
  have HS : SlAt σ6 (some ⟨g5, 0, none⟩) 2 2 1 (strRows [aS, elemS]) := hS.sl (rows := strRows [aS, elemS]) rfl (fun r hr => ⟨(strRows_all _ r hr).1, (strRows_all _ r hr).2.1⟩) rfl rfl (Nat.le_refl _)
  have HX := HX.mono hle6
  have hok := fun x h => (hok x h).mono hle6
  have HX : SlAt σ6 bo X.length bc 3 (lnRows X) := by rw [hXl]; exact HX
  have hf := FindGd_c σ6 X (by rw [hXl]; decide) bo bc 3 HX hok [aS, elemS] (some ⟨g5, 0, none⟩) 2 HS
  have hs := SoundGd_c σ6 X (by rw [hXl]; decide) bo bc 3 HX hok
  rw [hXl] at hf hs
  refine oj_callP rfl rfl rfl rfl rfl Tryd.call49 (by (repeat' (first | exact trivial | refine AllLt.of ?_ | constructor))) hf fun v hv => ⟨.a (.v (.int .i64 2)), trivial, (by rw [hv, hX3]; rfl), ?_⟩
  refine oj_run TT rfl ?_
  refine oj_split 63 rfl (fun h => ?_) (fun h => absurd h (by decide))
  refine oj_run TT rfl ?_
  refine oj_callP rfl rfl rfl rfl rfl Tryd.call52 (by (repeat' (first | exact trivial | refine AllLt.of ?_ | constructor))) hs fun v hv => ⟨.a .tt, trivial, (by rw [hv, hX4]; rfl), ?_⟩
  refine oj_run TT rfl ?_
  (repeat (first | refine oj_then ?_ | refine cj_ret ?_))
  refine nj_ret TT rfl fun β w' _ _ => ?_
  rfl
end Go.Sy
/- Regions whose orders fork: of two operations that change the world, either may come first, and both ways are gone. No program in sight. -/
namespace Go.Sy

/-- THE JUDGEMENT INSIDE A REGION: these are listed, n are to come. -/
structure GJ (cf : Cf) (ops : Array Oper) (U bef : List Nat) (n : Nat) (listed : Array Bool) (fst : Bool) (Q : Exit → Act → World → Prop) (σ : Snap) (env : Env) (hp : HP) (A : List AE) (nh : Nat) : Prop where
  run : Region.noSelect ops = true → Bd env hp nh → ∀ a β, StA cf env β a → (∃ w, StW cf σ hp A β w) → Closed ops listed → ∀ E0 : World → Prop, (∀ x, StW cf σ hp A β x → E0 x) →
    (fst = true → ∀ x, E0 x → StW cf σ hp A β x) → wpAnyC cf.P ops U Q n listed a E0 (fun w => StW cf σ hp A β w)
/-- The same, j being next. -/
structure GK (cf : Cf) (ops : Array Oper) (U bef : List Nat) (n : Nat) (listed : Array Bool) (j : Nat) (Q : Exit → Act → World → Prop) (σ : Snap) (env : Env) (hp : HP) (A : List AE) (nh : Nat) : Prop where
  run : Region.noSelect ops = true → Bd env hp nh → ∀ a β, StA cf env β a → (∃ w, StW cf σ hp A β w) → Closed ops listed → j ∈ Region.ready .any ops listed → ∀ E0 : World → Prop, (∀ x, StW cf σ hp A β x → E0 x) →
    stepC cf.P ops U Q j (wpAnyC cf.P ops U Q n (listed.setIfInBounds j true)) a E0 (fun w => StW cf σ hp A β w)

section
variable {cf : Cf} {Q : Exit → Act → World → Prop} {σ : Snap} {env : Env} {hp : HP} {A : List AE} {nh : Nat} {ops : Array Oper} {U bef : List Nat} {n : Nat} {listed : Array Bool} {fst : Bool}

theorem cj_drawG {id : Nat} (m : Nat) (U : List Nat) (hm : cf.P.follows .mixedOrders = true) (hs : Region.noSelect ops = true) (hn : ops.size = m)
    (h : GJ cf ops U [] m (Array.replicate m false) true Q σ env hp A nh) (hd : okRd cf.rd ops = true := by rfl) : CJ cf (.region id ops true) Q σ env hp A nh := by
  subst hn
  refine ⟨fun hb a β w ha hw => wpIn_region_any hm ?_⟩
  have hc : Closed ops (Array.replicate ops.size false) := ⟨by simp, fun j oj _ hl => by
    exfalso
    rcases Nat.lt_or_ge j ops.size with h | h
    · simp [h] at hl
    · simp [h] at hl⟩
  exact wpAnyIn_of_C (okRd_mem hd) _ _ _ _ _ _ hw.drew (h.run hs hb a β ha ⟨_, hw⟩ hc _ (fun _ h => h) (fun _ _ h => h))

/-- One value, told. -/
theorem gj_valT {i d : Nat} {o : Oper} (y : SV) (hi : ops[i]? = some o) (hr : (Region.ready .any ops listed).contains i = true) (hf : Region.free .any ops listed i = true) (hk : (U.contains i || fst) = true)
    (hd : o.dst = some d) (hg : guardVal (slotOf ops o) env = some true) (hN : Nat.blt d cf.N = true) (hlt : y.lt nh)
    (hrun : Bd env hp nh → ∀ a β, StA cf env β a → ∀ w, (U.contains i = false → StW cf σ hp A β w) → (execOp a.eval o).run cf.P w = .ok (.value (y.den β)) w)
    (k : GJ cf ops U (bef ++ [i]) n (listed.setIfInBounds i true) fst Q σ ((d, y) :: env) hp A nh) : GJ cf ops U bef (n + 1) listed fst Q σ env hp A nh := by
  refine ⟨fun hs hb a β ha hex hc E0 hE hF => ?_⟩
  have hN' : d < cf.N := by simpa [Nat.blt_eq] using hN
  have hr' : i ∈ Region.ready .any ops listed := by simpa using hr
  have hw : Region.wanted o (yielded ops a.tmps) = true := by rw [← wantedS_slotOf]; exact guardVal_ok ha hg
  have hrest := k.run hs (hb.put hlt d) _ β (ha.put hN' y) hex (hc.set hr') E0 hE hF
  refine wpAnyC_first hi (Region.noSelect_spec hs) n listed a E0 _ hc hE (Region.free_spec hi hf) hr' ⟨.inl ⟨hw, fun w hE0 => .inl ?_⟩, fun hu => .inl ⟨hw, fun w _ => .inl ?_⟩⟩ (by rw [hd]; exact hrest)
  · refine hrun hb a β ha w fun hu => ?_
    rw [hu, Bool.false_or] at hk
    exact hF hk w hE0
  · exact hrun hb a β ha w fun hu' => absurd (List.contains_iff_mem.2 hu) (by rw [hu']; simp)

/-- One value, reckoned. -/
theorem gj_val {i d : Nat} {o : Oper} {T : List (Nat × TI)} (hT : TTok cf.P T) {x : SV} (hi : ops[i]? = some o) (hr : (Region.ready .any ops listed).contains i = true) (hf : Region.free .any ops listed i = true)
    (hk : (bif U.contains i then !isLoad o.op else fst) = true) (hd : o.dst = some d) (hg : guardVal (slotOf ops o) env = some true) (hN : Nat.blt d cf.N = true) (h : stepOp T o.op env hp nh = some (.val x))
    (k : GJ cf ops U (bef ++ [i]) n (listed.setIfInBounds i true) fst Q σ ((d, x) :: env) hp A nh) : GJ cf ops U bef (n + 1) listed fst Q σ env hp A nh := by
  refine ⟨fun hs hb a β ha hex hc E0 hE hF => ?_⟩
  have hx : x.lt nh := (step_ok (o := o) hT ha hb h).1
  refine (gj_valT x hi hr hf ?_ hd hg hN hx (fun hb a β ha w hw => ?_) k).run hs hb a β ha hex hc E0 hE hF
  · cases hu : U.contains i <;> rw [hu] at hk
    · simpa using hk
    · rfl
  · refine (step_ok (o := o) hT ha hb h).2 w fun hl => ⟨σ, A, hw ?_⟩
    cases hu : U.contains i with
    | false => rfl
    | true => rw [hu, cond_true, hl] at hk; cases hk

/-- What is not wanted. -/
theorem gj_skip {i d : Nat} {o : Oper} (hi : ops[i]? = some o) (hr : (Region.ready .any ops listed).contains i = true) (hf : Region.free .any ops listed i = true) (hd : o.dst = some d) (hg : guardVal (slotOf ops o) env = some false)
    (hN : Nat.blt d cf.N = true) (k : GJ cf ops U (bef ++ [i]) n (listed.setIfInBounds i true) fst Q σ ((d, undefSV) :: env) hp A nh) : GJ cf ops U bef (n + 1) listed fst Q σ env hp A nh := by
  refine ⟨fun hs hb a β ha hex hc E0 hE hF => ?_⟩
  have hN' : d < cf.N := by simpa [Nat.blt_eq] using hN
  have hr' : i ∈ Region.ready .any ops listed := by simpa using hr
  have hw : Region.wanted o (yielded ops a.tmps) = false := by rw [← wantedS_slotOf]; exact guardVal_ok ha hg
  have hrest := k.run hs (hb.put (undef_lt nh) d) _ β (ha.put hN' undefSV) hex (hc.set hr') E0 hE hF
  exact wpAnyC_first hi (Region.noSelect_spec hs) n listed a E0 _ hc hE (Region.free_spec hi hf) hr' ⟨.inr ⟨hw, rfl⟩, fun _ => .inr ⟨hw, rfl⟩⟩ (by rw [hd]; exact hrest)

/-- All that may come next. -/
theorem gj_fork (js : List Nat) (hr : (Region.ready .any ops listed == js) = true) (hne : js.isEmpty = false) (k : ∀ j, j ∈ js → GK cf ops U bef n listed j Q σ env hp A nh) : GJ cf ops U bef (n + 1) listed fst Q σ env hp A nh := by
  refine ⟨fun hs hb a β ha hex hc E0 hE hF => ?_⟩
  have hr' := eq_of_beq hr
  refine ⟨fun h0 => ?_, fun j hj => (k j (by rw [← hr']; exact hj)).run hs hb a β ha hex hc hj E0 hE⟩
  rw [hr'] at h0
  subst h0
  cases hne
theorem gj_one {i : Nat} (hr : (Region.ready .any ops listed == [i]) = true) (k : GK cf ops U bef n listed i Q σ env hp A nh) : GJ cf ops U bef (n + 1) listed fst Q σ env hp A nh :=
  gj_fork [i] hr rfl fun j hj => by rw [List.mem_singleton] at hj; subst hj; exact k
theorem gj_two {i j : Nat} (hr : (Region.ready .any ops listed == [i, j]) = true) (ki : GK cf ops U bef n listed i Q σ env hp A nh) (kj : GK cf ops U bef n listed j Q σ env hp A nh) : GJ cf ops U bef (n + 1) listed fst Q σ env hp A nh :=
  gj_fork [i, j] hr rfl fun m hm => by
    simp only [List.mem_cons, List.not_mem_nil, or_false] at hm
    rcases hm with rfl | rfl
    · exact ki
    · exact kj

/-- A call of a function that changes nothing. -/
theorem gk_call {j d : Nat} {o : Oper} {f : FuncId} {ys : List SV} {Φ : Value → Snap → Prop} (hj : ops[j]? = some o) (hc : callee env o.op = some (f, ys)) (hd : o.dst = some d) (hg : guardVal (slotOf ops o) env = some true)
    (hN : Nat.blt d cf.N = true) (hcall : ∀ args w, (callFunc f args).run cf.P w = .ok (.enter f args) w) (hlt : LtAll ys) (hC : PureS cf.P f ys σ Φ)
    (k : ∀ v σ', σ.le σ' → Φ v σ' → ∃ y : SV, y.lt 0 ∧ y.den β0 = v ∧ GJ cf ops U (bef ++ [j]) n (listed.setIfInBounds j true) false Q σ' ((d, y) :: env) hp A nh) : GK cf ops U bef n listed j Q σ env hp A nh := by
  refine ⟨fun hs hb a β ha hex hcl hr E0 hE => ?_⟩
  have hN' : d < cf.N := by simpa [Nat.blt_eq] using hN
  have den0 : ∀ {y : SV}, y.lt 0 → y.den β = y.den β0 := fun hy => SV.den_congr (n := 0) (fun i hi => by omega) hy
  have hargs : (ys.map (SV.den β)).toArray = (ys.map (SV.den β0)).toArray := by
    rw [List.map_congr_left fun y hy => den0 (hlt.of y hy)]
  have hwant : Region.wanted o (yielded ops a.tmps) = true := by rw [← wantedS_slotOf]; exact guardVal_ok ha hg
  unfold stepC
  simp only [hj]
  rw [if_pos hwant]
  intro w hw
  unfold Oper.wq
  rw [callee_ok ha hc hcall]
  simp only [Oper.uponIn]
  rw [hargs]
  refine ⟨fun h => (by cases h), CallsIn.mono (callsIn_FR.2 (hC w hw.sealed)) fun e w' ⟨v, σ', he, h1, h2, h3, h4⟩ => ?_⟩
  subst he
  have hw' := hw.after h1 h2 h3
  have hσ : ∀ {b}, σ' b = none → σ b = none := fun hb => Snap.none_of_le h2.le hb
  have hsub : ∀ x, StW cf σ' hp A β x → StW cf σ hp A β x := by
    intro x hx
    refine ⟨hx.os, hx.tape, hx.output, hx.size, hx.fr, fun b o hb => hx.sealed b o (h2.le b o hb), hw.le, hw.grow, fun i e cs hi => ?_, hw.ro, hx.inj, fun i E hE => (hx.arr i E hE).weak hσ, hx.arrd, hx.arrh⟩
    obtain ⟨q1, q2, q3, q4⟩ := hx.loc i e cs hi
    exact ⟨q1, q2, hσ q3, q4⟩
  obtain ⟨y, hy, hyv, hk⟩ := k v σ' h2.le h4
  refine ⟨E0, _, hw', fun x hx => hE x (hsub x hx), .inl fun _ h => h, ?_⟩
  have := hk.run hs (hb.put (SV.lt_mono (Nat.zero_le _) hy) d) (a.put (some d) (y.den β)) β (ha.put hN' y) ⟨_, hw'⟩ (hcl.set hr) E0 (fun x hx => hE x (hsub x hx)) (fun h => by cases h)
  rw [hd, ← hyv, ← den0 hy]
  exact this
theorem gk_callP {j d : Nat} {o : Oper} {f : FuncId} {ys : List SV} {Φ : Value → Prop} (hj : ops[j]? = some o) (hc : callee env o.op = some (f, ys)) (hd : o.dst = some d) (hg : guardVal (slotOf ops o) env = some true)
    (hN : Nat.blt d cf.N = true) (hcall : ∀ args w, (callFunc f args).run cf.P w = .ok (.enter f args) w) (hlt : LtAll ys) (hC : PlainS cf.P f ys σ Φ)
    (k : ∀ v, Φ v → ∃ y : SV, y.lt 0 ∧ y.den β0 = v ∧ GJ cf ops U (bef ++ [j]) n (listed.setIfInBounds j true) false Q σ ((d, y) :: env) hp A nh) : GK cf ops U bef n listed j Q σ env hp A nh := by
  refine gk_call (Φ := fun v σ' => Φ v ∧ σ' = σ) hj hc hd hg hN hcall hlt ?_ fun v σ' _ ⟨hv, he⟩ => by subst he; exact k v hv
  intro w hs
  exact Calls.mono (hC w hs) fun e w' ⟨v, σ', he, h1, h2, h3, h4⟩ => ⟨v, σ, he, h1, ⟨Snap.le_refl σ, fun b hb => .inl hb⟩, fun b o hb => h3 b o (h2.le b o hb), h4, rfl⟩

/-- A new row. -/
theorem gk_new {j d : Nat} {o : Oper} {T : List (Nat × TI)} (hT : TTok cf.P T) {e : TypeId} {cs : List AT} {x : AT} (hj : ops[j]? = some o) (h : stepOp T o.op env hp nh = some (.new e cs x)) (hd : o.dst = some d) (hg : guardVal (slotOf ops o) env = some true)
    (hN : Nat.blt d cf.N = true) (k : GJ cf ops U (bef ++ [j]) n (listed.setIfInBounds j true) false Q σ ((d, .a x) :: env) ((nh, .loc e, cs) :: hp) A (nh + 1)) : GK cf ops U bef n listed j Q σ env hp A nh := by
  refine ⟨fun hs hb a β ha hex hcl hr E0 hE => ?_⟩
  have hN' : d < cf.N := by simpa [Nat.blt_eq] using hN
  have hwant : Region.wanted o (yielded ops a.tmps) = true := by rw [← wantedS_slotOf]; exact guardVal_ok ha hg
  obtain ⟨hcs, hx, hrun⟩ := step_ok (o := o) hT ha hb h
  have hxl : (SV.a x).lt (nh + 1) := by
    rcases hx with rfl | ⟨n, rfl⟩ <;> exact Nat.lt_succ_self nh
  unfold stepC
  simp only [hj]
  rw [if_pos hwant]
  intro w hw
  unfold Oper.wq
  rw [hrun w]
  have hw' := hw.alloc (e := e) hb hcs
  have hβ := upd_old β nh w
  have hg2 : ∀ {i k l}, hp.get i = some (k, l) → HP.get ((nh, HK.loc e, cs) :: hp) i = some (k, l) := by
    intro i k l hi
    have hlt := (hb.hp i k l hi).1
    rw [HP.get_cons, if_neg (by omega)]
    exact hi
  have keepS : ∀ w', StW cf σ ((nh, .loc e, cs) :: hp) A (upd β nh w) w' → StW cf σ hp A β w' := by
    intro w' s
    refine ⟨s.os, s.tape, s.output, s.size, s.fr, s.sealed, s.le, s.grow, fun i e' l hi => ?_, fun i l hi j c hc => ?_, fun i j e1 e2 l1 l2 hi hj heq => ?_, s.arr, s.arrd, fun i j E e' l hE hj => ?_⟩
    · obtain ⟨hlt, hl⟩ := hb.hp i _ l hi
      have := s.loc i e' l (hg2 hi)
      rw [hβ i hlt, AT.denL_congr hβ hl] at this
      exact this
    · obtain ⟨hlt, hl⟩ := hb.hp i _ l hi
      have := s.ro i l (hg2 hi) j c hc
      rw [hβ i hlt, AT.den_congr hβ (hl c (List.mem_of_getElem? hc))] at this
      exact this
    · have h1 := (hb.hp i _ l1 hi).1
      have h2 := (hb.hp j _ l2 hj).1
      exact s.inj i j e1 e2 l1 l2 (hg2 hi) (hg2 hj) (by rw [hβ i h1, hβ j h2]; exact heq)
    · have h1 := (hb.hp j _ l hj).1
      have := s.arrh i j E e' l hE (hg2 hj)
      rw [hβ j h1] at this
      exact this
  refine ⟨E0, _, hw', fun x hx => hE x (keepS x hx), .inl fun _ h => h, ?_⟩
  rw [hd]
  exact k.run hs ((hb.mono (Nat.le_succ nh)).row (Nat.lt_succ_self nh) (fun c hc => AT.lt_mono (Nat.le_succ nh) (hcs c hc)) |>.put hxl d) _ (upd β nh w) ((ha.congr hb hβ).put hN' (.a x)) ⟨_, hw'⟩ (hcl.set hr) E0 (fun x hx => hE x (keepS x hx)) (fun h => by cases h)

/-- The rest, in one order. -/
theorem gj_order (l : List (Nat × Tag)) (hl : (l.all fun p => decide (p.1 < ops.size)) = true) (hq : noQuiet (itemsOf ops l) = true) (ho : orderFrom ops U bef l listed = true) (h : OJ cf (itemsOf ops l) Q σ env hp A nh) :
    GJ cf ops U bef l.length listed fst Q σ env hp A nh := by
  refine ⟨fun hs hb a β ha hex hc E0 hE _ => ?_⟩
  have := run_wider hE _ _ a hq (h.run hb a β ha hex)
  exact run_order hs l bef listed a E0 _ hc hE (fun p hp => by simpa using List.all_eq_true.1 hl p hp) ho this

theorem gj_arith {i d : Nat} {o : Oper} {op : BinOp} {x y : Operand} {xt yt : TypeId} {kk : IntKind} {m k' : Int} (r : Int) (hop : o.op = .binOp op xt x y yt) (hi : ops[i]? = some o) (hr : (Region.ready .any ops listed).contains i = true) (hf : Region.free .any ops listed i = true) (hk : (U.contains i || fst) = true)
    (hd : o.dst = some d) (hg : guardVal (slotOf ops o) env = some true) (hN : Nat.blt d cf.N = true) (hx : evalO env x = some (.a (.v (.int kk m)))) (hy : evalO env y = some (.a (.v (.int kk k'))))
    (hrun : ∀ w P, (binOp op xt (.int kk m) (.int kk k')).run P w = .ok (.int kk r) w)
    (k : GJ cf ops U (bef ++ [i]) n (listed.setIfInBounds i true) fst Q σ ((d, .a (.v (.int kk r))) :: env) hp A nh) : GJ cf ops U bef (n + 1) listed fst Q σ env hp A nh := by
  refine gj_valT (.a (.v (.int kk r))) hi hr hf hk hd hg hN trivial (fun _ a β ha w _ => ?_) k
  have h1 : a.eval x = .int kk m := evalO_eval ha hx
  have h2 : a.eval y = .int kk k' := evalO_eval ha hy
  simp only [execOp, hop, h1, h2, eqGuard_at_int, Sem.run_bind, Sem.run_pure, Result.andThen_ok, hrun]
  rfl
theorem gj_add {i d : Nat} {o : Oper} {x y : Operand} {xt yt : TypeId} {m k' : Int} (hop : o.op = .binOp .add xt x y yt) (hi : ops[i]? = some o) (hr : (Region.ready .any ops listed).contains i = true) (hf : Region.free .any ops listed i = true) (hk : (U.contains i || fst) = true)
    (hd : o.dst = some d) (hg : guardVal (slotOf ops o) env = some true) (hN : Nat.blt d cf.N = true) (hx : evalO env x = some (.a (.v (.int .i64 m)))) (hy : evalO env y = some (.a (.v (.int .i64 k')))) (hb : -9223372036854775808 ≤ m + k' ∧ m + k' ≤ 9223372036854775807)
    (k : GJ cf ops U (bef ++ [i]) n (listed.setIfInBounds i true) fst Q σ ((d, .a (.v (.int .i64 (m + k')))) :: env) hp A nh) : GJ cf ops U bef (n + 1) listed fst Q σ env hp A nh :=
  gj_arith _ hop hi hr hf hk hd hg hN hx hy (run_add (IntWalk.i64_in _ hb)) k
theorem gj_minus {i d : Nat} {o : Oper} {x y : Operand} {xt yt : TypeId} {m k' : Int} (hop : o.op = .binOp .sub xt x y yt) (hi : ops[i]? = some o) (hr : (Region.ready .any ops listed).contains i = true) (hf : Region.free .any ops listed i = true) (hk : (U.contains i || fst) = true)
    (hd : o.dst = some d) (hg : guardVal (slotOf ops o) env = some true) (hN : Nat.blt d cf.N = true) (hx : evalO env x = some (.a (.v (.int .i64 m)))) (hy : evalO env y = some (.a (.v (.int .i64 k')))) (hb : -9223372036854775808 ≤ m - k' ∧ m - k' ≤ 9223372036854775807)
    (k : GJ cf ops U (bef ++ [i]) n (listed.setIfInBounds i true) fst Q σ ((d, .a (.v (.int .i64 (m - k')))) :: env) hp A nh) : GJ cf ops U bef (n + 1) listed fst Q σ env hp A nh :=
  gj_arith _ hop hi hr hf hk hd hg hN hx hy (run_sub (IntWalk.i64_in _ hb)) k
theorem gj_slice {i d : Nat} {o : Oper} {x : Operand} {lo hi' : Option Operand} {vl vh : Option Value} {t e : TypeId} {T : List (Nat × TI)} (hT : TTok cf.P T) {ti te : TI} {ao : Option Addr} {m cap : Nat} (l h : Nat) (hop : o.op = .slice t x lo hi' none) (hi : ops[i]? = some o) (hr : (Region.ready .any ops listed).contains i = true) (hf : Region.free .any ops listed i = true) (hk : (U.contains i || fst) = true)
    (hd : o.dst = some d) (hg : guardVal (slotOf ops o) env = some true) (hN : Nat.blt d cf.N = true) (hx : evalO env x = some (.a (.v (.slice ao m cap)))) (hlo : optV env lo = some vl) (hhi : optV env hi' = some vh)
    (ht : tget T t = some ti) (hkd : ti.kind = .slice e) (hte : tget T e = some te) (hl' : vl = none ∧ l = 0 ∨ ∃ k m, vl = some (.int k m) ∧ m = (l : Int)) (hh' : vh = none ∧ h = m ∨ ∃ k m, vh = some (.int k m) ∧ m = (h : Int)) (hlh : l ≤ h) (hhc : h ≤ cap) (hnc : m ≤ cap)
    (k : GJ cf ops U (bef ++ [i]) n (listed.setIfInBounds i true) fst Q σ ((d, .a (.v (.slice (if cap = l then ao else ao.map (·.add (l * te.size))) (h - l) (cap - l)))) :: env) hp A nh) : GJ cf ops U bef (n + 1) listed fst Q σ env hp A nh := by
  refine gj_valT (.a (.v (.slice (if cap = l then ao else ao.map (·.add (l * te.size))) (h - l) (cap - l)))) hi hr hf hk hd hg hN trivial (fun _ a β ha w _ => ?_) k
  obtain ⟨i2, d2, z2, hs2⟩ := tiOf_spec (hT _ _ ht)
  obtain ⟨i3, d3, z3, hs3⟩ := tiOf_spec (hT _ _ hte)
  have h1 := hs2.kind
  have hun : cf.P.underlying t = some (.slice e) := by
    rw [hkd] at h1
    have h2 := hs2.und
    cases d2 <;> first
      | (simp only [kindD, TK.slice.injEq] at h1; subst h1; exact h2)
      | (simp only [kindD] at h1; cases h1)
  have h2 : a.eval x = .slice ao m cap := evalO_eval ha hx
  simp only [execOp, hop, h2, optV_ok ha hlo, optV_ok ha hhi, Option.map_none, Instr.sliceAt, Instr.slice, Sem.run_bind, run_underlying hun, Result.andThen_ok, run_sliceBounds hl' hh' hlh hhc hnc, run_size hs3.info, hs3.size, Sem.run_pure]
  rfl
end
end Go.Sy
/- Plain laws on summaries that paths are counted in. No program in sight. -/
namespace Go.Sy

theorem findG_map {α β : Type} (q : β → Bool) (f : α → β) : ∀ (l : List α) (k : Nat), findG q (l.map f) k = findG (fun x => q (f x)) l k
  | [], _ => rfl
  | x :: l, k => by simp only [List.map_cons, findG, findG_map q f l]
theorem findG_ge {α : Type} (q : α → Bool) : ∀ (l : List α) (k : Nat), findG q l k = -1 ∨ (k : Int) ≤ findG q l k
  | [], _ => .inl rfl
  | x :: l, k => by
    simp only [findG]
    split
    · exact .inr (Int.le_refl _)
    · rcases findG_ge q l (k + 1) with h | h
      · exact .inl h
      · exact .inr (by omega)
theorem findG_app {α : Type} (q : α → Bool) : ∀ (l m : List α) (k : Nat), findG q (l ++ m) k = if findG q l k < 0 then findG q m (k + l.length) else findG q l k
  | [], m, k => by simp [findG]
  | x :: l, m, k => by
    simp only [List.cons_append, findG, List.length_cons]
    split
    · rw [if_neg (by omega)]
    · rw [findG_app q l m (k + 1), show k + 1 + l.length = k + (l.length + 1) by omega]
theorem findG_neg {α : Type} {q : α → Bool} : ∀ {l : List α} {k : Nat}, findG q l k < 0 → ∀ x ∈ l, q x = false
  | x :: l, k, h, y, hy => by
    simp only [findG] at h
    split at h
    · omega
    · rename_i hx
      cases hy with
      | head => simpa using hx
      | tail _ hy => exact findG_neg h y hy
theorem findG_some {α : Type} {q : α → Bool} : ∀ {l : List α} {k : Nat} {j : Nat}, findG q l k = (k + j : Nat) → ∃ x, l[j]? = some x ∧ q x = true
  | x :: l, k, j, h => by
    simp only [findG] at h
    split at h
    · rename_i hx
      have : j = 0 := by omega
      subst this
      exact ⟨x, rfl, hx⟩
    · have hb := findG_ge q l (k + 1)
      obtain ⟨j, rfl⟩ : ∃ i, j = i + 1 := ⟨j - 1, by omega⟩
      obtain ⟨y, h1, h2⟩ := findG_some (l := l) (k := k + 1) (j := j) (by rw [h]; congr 1; omega)
      exact ⟨y, by simpa using h1, h2⟩
  | [], k, j, h => by simp only [findG] at h; omega

theorem lineG_st (xs : List GLine) (s : List ByteArray) : lineG xs s = findG (fun t => decide (t = s)) (xs.map GLine.st) 0 := by
  rw [findG_map]
  rfl
theorem lineG_at {xs : List GLine} {s : List ByteArray} {j : Nat} (h : lineG xs s = j) : ∃ x, xs[j]? = some x ∧ x.st = s := by
  obtain ⟨x, h1, h2⟩ := findG_some (k := 0) (j := j) (by rw [Nat.zero_add]; exact h)
  exact ⟨x, h1, of_decide_eq_true h2⟩

theorem addOne_new {s : GSt} {p : SRow} (h : lineG s.xs p.ss < 0) : addOne s p = ⟨s.xs ++ [(newLn s.next p).more], s.next + 1, s.ids ++ [s.next]⟩ := if_pos h
theorem addOne_old {s : GSt} {p : SRow} {j : Nat} {x : GLine} (h : lineG s.xs p.ss = j) (hx : s.xs[j]? = some x) : addOne s p = ⟨s.xs.set j x.more, s.next, s.ids ++ [x.id]⟩ := by
  unfold addOne
  rw [if_neg (by omega), h, Int.toNat_natCast, hx]
theorem map_st_set {xs : List GLine} {j : Nat} {x : GLine} (hx : xs[j]? = some x) : (xs.set j x.more).map GLine.st = xs.map GLine.st := by
  rw [List.map_set]
  apply List.ext_getElem?
  intro i
  rw [List.getElem?_set]
  split
  · rename_i h
    subst h
    have hlt := (List.getElem?_eq_some_iff.1 hx).1
    rw [if_pos (by simpa using hlt), List.getElem?_map, hx]
    rfl
  · rfl

structure GInv (s : GSt) : Prop where
  next : s.next = s.xs.length
  at_ : ∀ (j : Nat) x, s.xs[j]? = some x → x.id = j ∧ 1 ≤ x.cnt ∧ lineG s.xs x.st = j

/-- What one more path does. -/
theorem addOne_spec {s : GSt} (h : GInv s) (p : SRow) : GInv (addOne s p) ∧ (∀ (j : Nat) x, s.xs[j]? = some x → ∃ y, (addOne s p).xs[j]? = some y ∧ y.st = x.st ∧ y.id = x.id) ∧
    ∃ (j : Nat) (y : GLine), (addOne s p).xs[j]? = some y ∧ y.st = p.ss ∧ (addOne s p).ids = s.ids ++ [y.id] := by
  have hbd := lineG_bd s.xs p.ss
  by_cases hn : lineG s.xs p.ss < 0
  · rw [addOne_new hn]
    refine ⟨⟨by rw [h.next]; simp, fun j x hx => ?_⟩, fun j x hx => ⟨x, ?_, rfl, rfl⟩, s.xs.length, (newLn s.next p).more, by simp, rfl, rfl⟩
    · dsimp only at hx ⊢
      by_cases hj : j < s.xs.length
      · rw [List.getElem?_append_left hj] at hx
        obtain ⟨h1, h2, h3⟩ := h.at_ j x hx
        refine ⟨h1, h2, ?_⟩
        unfold lineG at h3 ⊢
        rw [findG_app, if_neg (by omega), h3]
      · rw [List.getElem?_append_right (by omega)] at hx
        have hj0 : j - s.xs.length = 0 := by
          have := (List.getElem?_eq_some_iff.1 hx).1
          simpa using this
        rw [hj0] at hx
        simp only [List.getElem?_cons_zero, Option.some.injEq] at hx
        subst hx
        have hjl : j = s.xs.length := by omega
        subst hjl
        refine ⟨h.next, Int.le_refl _, ?_⟩
        unfold lineG at hn ⊢
        rw [findG_app]
        show (if findG (fun x => decide (x.st = p.ss)) s.xs 0 < 0 then findG (fun x => decide (x.st = p.ss)) [(newLn s.next p).more] (0 + s.xs.length) else _) = _
        rw [if_pos hn]
        simp only [findG]
        rw [if_pos (show decide ((newLn s.next p).more.st = p.ss) = true from decide_eq_true rfl), Nat.zero_add]
    · dsimp only
      rw [List.getElem?_append_left (List.getElem?_eq_some_iff.1 hx).1]
      exact hx
  · obtain ⟨j, hj⟩ : ∃ j : Nat, lineG s.xs p.ss = j := ⟨(lineG s.xs p.ss).toNat, by omega⟩
    obtain ⟨x, hx, hst⟩ := lineG_at hj
    have hlt := (List.getElem?_eq_some_iff.1 hx).1
    rw [addOne_old hj hx]
    have hl : ∀ t, lineG (s.xs.set j x.more) t = lineG s.xs t := fun t => by rw [lineG_st, lineG_st, map_st_set hx]
    have hself : (s.xs.set j x.more)[j]? = some x.more := by rw [List.getElem?_set, if_pos rfl, if_pos hlt]
    refine ⟨⟨by dsimp only; rw [List.length_set]; exact h.next, fun i y hy => ?_⟩, fun i y hy => ?_, j, x.more, hself, hst, rfl⟩
    · dsimp only at hy ⊢
      rw [hl]
      by_cases hij : j = i
      · subst hij
        rw [hself] at hy
        obtain rfl := Option.some.inj hy
        obtain ⟨h1, h2, h3⟩ := h.at_ j x hx
        exact ⟨h1, by show 1 ≤ x.cnt + 1; omega, h3⟩
      · rw [List.getElem?_set, if_neg hij] at hy
        exact h.at_ i y hy
    · dsimp only
      by_cases hij : j = i
      · subst hij
        rw [hx] at hy
        obtain rfl := Option.some.inj hy
        exact ⟨x.more, hself, rfl, rfl⟩
      · exact ⟨y, by rw [List.getElem?_set, if_neg hij]; exact hy, rfl, rfl⟩

theorem addAll_inv : ∀ (ps : List SRow) {s : GSt}, GInv s → GInv (addAll s ps) ∧ (∀ (j : Nat) x, s.xs[j]? = some x → ∃ y, (addAll s ps).xs[j]? = some y ∧ y.st = x.st ∧ y.id = x.id) ∧
    ∃ t, (addAll s ps).ids = s.ids ++ t ∧ t.length = ps.length
  | [], s, h => ⟨h, fun j x hx => ⟨x, hx, rfl, rfl⟩, [], by rw [List.append_nil]; rfl, rfl⟩
  | p :: ps, s, h => by
    obtain ⟨h1, h2, j0, y0, h3, h4, h5⟩ := addOne_spec h p
    obtain ⟨g1, g2, t, g3, g4⟩ := addAll_inv ps h1
    refine ⟨g1, fun j x hx => ?_, y0.id :: t, ?_, by simp [g4]⟩
    · obtain ⟨y, a1, a2, a3⟩ := h2 j x hx
      obtain ⟨z, b1, b2, b3⟩ := g2 j y a1
      exact ⟨z, b1, b2.trans a2, b3.trans a3⟩
    · show (addAll (addOne s p) ps).ids = _
      rw [g3, h5, List.append_assoc]
      rfl
theorem inv0 : GInv ⟨[], 0, []⟩ := ⟨rfl, fun j x hx => by simp at hx⟩

theorem findId_of {s : GSt} (h : GInv s) {j : Nat} {y : GLine} (hy : s.xs[j]? = some y) : findIdG s.xs y.st = y.id := by
  unfold findIdG
  rw [(h.at_ j y hy).2.2, Int.toNat_natCast, hy]
  dsimp only
  rw [if_neg (by omega)]

theorem addOne_ids (xs : List GLine) (next : Int) (ids : List Int) (p : SRow) : (addOne ⟨xs, next, ids⟩ p).xs = (addOne ⟨xs, next, []⟩ p).xs ∧ (addOne ⟨xs, next, ids⟩ p).next = (addOne ⟨xs, next, []⟩ p).next := by
  unfold addOne
  dsimp only
  split
  · exact ⟨rfl, rfl⟩
  · split <;> exact ⟨rfl, rfl⟩

/-- One of the paths: its line. -/
theorem adds_at (ps : List SRow) {k : Nat} {p : SRow} (hp : ps[k]? = some p) : ∃ id, (addAll ⟨[], 0, []⟩ ps).ids[k]? = some id ∧ findIdG (addAll ⟨[], 0, []⟩ ps).xs p.ss = id ∧
    (addOne ⟨(addAll ⟨[], 0, []⟩ (ps.take k)).xs, (addAll ⟨[], 0, []⟩ (ps.take k)).next, []⟩ p).ids = [id] := by
  have hlt := (List.getElem?_eq_some_iff.1 hp).1
  have hsp : ps = ps.take k ++ p :: ps.drop (k + 1) := by
    have := (List.getElem?_eq_some_iff.1 hp).2
    rw [← this, ← List.drop_eq_getElem_cons hlt, List.take_append_drop]
  obtain ⟨h1, -, t, h3, h4⟩ := addAll_inv (ps.take k) inv0
  have hG : addAll ⟨[], 0, []⟩ ps = addAll (addOne (addAll ⟨[], 0, []⟩ (ps.take k)) p) (ps.drop (k + 1)) := by
    conv => lhs; rw [hsp]
    unfold addAll
    rw [List.foldl_append]
    rfl
  rw [hG]
  generalize addAll ⟨[], 0, []⟩ (ps.take k) = s at *
  have h1' : GInv ⟨s.xs, s.next, []⟩ := ⟨h1.next, h1.at_⟩
  obtain ⟨g1, g2, j, y, g3, g4, g5⟩ := addOne_spec h1 p
  obtain ⟨g1', -, j', y', g3', g4', g5'⟩ := addOne_spec h1' p
  obtain ⟨f1, f2, u, f3, f4⟩ := addAll_inv (ps.drop (k + 1)) g1
  obtain ⟨z, z1, z2, z3⟩ := f2 j y g3
  have hids := addOne_ids s.xs s.next s.ids p
  have hyy : y'.id = y.id := by
    rw [← hids.1] at g3'
    have a1 := (g1.at_ j' y' g3').2.2
    have a2 := (g1.at_ j y g3).2.2
    rw [g4'] at a1
    rw [g4] at a2
    have : j' = j := by omega
    subst this
    rw [g3] at g3'
    rw [Option.some.inj g3']
  refine ⟨y.id, ?_, ?_, ?_⟩
  · rw [f3, g5, h3, List.nil_append]
    have hk : t.length = k := by rw [h4, List.length_take]; omega
    rw [List.getElem?_append_left (by simp; omega), List.getElem?_append_right (by omega), hk, Nat.sub_self]
    rfl
  · rw [← g4, ← z2, findId_of f1 z1, z3]
  · rw [g5', hyy]
    rfl

theorem snd_of {s : GSt} (h : GInv s) : ∀ (l : List GLine) (k : Nat), s.xs.drop k = l → sndFrom s.xs s.next l k ((k : Int) - 1) = true
  | [], _, _ => rfl
  | x :: l, k, hl => by
    have hx : s.xs[k]? = some x := by
      have : (s.xs.drop k)[0]? = some x := by rw [hl]; rfl
      simpa using this
    have hlt := (List.getElem?_eq_some_iff.1 hx).1
    obtain ⟨h1, h2, h3⟩ := h.at_ k x hx
    have hn := h.next
    rw [sndFrom, if_neg (by omega), if_neg (by omega), if_neg (by omega), if_pos h3, h1]
    have := snd_of h l (k + 1) (by rw [← List.drop_drop, hl]; rfl)
    rw [show (((k + 1 : Nat) : Int) - 1) = (k : Int) by omega] at this
    exact this
/-- A summary that paths are counted in is sound. -/
theorem sound_of {s : GSt} (h : GInv s) : soundGd s.xs s.next = true := snd_of h s.xs 0 rfl
theorem adds_len (ps : List SRow) : (addAll ⟨[], 0, []⟩ ps).ids.length = ps.length := by
  obtain ⟨-, -, t, h1, h2⟩ := addAll_inv ps inv0
  rw [h1, List.nil_append, h2]
end Go.Sy
