/- Parts of the proof of CGuideCounts: F36, F37, F38, F22, F23, F24, Ld. No conditions. -/
import Derived.Test.YtadnijcgohflhaaDoorM9
namespace Go.Sy
open Go.Proofs

/-! ### id, Below -/

theorem SlAt.fore {σ : Snap} {ao : Option Addr} {n cap sz : Nat} {rows : List (List AT)} (h : SlAt σ ao n cap sz rows) {k : Nat} (hk : k ≤ n) : SlAt σ ao k cap sz (rows.take k) := by
  refine ⟨by rw [List.length_take, h.len]; omega, Nat.le_trans hk h.ncap, fun r hr => h.clo r (List.mem_of_mem_take hr), ?_⟩
  rcases h.at_ with h0 | ⟨ad, h1, h2⟩
  · exact .inl (by omega)
  · refine .inr ⟨ad, h1, fun i r j c hr hc => h2 i r j c ?_ hc⟩
    rw [List.getElem?_take] at hr
    split at hr
    · exact hr
    · cases hr

set_option maxRecDepth 100000 in
set_option maxHeartbeats 1000000 in
theorem id1_c (σ : Snap) (x : GLine) (id : Int) (g : Nat) (hg : σ.cell ⟨g, 0, none⟩ = some (.int .i64 id)) :
    PlainS Tryd.prog 129 (.agg (lnCells x) :: [ptrTo g].map ptSV) σ (fun v => v = .bool (decide (x.id = id))) := by
  refine enter_p Tryd.func129 rfl rfl ⟨lnCells_lt 0 x, trivial, trivial⟩ fun w => ?_
  (repeat (first | refine cj_seq ?_ | (refine cj_region ?_; refine oj_run TT rfl ?_) | refine oj_then ?_))
  refine oj_ldS (c := .v (.int .i64 id)) TT rfl rfl rfl rfl rfl rfl rfl rfl hg trivial (oj_run TT rfl ?_)
  (repeat (first | refine oj_then ?_ | refine cj_ret ?_))
  refine nj_ret TT rfl fun β w' _ _ => ?_
  rfl

def idG (xs : List GLine) (id : Int) : Int := findG (fun x => decide (x.id = id)) xs 0
theorem idG_bd (xs : List GLine) (id : Int) : -1 ≤ idG xs id ∧ idG xs id < xs.length := by
  have := findG_bd (fun x : GLine => decide (x.id = id)) xs 0
  unfold idG
  omega
theorem cell_of {σ : Snap} {g e sz : Nat} {v : Value} (hS : ArrSealed σ ⟨some ⟨g, 0, none⟩, 1, 1, e, sz, [v]⟩) : σ.cell ⟨g, 0, none⟩ = some v := by
  rcases hS with ⟨h, _⟩ | ⟨g', h1, h2⟩
  · cases h
  · obtain rfl : g = g' := by simpa using h1
    exact h2 0 _ rfl

set_option maxRecDepth 100000 in
set_option maxHeartbeats 1000000 in
theorem id_c (σ : Snap) (xs : List GLine) (hl : xs.length ≤ 140737488355328) (ao : Option Addr) (cap : Nat) (next : Int) (H : SlAt σ ao xs.length cap 3 (lnRows xs)) (id : Int) :
    PlainS Tryd.prog 97 [.agg [.v (.slice ao xs.length cap), .v (.int .i64 next)], .a (.v (.int .i64 id))] σ (fun v => v = .int .i64 (idG xs id)) := by
  refine enter_p Tryd.func97 rfl rfl (by (repeat' (first | exact trivial | refine AllLt.of ?_ | constructor))) fun w => ?_
  (repeat (first | refine cj_seq ?_ | (refine cj_region ?_; refine oj_run TT rfl ?_) | refine oj_then ?_))
  refine oj_own 1 1 1 rfl (by (repeat' (first | exact trivial | refine AllLt.of ?_ | constructor))) rfl (by decide) fun g => ?_
  refine oj_seal 0 rfl rfl rfl fun σ1 hle1 hS => ?_
  refine oj_callP rfl rfl rfl rfl rfl Tryd.call125 ⟨(by (repeat' (first | exact trivial | refine AllLt.of ?_ | constructor))), fn_lt1 (.func 129) g 0, trivial⟩ (where_c σ1 xs hl ao cap next (H.mono hle1) 129 [ptrTo g] ⟨trivial, trivial⟩ Tryd.call129 (fun x => decide (x.id = id)) (fun x hm => id1_c σ1 x id g (cell_of hS)) (fn_lt1 (.func 129) g 0)) fun v hv => ⟨.a (.v (.int .i64 (idG xs id))), trivial, hv.symm, ?_⟩
  refine oj_run TT rfl ?_
  (repeat (first | refine oj_then ?_ | refine cj_ret ?_))
  refine nj_ret TT rfl fun β w' _ _ => ?_
  rfl

def belowQ (top : Nat) (s : List ByteArray) (k : Nat) (x : GLine) : Bool := !decide ((k : Int) = top) && decide ((x.st.length : Int) ≥ s.length) && decide (x.st.take s.length = s)

set_option maxRecDepth 100000 in
set_option maxHeartbeats 1000000 in
theorem below1_c (σ : Snap) (k : Nat) (x : GLine) (hx : LnOk σ x) (top : Nat) (s : List ByteArray) (hsl : s.length ≤ 140737488355328) (so : Option Addr) (sc : Nat) (S : SlAt σ so s.length sc 1 (strRows s)) (g1 g2 : Nat) (h1 : σ.cell ⟨g1, 0, none⟩ = some (.int .i64 top)) (h2 : σ.cell ⟨g2, 0, none⟩ = some (.slice so s.length sc)) :
    PlainS Tryd.prog 98 (.a (.v (.int .i64 k)) :: .agg (lnCells x) :: [ptrTo g1, ptrTo g2].map ptSV) σ (fun v => v = .bool (belowQ top s k x)) := by
  refine enter_p Tryd.func98 rfl rfl ⟨trivial, lnCells_lt 0 x, trivial, trivial, trivial⟩ fun w => ?_
  (repeat (first | refine cj_seq ?_ | (refine cj_region ?_; refine oj_run TT rfl ?_) | refine oj_then ?_))
  refine cj_draw [(0,.pure),(1,.quiet),(2,.pure),(3,.pure),(4,.pure),(5,.quiet),(6,.pure),(7,.quiet),(8,.pure),(9,.pure),(10,.pure),(11,.pure),(12,.pure),(13,.quiet),(14,.quiet),(15,.pure),(16,.pure),(17,.quiet),(18,.keep),(19,.pure),(20,.pure)] mixed (by kernel_rfl) (oj_run TT rfl ?_)
  refine oj_ldS (c := .v (.int .i64 top)) TT rfl rfl rfl rfl rfl rfl rfl rfl h1 trivial (oj_run TT rfl ?_)
  refine oj_split 10 rfl (fun ha => ?_) (fun ha => ?_)
  rotate_left
  · have ha : (!decide ((k : Int) = top)) = false := ha
    refine oj_run TT rfl ?_
    (repeat (first | refine oj_then ?_ | refine cj_ret ?_))
    refine nj_ret TT rfl fun β w' _ _ => ?_
    unfold belowQ
    rw [ha, Bool.false_and, Bool.false_and]
    rfl
  have ha : (!decide ((k : Int) = top)) = true := ha
  refine oj_run TT rfl ?_
  refine oj_ldS (c := .v (.slice so s.length sc)) TT rfl rfl rfl rfl rfl rfl rfl rfl h2 trivial (oj_run TT rfl ?_)
  refine oj_split 18 rfl (fun hb => ?_) (fun hb => ?_)
  rotate_left
  · have hb : decide ((x.st.length : Int) ≥ s.length) = false := hb
    refine oj_run TT rfl ?_
    (repeat (first | refine oj_then ?_ | refine cj_ret ?_))
    refine nj_ret TT rfl fun β w' _ _ => ?_
    unfold belowQ
    rw [ha, hb, Bool.true_and, Bool.false_and]
    rfl
  have hb : decide ((x.st.length : Int) ≥ s.length) = true := hb
  have hle := of_decide_eq_true hb
  have e : (x.st.take s.length).length = s.length := by rw [List.length_take]; omega
  have hX := hx.2.fore (k := s.length) (by omega)
  have e2 : (strRows x.st).take s.length = strRows (x.st.take s.length) := by unfold strRows; rw [List.map_take]
  rw [e2] at hX
  have hc := Equal_c σ (x.st.take s.length) s (by omega) x.ao so x.cap sc (by rw [e]; exact hX) S
  rw [e] at hc
  refine oj_run TT rfl ?_
  refine oj_ldS (c := .v (.slice so s.length sc)) TT rfl rfl rfl rfl rfl rfl rfl rfl h2 trivial (oj_run TT rfl ?_)
  refine oj_slice_to TT s.length rfl rfl rfl rfl rfl rfl rfl rfl rfl rfl (Nat.le_trans (by omega) hx.2.ncap) hx.2.ncap (oj_run TT rfl ?_)
  refine oj_ldS (c := .v (.slice so s.length sc)) TT rfl rfl rfl rfl rfl rfl rfl rfl h2 trivial (oj_run TT rfl ?_)
  refine oj_callP rfl rfl rfl rfl rfl Tryd.call99 (by (repeat' (first | exact trivial | constructor))) hc fun v hv => ⟨.a (.b (decide (x.st.take s.length = s))), trivial, hv.symm, ?_⟩
  refine oj_run TT rfl ?_
  (repeat (first | refine oj_then ?_ | refine cj_ret ?_))
  refine nj_ret TT rfl fun β w' _ _ => ?_
  unfold belowQ
  rw [ha, hb, Bool.true_and, Bool.true_and]
  rfl

theorem fn_lt2 (f : Fn) (g1 g2 n : Nat) : (SV.a (.fn f [ptrTo g1, ptrTo g2])).lt n := by
  intro x hx
  simp only [List.mem_cons, List.not_mem_nil, or_false] at hx
  rcases hx with rfl | rfl <;> trivial

/-- What is below the line of an ID. -/
def belowG (xs : List GLine) (id : Int) : List Int := match xs[(idG xs id).toNat]? with
  | some x => if idG xs id < 0 then [] else allG (belowQ (idG xs id).toNat x.st) xs 0
  | none => []

set_option maxRecDepth 100000 in
set_option maxHeartbeats 1000000 in
theorem Below_c (σ : Snap) (xs : List GLine) (hl : xs.length ≤ 1000000) (ao : Option Addr) (cap : Nat) (next : Int) (H : SlAt σ ao xs.length cap 3 (lnRows xs)) (hx : ∀ x ∈ xs, LnOk σ x) (id : Int) :
    PureS Tryd.prog 56 [.agg [.v (.slice ao xs.length cap), .v (.int .i64 next)], .a (.v (.int .i64 id))] σ (fun v σ' => ∃ oo oc, v = .slice oo (belowG xs id).length oc ∧ SlAt σ' oo (belowG xs id).length oc 1 (idRows (belowG xs id))) := by
  have hbd := idG_bd xs id
  have hbg : belowG xs id = match xs[(idG xs id).toNat]? with | some x => if idG xs id < 0 then [] else allG (belowQ (idG xs id).toNat x.st) xs 0 | none => [] := rfl
  refine enter_s Tryd.func56 rfl rfl (by (repeat' (first | exact trivial | refine AllLt.of ?_ | constructor))) fun w => ?_
  (repeat (first | refine cj_seq ?_ | (refine cj_region ?_; refine oj_run TT rfl ?_) | refine oj_then ?_))
  refine oj_callP rfl rfl rfl rfl rfl Tryd.call97 (by (repeat' (first | exact trivial | refine AllLt.of ?_ | constructor))) (id_c σ xs (by omega) ao cap next H id) fun v hv => ⟨.a (.v (.int .i64 (idG xs id))), trivial, hv.symm, ?_⟩
  refine oj_run TT rfl ?_
  (repeat (first | refine cj_seq ?_ | (refine cj_region ?_; refine oj_run TT rfl ?_) | refine oj_then ?_))
  refine cj_if rfl (fun h => ?_) (fun h => ?_)
  · have h := of_decide_eq_true h
    have he : belowG xs id = [] := by
      rw [hbg]
      split
      · rw [if_pos h]
      · rfl
    (repeat (first | refine cj_seq ?_ | (refine cj_region ?_; refine oj_run TT rfl ?_) | refine oj_then ?_ | refine cj_ret ?_ | refine nj_then_ret ?_))
    refine nj_ret TT rfl fun β w' _ _ => ?_
    rw [he]
    exact ⟨none, 0, rfl, SlAt.nil _ _ _ _⟩
  have h := of_decide_eq_false h
  obtain ⟨j, hj⟩ : ∃ j : Nat, idG xs id = j := ⟨(idG xs id).toNat, by omega⟩
  have hjl : j < xs.length := by omega
  have hrow := lnRows_get (List.getElem?_eq_getElem hjl)
  have hxo := hx xs[j] (List.getElem_mem hjl)
  rw [hj, Int.toNat_natCast, List.getElem?_eq_getElem hjl] at hbg
  dsimp only at hbg
  rw [if_neg (by omega)] at hbg
  rw [hj, hbg]
  generalize xs[j] = y at *
  (repeat (first | refine cj_seq ?_ | (refine cj_region ?_; refine oj_run TT rfl ?_) | refine cj_skip ?_ | refine nj_then ?_))
  refine oj_idx TT rfl rfl rfl rfl rfl rfl rfl rfl rfl H (by omega) hrow (oj_run TT rfl ?_)
  (repeat (first | refine cj_seq ?_ | (refine cj_region ?_; refine oj_run TT rfl ?_) | refine oj_then ?_))
  refine oj_own 1 1 1 rfl (by (repeat' (first | exact trivial | refine AllLt.of ?_ | constructor))) rfl (by decide) fun g1 => ?_
  refine oj_seal 0 rfl rfl rfl fun σ1 hle1 hS1 => ?_
  refine oj_own 3 1 1 rfl (by (repeat' (first | exact trivial | refine AllLt.of ?_ | constructor))) rfl (by decide) fun g2 => ?_
  refine oj_seal 0 rfl rfl rfl fun σ2 hle2 hS2 => ?_
  have hc1 : σ2.cell ⟨g1, 0, none⟩ = some (.int .i64 j) := hle2.cell (cell_of hS1)
  have hc2 : σ2.cell ⟨g2, 0, none⟩ = some (.slice y.ao y.st.length y.cap) := cell_of hS2
  have H2 := H.mono (Snap.le_trans hle1 hle2)
  have hx2 := fun x h => (hx x h).mono (Snap.le_trans hle1 hle2)
  have hxo2 := hxo.mono (Snap.le_trans hle1 hle2)
  refine oj_callS rfl rfl rfl rfl rfl Tryd.call94 ⟨(by (repeat' (first | exact trivial | refine AllLt.of ?_ | constructor))), fn_lt2 (.func 98) g1 g2 0, trivial⟩ (all_c σ2 xs hl ao cap next H2 98 [ptrTo g1, ptrTo g2] ⟨trivial, trivial, trivial⟩ Tryd.call98 (belowQ j y.st) (fun k x hk => below1_c σ2 k x (hx2 x (List.mem_of_getElem? hk)) j y.st hxo2.1 y.ao y.cap hxo2.2 g1 g2 hc1 hc2) (fn_lt2 (.func 98) g1 g2 0)) fun v σ3 hle3 ⟨oo, oc, hv, HO⟩ => ⟨.a (.v (.slice oo (allG (belowQ j y.st) xs 0).length oc)), trivial, hv.symm, ?_⟩
  refine oj_run TT rfl ?_
  (repeat (first | refine oj_then ?_ | refine cj_ret ?_))
  refine nj_ret TT rfl fun β w' _ _ => ?_
  exact ⟨oo, oc, rfl, HO⟩
end Go.Sy
namespace Go.Sy
open Go.Proofs

/-! ### matches -/

/-- One step of what 'deep' does. -/
def deepAt (ps : List GPat) (V : List Bool) (k : Nat) : List Bool := match ps[k]? with
  | some p => if p.what = 4 then (if V.getD k false then V.set (k + 1) true else V) else V
  | none => V
def deepV (ps : List GPat) (V : List Bool) : List Bool := (List.range ps.length).foldl (deepAt ps) V
/-- One step of what is done at a step s. -/
def patAt (ps : List GPat) (V : List Bool) (s : ByteArray) (N : List Bool) (k : Nat) : List Bool := match ps[k]? with
  | some p => if V.getD k false then (if p.what = 4 then N.set k true else if fitsP p s then N.set (k + 1) true else N) else N
  | none => N
def nextV (ps : List GPat) (V : List Bool) (s : ByteArray) : List Bool := (List.range ps.length).foldl (patAt ps V s) (List.replicate (ps.length + 1) false)
def startV (ps : List GPat) : List Bool := deepV ps ((List.replicate (ps.length + 1) false).set 0 true)
def runV (ps : List GPat) (ss : List ByteArray) : List Bool := ss.foldl (fun V s => deepV ps (nextV ps V s)) (startV ps)
def matchG (ss : List ByteArray) (ps : List GPat) : Bool := (runV ps ss).getD ps.length false

theorem deepAt_len (ps : List GPat) (V : List Bool) (k : Nat) : (deepAt ps V k).length = V.length := by
  unfold deepAt
  split
  · split
    · split
      · rw [List.length_set]
      · rfl
    · rfl
  · rfl
theorem fold_len {α β : Type} (f : List α → β → List α) (hf : ∀ l b, (f l b).length = l.length) : ∀ (bs : List β) (l : List α), (bs.foldl f l).length = l.length
  | [], _ => rfl
  | b :: bs, l => by rw [List.foldl_cons, fold_len f hf bs, hf]
theorem deepV_len (ps : List GPat) (V : List Bool) : (deepV ps V).length = V.length := fold_len _ (deepAt_len ps) _ _
theorem patAt_len (ps : List GPat) (V : List Bool) (s : ByteArray) (N : List Bool) (k : Nat) : (patAt ps V s N k).length = N.length := by
  unfold patAt
  split
  · split
    · split
      · rw [List.length_set]
      · split
        · rw [List.length_set]
        · rfl
    · rfl
  · rfl
theorem nextV_len (ps : List GPat) (V : List Bool) (s : ByteArray) : (nextV ps V s).length = ps.length + 1 := by
  unfold nextV
  rw [fold_len _ (patAt_len ps V s), List.length_replicate]
theorem startV_len (ps : List GPat) : (startV ps).length = ps.length + 1 := by
  unfold startV
  rw [deepV_len, List.length_set, List.length_replicate]
theorem range_fold {α : Type} (f : α → Nat → α) (a : α) (k : Nat) : (List.range (k + 1)).foldl f a = f ((List.range k).foldl f a) k := by
  rw [List.range_succ, List.foldl_append]
  rfl

def blE (g : Nat) (V : List Bool) : AE := ⟨some ⟨g, 0, none⟩, V.length, V.length, 4, 1, V.map Value.bool⟩
def nwE (g5 gb n : Nat) : AE := ⟨some ⟨g5, 0, none⟩, 1, 1, 181, 1, [.slice (some ⟨gb, 0, none⟩) n n]⟩
theorem bl_get {V : List Bool} {k : Nat} {b : Bool} (h : V[k]? = some b) : (V.map Value.bool)[k]? = some (AT.b b).val := by rw [List.getElem?_map, h]; rfl
theorem bl_set (g : Nat) (V : List Bool) (k : Nat) : (⟨some ⟨g, 0, none⟩, V.length, V.length, 4, 1, (V.map Value.bool).set k (AT.val .tt)⟩ : AE) = blE g (V.set k true) := by
  unfold blE
  rw [List.length_set, List.map_set]
  rfl
theorem getD_of {V : List Bool} {k : Nat} {b : Bool} (h : V[k]? = some b) : V.getD k false = b := by rw [List.getD_eq_getElem?_getD, h]; rfl

set_option maxRecDepth 100000 in
set_option maxHeartbeats 1000000 in
theorem deep_c (σ : Snap) (ps : List GPat) (hl : ps.length ≤ 1000000) (po : Option Addr) (pc : Nat) (P : SlAt σ po ps.length pc 2 (ptRows ps)) (g3 g5 gb : Nat) (h3 : σ.cell ⟨g3, 0, none⟩ = some (.slice po ps.length pc)) (V : List Bool) (hV : V.length = ps.length + 1) :
    FnS Tryd.prog 127 ([ptrTo g3, ptrTo g5].map ptSV) σ [nwE g5 gb V.length, blE gb V] (fun v _ A' => v = .tuple #[] ∧ A' = [nwE g5 gb V.length, blE gb (deepV ps V)]) := by
  refine enter_f Tryd.func127 rfl rfl ⟨trivial, trivial, trivial⟩ fun w => ?_
  refine cj_seq ?_
  refine cj_region ?_
  refine oj_ldS (c := .v (.slice po ps.length pc)) TT rfl rfl rfl rfl rfl rfl rfl rfl h3 trivial (oj_run TT rfl ?_)
  (repeat (first | refine oj_then ?_ | refine cj_block ?_))
  refine cj_loop (fun (_ : Nat) => σ) (fun k => [(1, .a (.v (.pointer (some ⟨g5, 0, none⟩)))), (4, .a (.v (.slice po ps.length pc))), (5, .a (.v (.int .i64 ps.length))), (6, .a (.v (.int .i64 (k : Nat))))]) (fun _ => []) (fun k => [nwE g5 gb V.length, blE gb ((List.range k).foldl (deepAt ps) V)]) 0
    (fun k => k ≤ ps.length) (fun k => ps.length - k) 0 (Nat.zero_le _) rfl (by (repeat (first | exact trivial | refine And.intro rfl ?_))) (by (repeat (first | exact trivial | refine And.intro rfl ?_))) rfl (by (repeat' (first | exact trivial | constructor))) (by (repeat' exact trivial)) fun k hk => ?_
  (repeat (first | refine cj_seq ?_ | (refine cj_region ?_; refine oj_run TT rfl ?_) | refine oj_then ?_))
  refine cj_if rfl (fun h => ?_) (fun h => ?_)
  rotate_left
  · have hk0 : k = ps.length := by have := of_decide_eq_false h; omega
    subst hk0
    (repeat (first | refine cj_exit ?_ | refine nj_then_exit ?_ | refine nj_block_out ?_))
    refine nj_fend TT rfl fun β w' _ _ => ?_
    exact ⟨rfl, rfl⟩
  have hkl : k < ps.length := by have := of_decide_eq_true h; omega
  have hra := ptRows_get (List.getElem?_eq_getElem hkl)
  have hnx := range_fold (deepAt ps) V k
  have hlen : ((List.range k).foldl (deepAt ps) V).length = ps.length + 1 := by rw [fold_len _ (deepAt_len ps), hV]
  generalize (List.range k).foldl (deepAt ps) V = Vk at *
  have hd : deepAt ps Vk k = match ps[k]? with | some p => if p.what = 4 then (if Vk.getD k false then Vk.set (k + 1) true else Vk) else Vk | none => Vk := rfl
  rw [List.getElem?_eq_getElem hkl] at hd
  dsimp only at hd
  have hbk : Vk[k]? = some (Vk[k]'(by omega)) := List.getElem?_eq_getElem _
  rw [getD_of hbk] at hd
  generalize Vk[k]'(by omega) = b at *
  generalize ps[k] = p at *
  have hnw : ∀ W : List Bool, W.length = ps.length + 1 → nwE g5 gb V.length = nwE g5 gb W.length := fun W hW => by rw [hV, hW]
  have had : ∀ q : Nat, some (SV.a (AT.v (.pointer (some (Addr.add ⟨gb, 0, none⟩ ((q : Int).toNat * 1)))))) = some (SV.a (AT.v (.pointer (some ⟨gb, q, none⟩)))) := fun q => by
    rw [Int.toNat_natCast, add0, Nat.mul_one]
  (repeat (first | refine cj_seq ?_ | (refine cj_region ?_; refine oj_run TT rfl ?_) | refine cj_skip ?_ | refine cj_block ?_ | refine nj_then ?_))
  refine oj_idx TT rfl rfl rfl rfl rfl rfl rfl rfl rfl P (by omega) hra (oj_run TT rfl ?_)
  (repeat (first | refine cj_seq ?_ | (refine cj_region ?_; refine oj_run TT rfl ?_) | refine oj_then ?_))
  refine oj_split 14 rfl (fun h1 => ?_) (fun h1 => ?_)
  rotate_left
  · have h1 : decide (p.what = 4) = false := h1
    rw [if_neg (of_decide_eq_false h1)] at hd
    refine oj_run TT rfl ?_
    (repeat (first | (refine cj_region ?_; refine oj_run TT rfl ?_) | refine oj_then ?_ | refine oj_nil ?_ | refine cj_if_f rfl ?_ | refine cj_skip ?_ | refine nj_then ?_ | refine nj_block ?_ | (refine oj_add rfl rfl rfl rfl rfl rfl (by omega) ?_; refine oj_run TT rfl ?_)))
    refine nj_again (k + 1) hkl (by omega) rfl (by (repeat (first | exact trivial | refine And.intro rfl ?_))) (by (repeat (first | exact trivial | refine And.intro rfl ?_))) ?_ (by (repeat' (first | exact trivial | constructor))) (by (repeat' exact trivial))
    rw [hnx, hd]
  have h1 : decide (p.what = 4) = true := h1
  rw [if_pos (of_decide_eq_true h1)] at hd
  refine oj_run TT rfl ?_
  refine oj_ldA 0 (off := 0) (c := .v (.slice (some ⟨gb, 0, none⟩) V.length V.length)) TT rfl rfl rfl rfl rfl rfl rfl rfl rfl rfl rfl trivial (oj_run TT rfl ?_)
  refine oj_indexAddr TT rfl rfl rfl rfl rfl rfl rfl rfl rfl ⟨by omega, by omega⟩ (oj_run TT rfl ?_)
  refine oj_ldA 1 (off := k) (c := .b b) TT rfl rfl rfl rfl rfl (had k) rfl rfl rfl rfl (bl_get hbk) trivial (oj_run TT rfl ?_)
  (repeat refine oj_then ?_)
  refine cj_if rfl (fun h2 => ?_) (fun h2 => ?_)
  rotate_left
  · rw [h2, if_neg (by simp)] at hd
    (repeat (first | (refine cj_region ?_; refine oj_run TT rfl ?_) | refine oj_nil ?_ | refine cj_skip ?_ | refine nj_then ?_ | refine nj_block ?_ | (refine oj_add rfl rfl rfl rfl rfl rfl (by omega) ?_; refine oj_run TT rfl ?_)))
    refine nj_again (k + 1) hkl (by omega) rfl (by (repeat (first | exact trivial | refine And.intro rfl ?_))) (by (repeat (first | exact trivial | refine And.intro rfl ?_))) ?_ (by (repeat' (first | exact trivial | constructor))) (by (repeat' exact trivial))
    rw [hnx, hd]
  rw [h2, if_pos rfl] at hd
  (repeat (refine cj_region ?_; refine oj_run TT rfl ?_))
  refine oj_ldA 0 (off := 0) (c := .v (.slice (some ⟨gb, 0, none⟩) V.length V.length)) TT rfl rfl rfl rfl rfl rfl rfl rfl rfl rfl rfl trivial (oj_run TT rfl ?_)
  refine oj_add rfl rfl rfl rfl rfl rfl (by omega) (oj_run TT rfl ?_)
  refine oj_indexAddr TT rfl rfl rfl rfl rfl rfl rfl rfl rfl ⟨by omega, by omega⟩ (oj_run TT rfl ?_)
  refine oj_stA 1 (off := k + 1) (c := .tt) (A' := [nwE g5 gb V.length, blE gb (Vk.set (k + 1) true)]) TT rfl rfl rfl rfl (had (k + 1)) rfl rfl rfl rfl rfl (by show k + 1 < Vk.length * 1; omega) trivial rfl ?_ (oj_run TT rfl ?_)
  · show [_, _] = [_, _]
    rw [← bl_set]
    rfl
  (repeat (first | (refine cj_region ?_; refine oj_run TT rfl ?_) | refine oj_nil ?_ | refine nj_then ?_ | refine nj_block ?_ | (refine oj_add rfl rfl rfl rfl rfl rfl (by omega) ?_; refine oj_run TT rfl ?_)))
  refine nj_again (k + 1) hkl (by omega) rfl (by (repeat (first | exact trivial | refine And.intro rfl ?_))) (by (repeat (first | exact trivial | refine And.intro rfl ?_))) ?_ (by (repeat' (first | exact trivial | constructor))) (by (repeat' exact trivial))
  rw [hnx, hd]

theorem bl_rep (g n : Nat) : (⟨some ⟨g, 0, none⟩, n, n, 4, 1, List.replicate n (AT.val .ff)⟩ : AE) = blE g (List.replicate n false) := by
  unfold blE
  rw [List.length_replicate, List.map_replicate]
  rfl

structure MtS where
  k : Nat
  gb : Nat
  V : List Bool

set_option maxRecDepth 100000 in
set_option maxHeartbeats 1000000 in
theorem matches_c (σ : Snap) (ss : List ByteArray) (hs : ss.length ≤ 140737488355328) (so : Option Addr) (sc : Nat) (S : SlAt σ so ss.length sc 1 (strRows ss)) (ps : List GPat) (hl : ps.length ≤ 1000000) (po : Option Addr) (pc : Nat) (P : SlAt σ po ps.length pc 2 (ptRows ps)) :
    PlainS Tryd.prog 96 [.a (.v (.slice so ss.length sc)), .a (.v (.slice po ps.length pc))] σ (fun v => v = .bool (matchG ss ps)) := by
  refine enter_p Tryd.func96 rfl rfl (by (repeat' (first | exact trivial | constructor))) fun w => ?_
  (repeat (first | refine cj_seq ?_ | (refine cj_region ?_; refine oj_run TT rfl ?_) | refine oj_then ?_ | (refine oj_add rfl rfl rfl rfl rfl rfl (by omega) ?_; refine oj_run TT rfl ?_)))
  refine oj_makeSlice (n := ps.length + 1) TT rfl rfl rfl rfl rfl rfl rfl rfl rfl rfl rfl rfl trivial (by show (ps.length + 1) * 1 ≤ _; omega) (by omega) fun gb => oj_run TT rfl ?_
  refine oj_own 1 1 1 rfl (by (repeat' (first | exact trivial | refine AllLt.of ?_ | constructor))) rfl (by decide) fun g5 => ?_
  refine oj_own 0 1 1 rfl (by (repeat' (first | exact trivial | refine AllLt.of ?_ | constructor))) rfl (by decide) fun g3 => ?_
  refine oj_seal 2 rfl rfl rfl fun σ1 hle1 hS3 => ?_
  have h3 : σ1.cell ⟨g3, 0, none⟩ = some (.slice po ps.length pc) := cell_of hS3
  have P1 := P.mono hle1
  have S1 := S.mono hle1
  have hdeep : ∀ (s : Snap) (_ : σ1.le s) (gb : Nat) (V : List Bool), V.length = ps.length + 1 → FnS Tryd.prog 127 ([ptrTo g3, ptrTo g5].map ptSV) s [nwE g5 gb (ps.length + 1), blE gb V] (fun v _ A' => v = .tuple #[] ∧ A' = [nwE g5 gb (ps.length + 1), blE gb (deepV ps V)]) := by
    intro s hs gb V hV
    have := deep_c s ps hl po pc (P1.mono hs) g3 g5 gb (hs.cell h3) V hV
    rw [hV] at this
    exact this
  refine oj_then ?_
  refine cj_re [1, 0] (A' := [nwE g5 gb (ps.length + 1), blE gb (List.replicate (ps.length + 1) false)]) (by show [_, _] = [_, _]; rw [← bl_rep]; rfl) rfl ?_
  have had : ∀ (g q : Nat), some (SV.a (AT.v (.pointer (some (Addr.add ⟨g, 0, none⟩ ((q : Int).toNat * 1)))))) = some (SV.a (AT.v (.pointer (some ⟨g, q, none⟩)))) := fun g q => by
    rw [Int.toNat_natCast, add0, Nat.mul_one]
  have hrl : (List.replicate (ps.length + 1) false).length = ps.length + 1 := List.length_replicate
  (repeat (first | refine cj_seq ?_ | (refine cj_region ?_; refine oj_run TT rfl ?_)))
  refine oj_ldA 0 (off := 0) (c := .v (.slice (some ⟨gb, 0, none⟩) (ps.length + 1) (ps.length + 1))) TT rfl rfl rfl rfl rfl rfl rfl rfl rfl rfl rfl trivial (oj_run TT rfl ?_)
  refine oj_indexAddr TT rfl rfl rfl rfl rfl rfl rfl rfl rfl ⟨by omega, by omega⟩ (oj_run TT rfl ?_)
  refine oj_stA 1 (off := 0) (c := .tt) (A' := [nwE g5 gb (ps.length + 1), blE gb ((List.replicate (ps.length + 1) false).set 0 true)]) TT rfl rfl rfl rfl (had gb 0) rfl rfl rfl rfl rfl (by show 0 < (List.replicate (ps.length + 1) false).length * 1; omega) trivial rfl ?_ (oj_run TT rfl ?_)
  · show [_, _] = [_, _]
    rw [← bl_set]
    rfl
  (repeat (first | refine cj_seq ?_ | (refine cj_region ?_; refine oj_run TT rfl ?_) | refine oj_then ?_))
  refine oj_callF [0, 1] (A0 := [nwE g5 gb (ps.length + 1), blE gb ((List.replicate (ps.length + 1) false).set 0 true)]) (Ar := []) rfl rfl rfl rfl rfl rfl rfl Tryd.call127 ⟨trivial, trivial, trivial⟩ (hdeep σ1 (Snap.le_refl _) gb _ (by rw [List.length_set, hrl])) fun v σ2 A2 hle2 ⟨hv, hA⟩ => ⟨.tup [], (by (repeat' (first | exact trivial | refine SV.lt_tup ?_))), hv.symm, ?_⟩
  subst hA
  have hst : deepV ps ((List.replicate (ps.length + 1) false).set 0 true) = startV ps := rfl
  rw [hst]
  refine oj_run TT rfl ?_
  (repeat (first | refine cj_seq ?_ | (refine cj_region ?_; refine oj_run TT rfl ?_) | refine oj_then ?_ | refine cj_block ?_))
  refine cj_loop2 (fun (s : Snap) (_ : MtS) => s) (fun _ t => [(3, .a (.v (.pointer (some ⟨g3, 0, none⟩)))), (5, .a (.v (.pointer (some ⟨g5, 0, none⟩)))), (6, .a (.fn (.func 127) [ptrTo g3, ptrTo g5])), (21, .a (.v (.slice so ss.length sc))), (22, .a (.v (.int .i64 ss.length))), (23, .a (.v (.int .i64 (t.k : Nat))))]) (fun _ _ => []) (fun _ t => [nwE g5 t.gb (ps.length + 1), blE t.gb t.V]) 0
    (fun s t => σ1.le s ∧ t.k ≤ ss.length ∧ t.V = runV ps (ss.take t.k) ∧ t.V.length = ps.length + 1) (fun _ t => ss.length - t.k) σ2 ⟨0, gb, startV ps⟩ ⟨hle2, Nat.zero_le _, rfl, startV_len ps⟩ rfl (by (repeat (first | exact trivial | refine And.intro rfl ?_))) (by (repeat (first | exact trivial | refine And.intro rfl ?_))) rfl ⟨trivial, trivial, fn_lt2 (.func 127) g3 g5 0, trivial, trivial, trivial, trivial⟩ trivial fun s ⟨k, gb, V⟩ ⟨hle, hk, hV, hVl⟩ => ?_
  dsimp only at hk hV hVl ⊢
  have h3 := hle.cell h3
  have P1 := P1.mono hle
  have S1 := S1.mono hle
  (repeat (first | refine cj_seq ?_ | (refine cj_region ?_; refine oj_run TT rfl ?_) | refine oj_then ?_))
  refine cj_if rfl (fun h => ?_) (fun h => ?_)
  rotate_left
  · have hk0 : k = ss.length := by have := of_decide_eq_false h; omega
    rw [hk0, List.take_length] at hV
    have hb : V[ps.length]? = some (V[ps.length]'(by omega)) := List.getElem?_eq_getElem _
    have hm : matchG ss ps = V[ps.length]'(by omega) := by
      unfold matchG
      rw [← hV]
      exact getD_of hb
    generalize V[ps.length]'(by omega) = b at *
    (repeat (first | refine cj_seq ?_ | (refine cj_region ?_; refine oj_run TT rfl ?_) | refine cj_exit ?_ | refine nj_then ?_ | refine nj_then_exit ?_ | refine nj_block_out ?_))
    refine oj_ldA 0 (off := 0) (c := .v (.slice (some ⟨gb, 0, none⟩) (ps.length + 1) (ps.length + 1))) TT rfl rfl rfl rfl rfl rfl rfl rfl rfl rfl rfl trivial (oj_run TT rfl ?_)
    refine oj_ldS (c := .v (.slice po ps.length pc)) TT rfl rfl rfl rfl rfl rfl rfl rfl h3 trivial (oj_run TT rfl ?_)
    refine oj_indexAddr TT rfl rfl rfl rfl rfl rfl rfl rfl rfl ⟨by omega, by omega⟩ (oj_run TT rfl ?_)
    refine oj_ldA 1 (off := ps.length) (c := .b b) TT rfl rfl rfl rfl rfl (had gb ps.length) rfl rfl rfl rfl (bl_get hb) trivial (oj_run TT rfl ?_)
    (repeat (first | refine oj_then ?_ | refine cj_ret ?_))
    refine nj_ret TT rfl fun β w' _ _ => ?_
    rw [hm]
    rfl
  have hkl : k < ss.length := by have := of_decide_eq_true h; omega
  have hrow := strRows_get (List.getElem?_eq_getElem hkl)
  have hnext : runV ps (ss.take (k + 1)) = deepV ps (nextV ps V ss[k]) := by
    unfold runV
    rw [List.take_succ_eq_append_getElem hkl, List.foldl_append]
    rw [hV]
    rfl
  clear hV
  generalize ss[k] = x at *
  (repeat (first | refine cj_seq ?_ | (refine cj_region ?_; refine oj_run TT rfl ?_) | refine cj_skip ?_ | refine cj_block ?_ | refine nj_then ?_))
  refine oj_idx TT rfl rfl rfl rfl rfl rfl rfl rfl rfl S1 (by omega) hrow (oj_run TT rfl ?_)
  (repeat (first | refine cj_seq ?_ | (refine cj_region ?_; refine oj_run TT rfl ?_) | refine oj_then ?_))
  refine oj_ldS (c := .v (.slice po ps.length pc)) TT rfl rfl rfl rfl rfl rfl rfl rfl h3 trivial (oj_run TT rfl ?_)
  refine oj_add rfl rfl rfl rfl rfl rfl (by omega) (oj_run TT rfl ?_)
  refine oj_makeSlice (n := ps.length + 1) TT rfl rfl rfl rfl rfl rfl rfl rfl rfl rfl rfl rfl trivial (by show (ps.length + 1) * 1 ≤ _; omega) (by omega) fun g2 => oj_run TT rfl ?_
  refine oj_then ?_
  refine cj_re [0, 1, 2] (A' := [nwE g5 gb (ps.length + 1), blE gb V, blE g2 (List.replicate (ps.length + 1) false)]) (by show [_, _, _] = [_, _, _]; rw [← bl_rep]) rfl ?_
  (repeat (first | refine cj_seq ?_ | (refine cj_region ?_; refine oj_run TT rfl ?_)))
  refine oj_ldS (c := .v (.slice po ps.length pc)) TT rfl rfl rfl rfl rfl rfl rfl rfl h3 trivial (oj_run TT rfl ?_)
  (repeat (first | refine oj_then ?_ | refine cj_block ?_))
  refine cj_loop (fun (_ : Nat) => s) (fun j => [(3, .a (.v (.pointer (some ⟨g3, 0, none⟩)))), (5, .a (.v (.pointer (some ⟨g5, 0, none⟩)))), (6, .a (.fn (.func 127) [ptrTo g3, ptrTo g5])), (8, .a (.v (.string x))), (9, .a (.v (.slice (some ⟨g2, 0, none⟩) (ps.length + 1) (ps.length + 1)))), (21, .a (.v (.slice so ss.length sc))), (22, .a (.v (.int .i64 ss.length))), (23, .a (.v (.int .i64 (k : Nat)))), (31, .a (.v (.slice po ps.length pc))), (32, .a (.v (.int .i64 ps.length))), (33, .a (.v (.int .i64 (j : Nat))))])
    (fun _ => []) (fun j => [nwE g5 gb (ps.length + 1), blE gb V, blE g2 ((List.range j).foldl (patAt ps V x) (List.replicate (ps.length + 1) false))]) 0
    (fun j => j ≤ ps.length) (fun j => ps.length - j) 0 (Nat.zero_le _) rfl (by (repeat (first | exact trivial | refine And.intro rfl ?_))) (by (repeat (first | exact trivial | refine And.intro rfl ?_))) rfl ⟨trivial, trivial, fn_lt2 (.func 127) g3 g5 0, trivial, trivial, trivial, trivial, trivial, trivial, trivial, trivial, trivial⟩ trivial fun j hj => ?_
  (repeat (first | refine cj_seq ?_ | (refine cj_region ?_; refine oj_run TT rfl ?_) | refine oj_then ?_))
  refine cj_if rfl (fun h => ?_) (fun h => ?_)
  rotate_left
  · have hj0 : j = ps.length := by have := of_decide_eq_false h; omega
    subst hj0
    have hN : (List.range ps.length).foldl (patAt ps V x) (List.replicate (ps.length + 1) false) = nextV ps V x := rfl
    have hNl := nextV_len ps V x
    rw [hN]
    generalize nextV ps V x = N at *
    (repeat (first | refine cj_seq ?_ | (refine cj_region ?_; refine oj_run TT rfl ?_) | refine cj_exit ?_ | refine nj_then ?_ | refine nj_then_exit ?_ | refine nj_block_out ?_))
    refine oj_stA 0 (off := 0) (c := .v (.slice (some ⟨g2, 0, none⟩) (ps.length + 1) (ps.length + 1))) (A' := [nwE g5 g2 (ps.length + 1), blE gb V, blE g2 N]) TT rfl rfl rfl rfl rfl rfl rfl rfl rfl rfl (by show 0 < 1 * 1; omega) trivial rfl rfl (oj_run TT rfl ?_)
    (repeat (first | (refine cj_region ?_; refine oj_run TT rfl ?_) | refine oj_then ?_))
    refine oj_callF [0, 2] (A0 := [nwE g5 g2 (ps.length + 1), blE g2 N]) (Ar := []) rfl rfl rfl rfl rfl rfl rfl Tryd.call127 ⟨trivial, trivial, trivial⟩ (hdeep s hle g2 N hNl) fun v σ3 A3 hle3 ⟨hv, hA⟩ => ⟨.tup [], (by (repeat' (first | exact trivial | refine SV.lt_tup ?_))), hv.symm, ?_⟩
    subst hA
    refine oj_run TT rfl ?_
    (repeat (first | (refine cj_region ?_; refine oj_run TT rfl ?_) | refine oj_nil ?_ | refine nj_then ?_ | refine nj_block ?_ | (refine oj_add rfl rfl rfl rfl rfl rfl (by omega) ?_; refine oj_run TT rfl ?_)))
    refine nj_again (σ3, (⟨k + 1, g2, deepV ps N⟩ : MtS)) ⟨Snap.le_trans hle hle3, hkl, hnext.symm, by dsimp only; rw [deepV_len, hNl]⟩ (by dsimp only; omega) rfl (by (repeat (first | exact trivial | refine And.intro rfl ?_))) (by (repeat (first | exact trivial | refine And.intro rfl ?_))) rfl ⟨trivial, trivial, fn_lt2 (.func 127) g3 g5 0, trivial, trivial, trivial, trivial⟩ trivial
  have hjl : j < ps.length := by have := of_decide_eq_true h; omega
  have hra := ptRows_get (List.getElem?_eq_getElem hjl)
  have hnx := range_fold (patAt ps V x) (List.replicate (ps.length + 1) false) j
  have hNl : ((List.range j).foldl (patAt ps V x) (List.replicate (ps.length + 1) false)).length = ps.length + 1 := by rw [fold_len _ (patAt_len ps V x), List.length_replicate]
  generalize (List.range j).foldl (patAt ps V x) (List.replicate (ps.length + 1) false) = N at *
  have hd : patAt ps V x N j = match ps[j]? with | some p => if V.getD j false then (if p.what = 4 then N.set j true else if fitsP p x then N.set (j + 1) true else N) else N | none => N := rfl
  rw [List.getElem?_eq_getElem hjl] at hd
  dsimp only at hd
  have hbk : V[j]? = some (V[j]'(by omega)) := List.getElem?_eq_getElem _
  rw [getD_of hbk] at hd
  generalize V[j]'(by omega) = b at *
  generalize ps[j] = p at *
  have hlt : EnvLt 0 [(3, .a (.v (.pointer (some ⟨g3, 0, none⟩)))), (5, .a (.v (.pointer (some ⟨g5, 0, none⟩)))), (6, .a (.fn (.func 127) [ptrTo g3, ptrTo g5])), (8, .a (.v (.string x))), (9, .a (.v (.slice (some ⟨g2, 0, none⟩) (ps.length + 1) (ps.length + 1)))), (21, .a (.v (.slice so ss.length sc))), (22, .a (.v (.int .i64 ss.length))), (23, .a (.v (.int .i64 (k : Nat)))), (31, .a (.v (.slice po ps.length pc))), (32, .a (.v (.int .i64 ps.length))), (33, .a (.v (.int .i64 ((j + 1 : Nat) : Int))))] := ⟨trivial, trivial, fn_lt2 (.func 127) g3 g5 0, trivial, trivial, trivial, trivial, trivial, trivial, trivial, trivial, trivial⟩
  (repeat (first | refine cj_seq ?_ | (refine cj_region ?_; refine oj_run TT rfl ?_) | refine cj_skip ?_ | refine cj_block ?_ | refine nj_then ?_))
  refine oj_idx TT rfl rfl rfl rfl rfl rfl rfl rfl rfl P1 (by omega) hra (oj_run TT rfl ?_)
  (repeat (first | refine cj_seq ?_ | (refine cj_region ?_; refine oj_run TT rfl ?_) | refine oj_then ?_))
  refine oj_ldA 0 (off := 0) (c := .v (.slice (some ⟨gb, 0, none⟩) (ps.length + 1) (ps.length + 1))) TT rfl rfl rfl rfl rfl rfl rfl rfl rfl rfl rfl trivial (oj_run TT rfl ?_)
  refine oj_indexAddr TT rfl rfl rfl rfl rfl rfl rfl rfl rfl ⟨by omega, by omega⟩ (oj_run TT rfl ?_)
  refine oj_ldA 1 (off := j) (c := .b b) TT rfl rfl rfl rfl rfl (had gb j) rfl rfl rfl rfl (bl_get hbk) trivial (oj_run TT rfl ?_)
  refine oj_split 42 rfl (fun h1 => ?_) (fun h1 => ?_)
  · have h1 : b = true := h1
    rw [h1, if_pos rfl] at hd
    refine oj_run TT rfl ?_
    (repeat refine oj_then ?_)
    refine cj_if rfl (fun h2 => ?_) (fun h2 => ?_)
    · rw [if_pos (of_decide_eq_true h2)] at hd
      (repeat (refine cj_region ?_; refine oj_run TT rfl ?_))
      refine oj_indexAddr TT rfl rfl rfl rfl rfl rfl rfl rfl rfl ⟨by omega, by omega⟩ (oj_run TT rfl ?_)
      refine oj_stA 2 (off := j) (c := .tt) (A' := [nwE g5 gb (ps.length + 1), blE gb V, blE g2 (N.set j true)]) TT rfl rfl rfl rfl (had g2 j) rfl rfl rfl rfl rfl (by show j < N.length * 1; omega) trivial rfl ?_ (oj_run TT rfl ?_)
      · show [_, _, _] = [_, _, _]
        rw [← bl_set]
        rfl
      (repeat (first | (refine cj_region ?_; refine oj_run TT rfl ?_) | refine oj_nil ?_ | refine nj_then ?_ | refine nj_block ?_ | (refine oj_add rfl rfl rfl rfl rfl rfl (by omega) ?_; refine oj_run TT rfl ?_)))
      refine nj_again (j + 1) hjl (by omega) rfl (by (repeat (first | exact trivial | refine And.intro rfl ?_))) (by (repeat (first | exact trivial | refine And.intro rfl ?_))) ?_ hlt trivial
      rw [hnx, hd]
    · rw [if_neg (of_decide_eq_false h2)] at hd
      (repeat (first | refine cj_seq ?_ | (refine cj_region ?_; refine oj_run TT rfl ?_)))
      refine oj_ldA 0 (off := 0) (c := .v (.slice (some ⟨gb, 0, none⟩) (ps.length + 1) (ps.length + 1))) TT rfl rfl rfl rfl rfl rfl rfl rfl rfl rfl rfl trivial (oj_run TT rfl ?_)
      refine oj_indexAddr TT rfl rfl rfl rfl rfl rfl rfl rfl rfl ⟨by omega, by omega⟩ (oj_run TT rfl ?_)
      refine oj_ldA 1 (off := j) (c := .b b) TT rfl rfl rfl rfl rfl (had gb j) rfl rfl rfl rfl (bl_get hbk) trivial (oj_run TT rfl ?_)
      refine oj_split 54 rfl (fun _ => ?_) (fun h3 => absurd (show b = false from h3) (by rw [h1]; decide))
      refine oj_run TT rfl ?_
      refine oj_callP rfl rfl rfl rfl rfl Tryd.call128 ⟨(by (repeat' (first | exact trivial | refine AllLt.of ?_ | constructor))), trivial, trivial⟩ (fitsP_c s p x) fun v hv => ⟨.a (.b (fitsP p x)), trivial, hv.symm, ?_⟩
      refine oj_run TT rfl ?_
      (repeat refine oj_then ?_)
      refine cj_if rfl (fun h4 => ?_) (fun h4 => ?_)
      · rw [h4, if_pos rfl] at hd
        (repeat (first | (refine cj_region ?_; refine oj_run TT rfl ?_) | (refine oj_add rfl rfl rfl rfl rfl rfl (by omega) ?_; refine oj_run TT rfl ?_)))
        refine oj_indexAddr TT rfl rfl rfl rfl rfl rfl rfl rfl rfl ⟨by omega, by omega⟩ (oj_run TT rfl ?_)
        refine oj_stA 2 (off := j + 1) (c := .tt) (A' := [nwE g5 gb (ps.length + 1), blE gb V, blE g2 (N.set (j + 1) true)]) TT rfl rfl rfl rfl (had g2 (j + 1)) rfl rfl rfl rfl rfl (by show j + 1 < N.length * 1; omega) trivial rfl ?_ (oj_run TT rfl ?_)
        · show [_, _, _] = [_, _, _]
          rw [← bl_set]
          rfl
        (repeat (first | (refine cj_region ?_; refine oj_run TT rfl ?_) | refine oj_nil ?_ | refine nj_then ?_ | refine nj_block ?_ | (refine oj_add rfl rfl rfl rfl rfl rfl (by omega) ?_; refine oj_run TT rfl ?_)))
        refine nj_again (j + 1) hjl (by omega) rfl (by (repeat (first | exact trivial | refine And.intro rfl ?_))) (by (repeat (first | exact trivial | refine And.intro rfl ?_))) ?_ hlt trivial
        rw [hnx, hd]
      · rw [h4, if_neg (by simp)] at hd
        (repeat (first | (refine cj_region ?_; refine oj_run TT rfl ?_) | refine oj_nil ?_ | refine cj_skip ?_ | refine nj_then ?_ | refine nj_block ?_ | (refine oj_add rfl rfl rfl rfl rfl rfl (by omega) ?_; refine oj_run TT rfl ?_)))
        refine nj_again (j + 1) hjl (by omega) rfl (by (repeat (first | exact trivial | refine And.intro rfl ?_))) (by (repeat (first | exact trivial | refine And.intro rfl ?_))) ?_ hlt trivial
        rw [hnx, hd]
  · have h1 : b = false := h1
    rw [h1, if_neg (by simp)] at hd
    refine oj_run TT rfl ?_
    (repeat (first | refine cj_seq ?_ | (refine cj_region ?_; refine oj_run TT rfl ?_) | refine oj_then ?_ | refine cj_if_f rfl ?_))
    refine oj_ldA 0 (off := 0) (c := .v (.slice (some ⟨gb, 0, none⟩) (ps.length + 1) (ps.length + 1))) TT rfl rfl rfl rfl rfl rfl rfl rfl rfl rfl rfl trivial (oj_run TT rfl ?_)
    refine oj_indexAddr TT rfl rfl rfl rfl rfl rfl rfl rfl rfl ⟨by omega, by omega⟩ (oj_run TT rfl ?_)
    refine oj_ldA 1 (off := j) (c := .b b) TT rfl rfl rfl rfl rfl (had gb j) rfl rfl rfl rfl (bl_get hbk) trivial (oj_run TT rfl ?_)
    refine oj_split 54 rfl (fun h3 => absurd (show b = true from h3) (by rw [h1]; decide)) (fun _ => ?_)
    refine oj_run TT rfl ?_
    (repeat (first | (refine cj_region ?_; refine oj_run TT rfl ?_) | refine oj_then ?_ | refine oj_nil ?_ | refine cj_if_f rfl ?_ | refine cj_skip ?_ | refine nj_then ?_ | refine nj_block ?_ | (refine oj_add rfl rfl rfl rfl rfl rfl (by omega) ?_; refine oj_run TT rfl ?_)))
    refine nj_again (j + 1) hjl (by omega) rfl (by (repeat (first | exact trivial | refine And.intro rfl ?_))) (by (repeat (first | exact trivial | refine And.intro rfl ?_))) ?_ hlt trivial
    rw [hnx, hd]
end Go.Sy
namespace Go.Sy
open Go.Proofs

/-! ### Match -/

set_option maxRecDepth 100000 in
set_option maxHeartbeats 1000000 in
theorem match1_c (σ : Snap) (k : Nat) (x : GLine) (hx : LnOk σ x) (ps : List GPat) (hl : ps.length ≤ 1000000) (po : Option Addr) (pc : Nat) (P : SlAt σ po ps.length pc 2 (ptRows ps)) (g : Nat) (hg : σ.cell ⟨g, 0, none⟩ = some (.slice po ps.length pc)) :
    PlainS Tryd.prog 95 (.a (.v (.int .i64 k)) :: .agg (lnCells x) :: [ptrTo g].map ptSV) σ (fun v => v = .bool (matchG x.st ps)) := by
  refine enter_p Tryd.func95 rfl rfl ⟨trivial, lnCells_lt 0 x, trivial, trivial⟩ fun w => ?_
  (repeat (first | refine cj_seq ?_ | (refine cj_region ?_; refine oj_run TT rfl ?_) | refine oj_then ?_))
  refine oj_ldS (c := .v (.slice po ps.length pc)) TT rfl rfl rfl rfl rfl rfl rfl rfl hg trivial (oj_run TT rfl ?_)
  refine oj_callP rfl rfl rfl rfl rfl Tryd.call96 (by (repeat' (first | exact trivial | constructor))) (matches_c σ x.st hx.1 x.ao x.cap hx.2 ps hl po pc P) fun v hv => ⟨.a (.b (matchG x.st ps)), trivial, hv.symm, ?_⟩
  refine oj_run TT rfl ?_
  (repeat (first | refine oj_then ?_ | refine cj_ret ?_))
  refine nj_ret TT rfl fun β w' _ _ => ?_
  rfl

/-- The lines that are as asked for. -/
def matchIds (xs : List GLine) (ps : List GPat) : List Int := allG (fun _ x => matchG x.st ps) xs 0

set_option maxRecDepth 100000 in
set_option maxHeartbeats 1000000 in
theorem Match_c (σ : Snap) (xs : List GLine) (hxl : xs.length ≤ 1000000) (ao : Option Addr) (cap : Nat) (next : Int) (H : SlAt σ ao xs.length cap 3 (lnRows xs)) (hx : ∀ x ∈ xs, LnOk σ x)
    (ps : List GPat) (hl : ps.length ≤ 1000000) (po : Option Addr) (pc : Nat) (P : SlAt σ po ps.length pc 2 (ptRows ps)) :
    PureS Tryd.prog 55 [.agg [.v (.slice ao xs.length cap), .v (.int .i64 next)], .a (.v (.slice po ps.length pc))] σ (fun v σ' => ∃ oo oc, v = .slice oo (matchIds xs ps).length oc ∧ SlAt σ' oo (matchIds xs ps).length oc 1 (idRows (matchIds xs ps))) := by
  refine enter_s Tryd.func55 rfl rfl (by (repeat' (first | exact trivial | refine AllLt.of ?_ | constructor))) fun w => ?_
  (repeat (first | refine cj_seq ?_ | (refine cj_region ?_; refine oj_run TT rfl ?_) | refine oj_then ?_))
  refine oj_own 1 1 1 rfl (by (repeat' (first | exact trivial | refine AllLt.of ?_ | constructor))) rfl (by decide) fun g => ?_
  refine oj_seal 0 rfl rfl rfl fun σ1 hle1 hS => ?_
  refine oj_callS rfl rfl rfl rfl rfl Tryd.call94 ⟨(by (repeat' (first | exact trivial | refine AllLt.of ?_ | constructor))), fn_lt1 (.func 95) g 0, trivial⟩ (all_c σ1 xs hxl ao cap next (H.mono hle1) 95 [ptrTo g] ⟨trivial, trivial⟩ Tryd.call95 (fun _ x => matchG x.st ps) (fun k x hk => match1_c σ1 k x ((hx x (List.mem_of_getElem? hk)).mono hle1) ps hl po pc (P.mono hle1) g (cell_of hS)) (fn_lt1 (.func 95) g 0)) fun v σ2 hle2 ⟨oo, oc, hv, HO⟩ => ⟨.a (.v (.slice oo (matchIds xs ps).length oc)), trivial, hv.symm, ?_⟩
  refine oj_run TT rfl ?_
  (repeat (first | refine oj_then ?_ | refine cj_ret ?_))
  refine nj_ret TT rfl fun β w' _ _ => ?_
  exact ⟨oo, oc, rfl, HO⟩
end Go.Sy
namespace Go.Sy
open Go.Proofs

/-! ### slices.Index -/

def idxF (v : Nat) : List Nat → Nat → Int
  | [], _ => -1
  | m :: ms, k => if v = m then k else idxF v ms (k + 1)

set_option maxRecDepth 100000 in
set_option maxHeartbeats 1000000 in
theorem Index_c (σ : Snap) (ks : List Nat) (hL : ks.length ≤ 100000) (oo : Option Addr) (oc : Nat) (HK : SlAt σ oo ks.length oc 1 (kidRows ks)) (v : Nat) :
    PlainS Tryd.prog 79 [.a (.v (.slice oo ks.length oc)), .a (.v (.int .i64 v))] σ (fun x => x = .int .i64 (idxF v ks 0)) := by
  refine enter_p Tryd.func79 rfl rfl (by (repeat' (first | exact trivial | constructor))) fun w => ?_
  (repeat (first | refine cj_seq ?_ | (refine cj_region ?_; refine oj_run TT rfl ?_) | refine oj_then ?_ | refine cj_block ?_))
  refine cj_loop (fun (_ : Nat) => σ) (fun k => [(0, .a (.v (.slice oo ks.length oc))), (1, .a (.v (.int .i64 v))), (7, .a (.v (.int .i64 ks.length))), (8, .a (.v (.int .i64 k)))]) (fun _ => []) (fun _ => []) 0
    (fun k => k ≤ ks.length ∧ idxF v (ks.drop k) k = idxF v ks 0) (fun k => ks.length - k) 0 ⟨Nat.zero_le _, rfl⟩ rfl (by (repeat (first | exact trivial | refine And.intro rfl ?_))) (by (repeat (first | exact trivial | refine And.intro rfl ?_))) rfl (by (repeat' (first | exact trivial | constructor))) (by (repeat' exact trivial)) fun k ⟨hk, hp⟩ => ?_
  (repeat (first | refine cj_seq ?_ | (refine cj_region ?_; refine oj_run TT rfl ?_) | refine oj_then ?_))
  refine cj_if rfl (fun h => ?_) (fun h => ?_)
  rotate_left
  · have hk0 : k = ks.length := by have := of_decide_eq_false h; omega
    subst hk0
    rw [List.drop_length] at hp
    (repeat (first | refine cj_seq ?_ | (refine cj_region ?_; refine oj_run TT rfl ?_) | refine oj_then ?_ | refine cj_exit ?_ | refine cj_ret ?_ | refine nj_then ?_ | refine nj_then_exit ?_ | refine nj_block_out ?_))
    refine nj_ret TT rfl fun β w' _ _ => ?_
    rw [← hp]
    rfl
  have hkl : k < ks.length := by have := of_decide_eq_true h; omega
  have hkr : (kidRows ks)[k]? = some [.v (.int .i64 (ks[k] : Nat))] := by unfold kidRows; rw [List.getElem?_map, List.getElem?_eq_getElem hkl]; rfl
  rw [List.drop_eq_getElem_cons hkl, idxF] at hp
  generalize ks[k] = m at *
  (repeat (first | refine cj_seq ?_ | (refine cj_region ?_; refine oj_run TT rfl ?_) | refine oj_then ?_ | refine cj_skip ?_ | refine cj_block ?_ | refine nj_then ?_))
  refine oj_idx TT rfl rfl rfl rfl rfl rfl rfl rfl rfl HK (by omega) hkr (oj_run TT rfl ?_)
  (repeat refine oj_then ?_)
  refine cj_if rfl (fun h => ?_) (fun h => ?_)
  · have h : (v : Int) = m := of_decide_eq_true h
    rw [if_pos (by omega)] at hp
    (repeat (first | refine cj_seq ?_ | (refine cj_region ?_; refine oj_run TT rfl ?_) | refine oj_then ?_ | refine cj_ret ?_ | refine nj_then_ret ?_ | refine nj_block_ret ?_))
    refine nj_ret TT rfl fun β w' _ _ => ?_
    rw [← hp]
    rfl
  · have h : ¬ (v : Int) = m := of_decide_eq_false h
    rw [if_neg (by omega)] at hp
    (repeat (first | (refine cj_region ?_; refine oj_run TT rfl ?_) | refine oj_nil ?_ | refine cj_skip ?_ | refine nj_then ?_ | refine nj_block ?_ | (refine oj_add rfl rfl rfl rfl rfl rfl (by omega) ?_; refine oj_run TT rfl ?_)))
    refine nj_again (k + 1) ⟨hkl, hp⟩ (by omega) rfl (by (repeat (first | exact trivial | refine And.intro rfl ?_))) (by (repeat (first | exact trivial | refine And.intro rfl ?_))) rfl (by (repeat' (first | exact trivial | constructor))) (by (repeat' exact trivial))

/-! ### SameSteps -/

structure GStep where
  key : ByteArray
  at_ : Int
  named : Bool
deriving DecidableEq

def stepCells (s : GStep) : List AT := [.v (.string s.key), .v (.int .i64 s.at_), .b s.named]
def stepRows (l : List GStep) : List (List AT) := l.map stepCells
theorem stepRows_get {l : List GStep} {i : Nat} {s : GStep} (h : l[i]? = some s) : (stepRows l)[i]? = some (stepCells s) := by unfold stepRows; rw [List.getElem?_map, h]; rfl

def stepEq (x y : GStep) : Bool := !(x.named != y.named) && !(x.named && !decide (x.key = y.key)) && !(!x.named && !decide (x.at_ = y.at_))
def sameG : List GStep → List GStep → Bool
  | [], [] => true
  | x :: a, y :: b => stepEq x y && sameG a b
  | _, _ => false

theorem sameG_len : ∀ {a b : List GStep}, a.length ≠ b.length → sameG a b = false
  | [], [], h => absurd rfl h
  | _ :: a, _ :: b, h => by rw [sameG, sameG_len (a := a) (b := b) (by simpa using h), Bool.and_false]
  | [], _ :: _, _ => rfl
  | _ :: _, [], _ => rfl

set_option maxRecDepth 100000 in
set_option maxHeartbeats 1000000 in
theorem SameSteps_c (σ : Snap) (a b : List GStep) (ha : a.length ≤ 100000) (_ : b.length ≤ 100000) (ao bo : Option Addr) (ac bc : Nat) (HA : SlAt σ ao a.length ac 3 (stepRows a)) (HB : SlAt σ bo b.length bc 3 (stepRows b)) :
    PlainS Tryd.prog 28 [.a (.v (.slice ao a.length ac)), .a (.v (.slice bo b.length bc))] σ (fun x => x = .bool (sameG a b)) := by
  refine enter_p Tryd.func28 rfl rfl (by (repeat' (first | exact trivial | constructor))) fun w => ?_
  (repeat (first | refine cj_seq ?_ | (refine cj_region ?_; refine oj_run TT rfl ?_) | refine oj_then ?_))
  refine cj_if rfl (fun h => ?_) (fun h => ?_)
  · have h : ¬ (a.length : Int) = b.length := by simpa using h
    rw [sameG_len (by omega)]
    (repeat (first | refine cj_seq ?_ | (refine cj_region ?_; refine oj_run TT rfl ?_) | refine oj_then ?_ | refine cj_ret ?_ | refine nj_then_ret ?_))
    refine nj_ret TT rfl fun β w' _ _ => ?_
    rfl
  have hlen : a.length = b.length := by
    have h : (a.length : Int) = b.length := by simpa using h
    omega
  (repeat (first | refine cj_seq ?_ | (refine cj_region ?_; refine oj_run TT rfl ?_) | refine oj_then ?_ | refine cj_skip ?_ | refine cj_block ?_ | refine nj_then ?_))
  refine cj_loop (fun (_ : Nat) => σ) (fun k => [(0, .a (.v (.slice ao a.length ac))), (1, .a (.v (.slice bo b.length bc))), (5, .a (.v (.int .i64 k)))]) (fun _ => []) (fun _ => []) 0
    (fun k => k ≤ a.length ∧ sameG (a.drop k) (b.drop k) = sameG a b) (fun k => a.length - k) 0 ⟨Nat.zero_le _, rfl⟩ rfl (by (repeat (first | exact trivial | refine And.intro rfl ?_))) (by (repeat (first | exact trivial | refine And.intro rfl ?_))) rfl (by (repeat' (first | exact trivial | constructor))) (by (repeat' exact trivial)) fun k ⟨hk, hp⟩ => ?_
  (repeat (first | refine cj_seq ?_ | (refine cj_region ?_; refine oj_run TT rfl ?_) | refine oj_then ?_))
  refine cj_if rfl (fun h => ?_) (fun h => ?_)
  rotate_left
  · have hk0 : k = a.length := by have := of_decide_eq_false h; omega
    subst hk0
    rw [List.drop_length, hlen, List.drop_length] at hp
    (repeat (first | refine cj_seq ?_ | (refine cj_region ?_; refine oj_run TT rfl ?_) | refine oj_then ?_ | refine cj_exit ?_ | refine cj_ret ?_ | refine nj_then ?_ | refine nj_then_exit ?_ | refine nj_block_out ?_))
    refine nj_ret TT rfl fun β w' _ _ => ?_
    rw [← hp]
    rfl
  have hkl : k < a.length := by have := of_decide_eq_true h; omega
  have hkl' : k < b.length := by omega
  have hra := stepRows_get (List.getElem?_eq_getElem hkl)
  have hrb := stepRows_get (List.getElem?_eq_getElem hkl')
  rw [List.drop_eq_getElem_cons hkl, List.drop_eq_getElem_cons hkl', sameG] at hp
  generalize a[k] = x at *
  generalize b[k] = y at *
  (repeat (first | refine cj_seq ?_ | refine cj_skip ?_ | refine cj_block ?_ | refine nj_then ?_))
  refine cj_draw [(0,.pure),(1,.pure),(2,.pure),(3,.pure),(4,.quiet),(5,.pure),(6,.pure),(7,.pure),(8,.pure),(9,.quiet),(10,.pure),(11,.pure),(12,.pure),(13,.pure),(14,.pure),(15,.pure),(16,.quiet),(17,.pure),(18,.pure),(19,.pure),(20,.pure),(21,.pure),(22,.quiet),(23,.pure),(24,.pure),(25,.pure),(26,.pure),(27,.quiet),(28,.pure),(29,.pure),(30,.pure),(31,.pure),(32,.pure),(33,.pure),(34,.pure),(35,.pure),(36,.quiet),(37,.pure),(38,.pure),(39,.pure),(40,.pure),(41,.pure),(42,.pure),(43,.quiet),(44,.pure),(45,.pure),(46,.pure),(47,.pure),(48,.quiet),(49,.pure),(50,.pure),(51,.pure)] mixed (by kernel_rfl) (oj_run TT rfl ?_)
  refine oj_idx TT rfl rfl rfl rfl rfl rfl rfl rfl rfl HA (by omega) hra (oj_run TT rfl ?_)
  refine oj_idx TT rfl rfl rfl rfl rfl rfl rfl rfl rfl HB (by omega) hrb (oj_run TT rfl ?_)
  skip
  refine oj_split 28 rfl (fun h => ?_) (fun h1 => ?_)
  · have h : (x.named != y.named) = true := h
    refine oj_run TT rfl ?_
    (repeat (first | refine cj_seq ?_ | (refine cj_region ?_; refine oj_run TT rfl ?_) | refine oj_then ?_ | refine cj_if_t rfl ?_ | refine cj_ret ?_ | refine nj_then_ret ?_ | refine nj_block_ret ?_))
    refine nj_ret TT rfl fun β w' _ _ => ?_
    rw [← hp]
    unfold stepEq
    rw [h]
    rfl
  have h1 : (x.named != y.named) = false := h1
  refine oj_run TT rfl ?_
  refine oj_idx TT rfl rfl rfl rfl rfl rfl rfl rfl rfl HA (by omega) hra (oj_run TT rfl ?_)
  skip
  refine oj_split 34 rfl (fun h2 => ?_) (fun h2 => ?_)
  · have h2 : x.named = true := h2
    refine oj_run TT rfl ?_
    refine oj_idx TT rfl rfl rfl rfl rfl rfl rfl rfl rfl HA (by omega) hra (oj_run TT rfl ?_)
    refine oj_idx TT rfl rfl rfl rfl rfl rfl rfl rfl rfl HB (by omega) hrb (oj_run TT rfl ?_)
    skip
    refine oj_split 48 rfl (fun h3 => ?_) (fun h3 => ?_)
    · have h3 : (!decide (x.key = y.key)) = true := h3
      refine oj_run TT rfl ?_
      (repeat (first | refine cj_seq ?_ | (refine cj_region ?_; refine oj_run TT rfl ?_) | refine oj_then ?_ | refine cj_if_t rfl ?_ | refine cj_ret ?_ | refine nj_then_ret ?_ | refine nj_block_ret ?_))
      refine nj_ret TT rfl fun β w' _ _ => ?_
      rw [← hp]
      unfold stepEq
      rw [h1, h2, h3]
      rfl
    have h3 : (!decide (x.key = y.key)) = false := h3
    have he : stepEq x y = true := by unfold stepEq; rw [h1, h2, h3]; rfl
    rw [he, Bool.true_and] at hp
    refine oj_run TT rfl ?_
    refine oj_idx TT rfl rfl rfl rfl rfl rfl rfl rfl rfl HA (by omega) hra (oj_run TT rfl ?_)
    skip
    refine oj_split 55 rfl (fun h4 => absurd (show (!x.named) = true from h4) (by rw [h2]; decide)) (fun _ => ?_)
    refine oj_run TT rfl ?_
    (repeat (first | (refine cj_region ?_; refine oj_run TT rfl ?_) | refine oj_then ?_ | refine oj_nil ?_ | refine cj_if_f rfl ?_ | refine cj_skip ?_ | refine nj_then ?_ | refine nj_block ?_ | (refine oj_add rfl rfl rfl rfl rfl rfl (by omega) ?_; refine oj_run TT rfl ?_)))
    refine nj_again (k + 1) ⟨hkl, hp⟩ (by omega) rfl (by (repeat (first | exact trivial | refine And.intro rfl ?_))) (by (repeat (first | exact trivial | refine And.intro rfl ?_))) rfl (by (repeat' (first | exact trivial | constructor))) (by (repeat' exact trivial))
  · have h2 : x.named = false := h2
    refine oj_run TT rfl ?_
    skip
    refine oj_idx TT rfl rfl rfl rfl rfl rfl rfl rfl rfl HA (by omega) hra (oj_run TT rfl ?_)
    skip
    refine oj_split 55 rfl (fun _ => ?_) (fun h4 => absurd (show (!x.named) = false from h4) (by rw [h2]; decide))
    refine oj_run TT rfl ?_
    refine oj_idx TT rfl rfl rfl rfl rfl rfl rfl rfl rfl HA (by omega) hra (oj_run TT rfl ?_)
    refine oj_idx TT rfl rfl rfl rfl rfl rfl rfl rfl rfl HB (by omega) hrb (oj_run TT rfl ?_)
    (repeat refine oj_then ?_)
    refine cj_if rfl (fun h3 => ?_) (fun h3 => ?_)
    · have h3 : (!decide (x.at_ = y.at_)) = true := h3
      (repeat (first | refine cj_seq ?_ | (refine cj_region ?_; refine oj_run TT rfl ?_) | refine oj_then ?_ | refine cj_ret ?_ | refine nj_then_ret ?_ | refine nj_block_ret ?_))
      refine nj_ret TT rfl fun β w' _ _ => ?_
      rw [← hp]
      unfold stepEq
      rw [h1, h2, h3]
      rfl
    · have h3 : (!decide (x.at_ = y.at_)) = false := h3
      have he : stepEq x y = true := by unfold stepEq; rw [h1, h2, h3]; rfl
      rw [he, Bool.true_and] at hp
      (repeat (first | (refine cj_region ?_; refine oj_run TT rfl ?_) | refine oj_nil ?_ | refine cj_skip ?_ | refine nj_then ?_ | refine nj_block ?_ | (refine oj_add rfl rfl rfl rfl rfl rfl (by omega) ?_; refine oj_run TT rfl ?_)))
      refine nj_again (k + 1) ⟨hkl, hp⟩ (by omega) rfl (by (repeat (first | exact trivial | refine And.intro rfl ?_))) (by (repeat (first | exact trivial | refine And.intro rfl ?_))) rfl (by (repeat' (first | exact trivial | constructor))) (by (repeat' exact trivial))
end Go.Sy
namespace Go.Sy
open Go.Proofs

/-! ### slices.Reverse -/

def stXs (l : List GStep) : List Value := (stepRows l).flatten.map AT.val
def spE (ao : Option Addr) (n cap : Nat) (l : List GStep) : AE := ⟨ao, n, cap, 129, 3, stXs l⟩

/-- What is half turned. -/
def revAt (l m : List GStep) (k : Nat) : Prop := m.length = l.length ∧ ∀ q, q < l.length → m[q]? = if q < k ∨ l.length - k ≤ q then l[l.length - 1 - q]? else l[q]?

theorem revAt_zero (l : List GStep) : revAt l l 0 := ⟨rfl, fun q hq => by rw [if_neg (by omega)]⟩
theorem revAt_end {l m : List GStep} {k : Nat} (h : revAt l m k) (hk : l.length ≤ 2 * k + 1) : m = l.reverse := by
  apply List.ext_getElem?
  intro q
  by_cases hq : q < l.length
  · rw [h.2 q hq, List.getElem?_reverse hq]
    split
    · rfl
    · rw [show l.length - 1 - q = q by omega]
  · rw [List.getElem?_eq_none (by rw [h.1]; omega), List.getElem?_eq_none (by rw [List.length_reverse]; omega)]
theorem revAt_step {l m : List GStep} {k : Nat} (h : revAt l m k) (hk : 2 * k + 1 < l.length) {x y : GStep} (hx : m[k]? = some x) (hy : m[l.length - 1 - k]? = some y) :
    revAt l ((m.set k y).set (l.length - 1 - k) x) (k + 1) := by
  refine ⟨by simp [h.1], fun q hq => ?_⟩
  have h1 := h.2 k (by omega)
  have h2 := h.2 (l.length - 1 - k) (by omega)
  rw [if_neg (by omega)] at h1 h2
  rw [List.getElem?_set, List.getElem?_set, List.length_set, h.1]
  by_cases e1 : l.length - 1 - k = q
  · rw [if_pos e1, if_pos (show l.length - 1 - k < l.length by omega), if_pos (by omega), ← hx, h1, show l.length - 1 - q = k by omega]
  · rw [if_neg e1]
    by_cases e2 : k = q
    · rw [if_pos e2, if_pos (show k < l.length by omega), if_pos (by omega), ← hy, h2, e2]
    · rw [if_neg e2, h.2 q hq]
      by_cases e3 : q < k ∨ l.length - k ≤ q
      · rw [if_pos e3, if_pos (by omega)]
      · rw [if_neg e3, if_neg (by omega)]

theorem stXs_cons (x : GStep) (l : List GStep) : stXs (x :: l) = (stepCells x).map AT.val ++ stXs l := by simp [stXs, stepRows]
theorem stXs_len : ∀ l : List GStep, (stXs l).length = l.length * 3
  | [] => rfl
  | x :: l => by rw [stXs_cons, List.length_append, stXs_len l, List.length_cons]; simp [stepCells]; omega
theorem stXs_get : ∀ {l : List GStep} {i : Nat} {x : GStep}, l[i]? = some x → ∀ (j : Nat) c, (stepCells x)[j]? = some c → (stXs l)[i * 3 + j]? = some c.val
  | y :: l, 0, x, h, j, c, hc => by
    simp only [List.getElem?_cons_zero, Option.some.injEq] at h
    subst h
    have hj : j < 3 := by have := (List.getElem?_eq_some_iff.1 hc).1; simpa [stepCells] using this
    rw [stXs_cons, Nat.zero_mul, Nat.zero_add, List.getElem?_append_left (by simpa [stepCells] using hj), List.getElem?_map, hc]
    rfl
  | y :: l, i + 1, x, h, j, c, hc => by
    rw [stXs_cons, List.getElem?_append_right (by simp [stepCells]; omega)]
    have : (i + 1) * 3 + j - (List.map AT.val (stepCells y)).length = i * 3 + j := by simp [stepCells]; omega
    rw [this]
    exact stXs_get (by simpa using h) j c hc
theorem stXs_set : ∀ {l : List GStep} {i : Nat} (x : GStep), i < l.length → (stXs l).take (i * 3) ++ (stepCells x).map AT.val ++ (stXs l).drop (i * 3 + (stepCells x).length) = stXs (l.set i x)
  | y :: l, 0, x, h => by
    rw [List.set_cons_zero, stXs_cons, stXs_cons, Nat.zero_mul, Nat.zero_add, List.take_zero, List.nil_append]
    congr 1
  | y :: l, i + 1, x, h => by
    have ih := stXs_set (l := l) (i := i) x (by simpa using h)
    rw [List.set_cons_succ, stXs_cons, stXs_cons, ← ih]
    have e1 : (i + 1) * 3 = (List.map AT.val (stepCells y)).length + i * 3 := by simp [stepCells]; omega
    rw [e1, Nat.add_assoc, List.take_length_add_append, List.drop_length_add_append]
    simp only [List.append_assoc]

set_option maxRecDepth 100000 in
set_option maxHeartbeats 1000000 in
theorem Reverse_c (σ : Snap) (l : List GStep) (hL : l.length ≤ 100000) (ao : Option Addr) (cap : Nat) :
    FnS Tryd.prog 80 [.a (.v (.slice ao l.length cap))] σ [spE ao l.length cap l] (fun v _ A' => v = .tuple #[] ∧ A' = [spE ao l.length cap l.reverse]) := by
  refine enter_f Tryd.func80 rfl rfl (by (repeat' (first | exact trivial | constructor))) fun w => ?_
  (repeat (first | refine cj_seq ?_ | (refine cj_region ?_; refine oj_run TT rfl ?_) | refine oj_then ?_ | refine cj_block ?_ | (refine oj_minus rfl rfl rfl rfl rfl rfl (by omega) ?_; refine oj_run TT rfl ?_)))
  refine cj_loop2 (fun _ _ => σ) (fun (k : Nat) (_ : List GStep) => [(0, .a (.v (.slice ao l.length cap))), (2, .a (.v (.int .i64 (k : Int)))), (3, .a (.v (.int .i64 ((l.length : Int) - 1 - k))))]) (fun _ _ => []) (fun _ m => [spE ao l.length cap m]) 0
    (fun k m => revAt l m k ∧ 2 * k ≤ l.length + 1) (fun k _ => l.length + 1 - k) 0 l ⟨revAt_zero l, by omega⟩ rfl ?_ (by (repeat (first | exact trivial | refine And.intro rfl ?_))) rfl (by (repeat' (first | exact trivial | constructor))) (by (repeat' exact trivial)) fun k m ⟨hm, hk⟩ => ?_
  · refine ⟨rfl, rfl, ?_, trivial⟩
    have e : (l.length : Int) - 1 - ((0 : Nat) : Int) = (l.length : Int) - 1 := by omega
    rw [e]
    rfl
  (repeat (first | refine cj_seq ?_ | (refine cj_region ?_; refine oj_run TT rfl ?_) | refine oj_then ?_))
  refine cj_if rfl (fun h => ?_) (fun h => ?_)
  rotate_left
  · have h := of_decide_eq_false h
    rw [revAt_end hm (by omega)]
    (repeat (first | refine cj_exit ?_ | refine nj_then_exit ?_ | refine nj_block_out ?_))
    refine nj_fend TT rfl fun β w' _ _ => ?_
    exact ⟨rfl, rfl⟩
  have h := of_decide_eq_true h
  have hkl : 2 * k + 1 < l.length := by omega
  have hml := hm.1
  have hgk : m[k]? = some m[k] := List.getElem?_eq_getElem (by omega)
  have hgj : m[l.length - 1 - k]? = some (m[l.length - 1 - k]'(by omega)) := List.getElem?_eq_getElem (by omega)
  generalize m[k] = x at *
  generalize m[l.length - 1 - k]'(by omega) = y at *
  have hstep := revAt_step hm hkl hgk hgj
  have ej : (l.length : Int) - 1 - k = (l.length - 1 - k : Nat) := by omega
  rw [ej]
  refine cj_arrAt 0 (E := spE ao l.length cap m) rfl (show 0 < l.length by omega) fun gb hgb => ?_
  have hgb : ao = some ⟨gb, 0, none⟩ := hgb
  subst hgb
  (repeat (first | refine cj_seq ?_ | refine cj_skip ?_ | refine cj_block ?_ | refine nj_then ?_))
  refine cj_draw [(0,.pure),(1,.pure),(2,.pure),(3,.pure),(4,.pure),(5,.pure),(6,.pure),(7,.quiet),(8,.pure),(9,.pure),(10,.pure),(11,.quiet),(12,.pure),(13,.sink),(14,.pure),(15,.sink)] mixed (by kernel_rfl) (oj_run TT rfl ?_)
  generalize hj : l.length - 1 - k = j at *
  have had : ∀ q : Nat, some (SV.a (AT.v (.pointer (some (Addr.add ⟨gb, 0, none⟩ ((q : Int).toNat * 3)))))) = some (SV.a (AT.v (.pointer (some ⟨gb, q * 3, none⟩)))) := fun q => by
    rw [Int.toNat_natCast, add0]
  have hlt : ∀ z : GStep, ∀ c ∈ stepCells z, c.lt 0 := fun z c hc => by simp [stepCells] at hc; rcases hc with rfl | rfl | rfl <;> trivial
  refine oj_indexAddr TT rfl rfl rfl rfl rfl rfl rfl rfl rfl ⟨by omega, by omega⟩ (oj_run TT rfl ?_)
  refine oj_ldAs 0 (off := j * 3) TT (stepCells y) rfl rfl rfl rfl rfl (had j) rfl rfl rfl rfl rfl (fun q c hc => stXs_get hgj q c hc) (hlt y) (oj_run TT rfl ?_)
  refine oj_indexAddr TT rfl rfl rfl rfl rfl rfl rfl rfl rfl ⟨by omega, by omega⟩ (oj_run TT rfl ?_)
  refine oj_ldAs 0 (off := k * 3) TT (stepCells x) rfl rfl rfl rfl rfl (had k) rfl rfl rfl rfl rfl (fun q c hc => stXs_get hgk q c hc) (hlt x) (oj_run TT rfl ?_)
  refine oj_indexAddr TT rfl rfl rfl rfl rfl rfl rfl rfl rfl ⟨by omega, by omega⟩ (oj_run TT rfl ?_)
  refine oj_stAs 0 (off := k * 3) (cs := stepCells y) (A' := [spE (some ⟨gb, 0, none⟩) l.length cap (m.set k y)]) TT rfl rfl rfl rfl (had k) rfl rfl rfl rfl rfl (by show k * 3 + 3 ≤ l.length * 3; omega) (hlt y) rfl ?_ (oj_run TT rfl ?_)
  · show [_] = [_]
    unfold spE
    rw [← stXs_set y (by omega)]
  refine oj_indexAddr TT rfl rfl rfl rfl rfl rfl rfl rfl rfl ⟨by omega, by omega⟩ (oj_run TT rfl ?_)
  refine oj_stAs 0 (off := j * 3) (cs := stepCells x) (A' := [spE (some ⟨gb, 0, none⟩) l.length cap ((m.set k y).set j x)]) TT rfl rfl rfl rfl (had j) rfl rfl rfl rfl rfl (by show j * 3 + 3 ≤ l.length * 3; omega) (hlt x) rfl ?_ (oj_run TT rfl ?_)
  · show [_] = [_]
    unfold spE
    rw [← stXs_set x (by rw [List.length_set]; omega)]
  (repeat (first | (refine cj_region ?_; refine oj_run TT rfl ?_) | refine oj_nil ?_ | refine nj_then ?_ | refine nj_block ?_ | (refine oj_add rfl rfl rfl rfl rfl rfl (by omega) ?_; refine oj_run TT rfl ?_) | (refine oj_minus rfl rfl rfl rfl rfl rfl (by omega) ?_; refine oj_run TT rfl ?_)))
  refine nj_again (k + 1, (m.set k y).set j x) ⟨hstep, by dsimp only; omega⟩ (by dsimp only; omega) rfl ?_ (by (repeat (first | exact trivial | refine And.intro rfl ?_))) rfl (by (repeat' (first | exact trivial | constructor))) (by (repeat' exact trivial))
  refine ⟨rfl, rfl, ?_, trivial⟩
  have e : (l.length : Int) - 1 - ((k + 1 : Nat) : Int) = (j : Int) - 1 := by omega
  dsimp only
  rw [e]
  rfl
end Go.Sy
namespace Go.Sy
open Go.Proofs

/-! ### Place -/

theorem parentK_lt (L : List GRec) (st : Int) : ∀ k : Nat, -1 ≤ parentK L st k ∧ parentK L st k < k
  | 0 => by simp [parentK]
  | k + 1 => by
    have := parentK_lt L st k
    simp only [parentK]
    split <;> omega
theorem parentG_lt (L : List GRec) (i : Nat) : -1 ≤ parentG L i ∧ parentG L i < i := parentK_lt L _ i

/-- The step at record i, under p. -/
def stepG (L : List GRec) (i p : Nat) : GStep :=
  match L[i]? with
  | some r => ⟨r.name, if r.nm then 0 else idxF i (kidsG L p) 0, r.nm⟩
  | none => ⟨emptyS, 0, false⟩
/-- The steps from record i up. -/
def upF (L : List GRec) : Nat → Nat → List GStep
  | 0, _ => []
  | n + 1, i => if parentG L i < 0 then [] else stepG L i (parentG L i).toNat :: upF L n (parentG L i).toNat
theorem upF_len (L : List GRec) : ∀ n k, (upF L n k).length ≤ n
  | 0, _ => Nat.le_refl _
  | n + 1, k => by
    have := upF_len L n (parentG L k).toNat
    unfold upF
    split
    · simp
    · rw [List.length_cons]; omega
def placeG (L : List GRec) (i : Nat) : List GStep := (upF L (i + 1) i).reverse

structure PlS where
  i : Nat
  o : List GStep
  oo : Option Addr
  oc : Nat

theorem sp_sealed {σ : Snap} {oo : Option Addr} {oc : Nat} {o : List GStep} (h : ArrSealed σ (spE oo o.length oc o)) (hc : o.length ≤ oc) : SlAt σ oo o.length oc 3 (stepRows o) :=
  h.sl (E := spE oo o.length oc o) rfl (fun r hr => by
    obtain ⟨k, _, rfl⟩ := List.mem_map.1 hr
    exact ⟨rfl, fun c hc => by simp [stepCells] at hc; rcases hc with rfl | rfl | rfl <;> trivial⟩) (by simp [stepRows]) rfl hc

set_option maxRecDepth 100000 in
set_option maxHeartbeats 1000000 in
theorem Place_c (σ : Snap) (L : List GRec) (R : RecsOk L) (ao : Option Addr) (cap : Nat) (H : SlAt σ ao L.length cap 11 (recRows L)) (i : Nat) (hi : i < L.length) (hs : soundG L = true) (hL : L.length ≤ 100000) :
    PureS Tryd.prog 27 [.a (.v (.slice ao L.length cap)), .a (.v (.int .i64 i))] σ (fun v σ' => ∃ oo oc, v = .slice oo (placeG L i).length oc ∧ SlAt σ' oo (placeG L i).length oc 3 (stepRows (placeG L i))) := by
  have hat : atG L i = true := by
    unfold atG
    rw [hs]
    simp
    omega
  refine enter_s Tryd.func27 rfl rfl (by (repeat' (first | exact trivial | constructor))) fun w => ?_
  (repeat (first | refine cj_seq ?_ | (refine cj_region ?_; refine oj_run TT rfl ?_) | refine oj_then ?_))
  refine oj_callP rfl rfl rfl rfl rfl Tryd.call76 (by (repeat' (first | exact trivial | constructor))) (at_c σ L R ao cap H i) fun v hv => ⟨.a .tt, trivial, by rw [hv, hat]; rfl, ?_⟩
  refine oj_run TT rfl ?_
  (repeat (first | refine cj_seq ?_ | (refine cj_region ?_; refine oj_run TT rfl ?_) | refine oj_then ?_ | refine cj_if_f rfl ?_ | refine cj_skip ?_ | refine nj_then ?_))
  refine oj_nilarr 129 3 ?_
  refine oj_callP rfl rfl rfl rfl rfl Tryd.call78 (by (repeat' (first | exact trivial | constructor))) (parent_c σ L R.len ao cap H i hi) fun v hv => ⟨.a (.v (.int .i64 (parentG L i))), trivial, hv.symm, ?_⟩
  refine oj_run TT rfl ?_
  (repeat (first | refine oj_then ?_ | refine cj_block ?_))
  refine cj_cutB (fun (p : Snap × Option Addr × Nat) => p.1) (fun p => [(5, .a (.v (.slice p.2.1 (upF L (i + 1) i).length p.2.2)))]) (fun _ => []) (fun p => [spE p.2.1 (upF L (i + 1) i).length p.2.2 (upF L (i + 1) i)]) 0 (fun p => (upF L (i + 1) i).length ≤ p.2.2) ?_ (fun p hp => ?_)
  · refine cj_loop2 (fun (s : Snap) (_ : Nat × PlS) => s) (fun _ t => [(0, .a (.v (.slice ao L.length cap))), (1, .a (.v (.int .i64 (t.2.i : Int)))), (5, .a (.v (.slice t.2.oo t.2.o.length t.2.oc))), (6, .a (.v (.int .i64 (parentG L t.2.i))))]) (fun _ _ => [])
      (fun _ t => [spE t.2.oo t.2.o.length t.2.oc t.2.o]) 0 (fun s t => σ.le s ∧ t.2.i ≤ i ∧ t.2.i < t.1 ∧ t.2.o ++ upF L t.1 t.2.i = upF L (i + 1) i ∧ t.2.o.length ≤ t.2.oc ∧ t.2.o.length + t.2.i ≤ i) (fun _ t => t.2.i) σ (i + 1, ⟨i, [], none, 0⟩)
      ⟨Snap.le_refl _, Nat.le_refl _, Nat.lt_succ_self _, rfl, Nat.le_refl _, by simp⟩ rfl (by (repeat (first | exact trivial | refine And.intro rfl ?_))) (by (repeat (first | exact trivial | refine And.intro rfl ?_))) rfl (by (repeat' (first | exact trivial | constructor))) (by (repeat' exact trivial)) fun s ⟨n, k, o, oo, oc⟩ ⟨hs, hk, hn, hp, hoc, hok⟩ => ?_
    dsimp only at hk hn hp hoc hok ⊢
    obtain ⟨n, rfl⟩ : ∃ m, n = m + 1 := ⟨n - 1, by omega⟩
    have hpl := parentG_lt L k
    have hkl : k < L.length := by omega
    have hrow := recRows_get (List.getElem?_eq_getElem hkl)
    have H := H.mono hs
    rw [upF] at hp
    (repeat (first | refine cj_seq ?_ | (refine cj_region ?_; refine oj_run TT rfl ?_) | refine oj_then ?_))
    refine cj_if rfl (fun h => ?_) (fun h => ?_)
    rotate_left
    · have h := of_decide_eq_false h
      rw [if_pos (by omega), List.append_nil] at hp
      subst hp
      (repeat (first | refine cj_exit ?_ | refine nj_then_exit ?_ | refine nj_block_out ?_))
      refine nj_again (s, oo, oc) hoc Nat.zero_lt_one rfl (by (repeat (first | exact trivial | refine And.intro rfl ?_))) (by (repeat (first | exact trivial | refine And.intro rfl ?_))) rfl (by (repeat' (first | exact trivial | constructor))) (by (repeat' exact trivial))
    have h := of_decide_eq_true h
    rw [if_neg (by omega)] at hp
    obtain ⟨q, hq⟩ : ∃ q : Nat, parentG L k = q := ⟨(parentG L k).toNat, by omega⟩
    rw [hq] at hp ⊢
    rw [Int.toNat_natCast] at hp
    have hql : q < L.length := by omega
    have hst : stepG L k q = ⟨L[k].name, if L[k].nm then 0 else idxF k (kidsG L q) 0, L[k].nm⟩ := by unfold stepG; rw [List.getElem?_eq_getElem hkl]
    generalize L[k] = x at *
    have hklen : (kidsG L q).length ≤ L.length := by
      unfold kidsG
      exact Nat.le_trans (kidsF_len L _ L.length (q + 1)) (Nat.sub_le _ _)
    (repeat (first | refine cj_seq ?_ | refine cj_skip ?_ | refine cj_block ?_ | refine nj_then ?_))
    refine cj_draw [(0,.pure),(1,.pure),(2,.pure),(3,.pure),(4,.quiet),(5,.pure),(6,.pure),(7,.pure),(8,.pure),(9,.quiet),(10,.pure),(11,.keep),(12,.sink)] mixed (by kernel_rfl) (oj_run TT rfl ?_)
    refine oj_idx TT rfl rfl rfl rfl rfl rfl rfl rfl rfl H (by omega) hrow (oj_run TT rfl ?_)
    refine oj_idx TT rfl rfl rfl rfl rfl rfl rfl rfl rfl H (by omega) hrow (oj_run TT rfl ?_)
    (repeat (first | refine cj_seq ?_ | (refine cj_region ?_; refine oj_run TT rfl ?_) | refine oj_then ?_))
    refine cj_cutN (fun (s' : Snap) => s') (fun _ => [(0, .a (.v (.slice ao L.length cap))), (1, .a (.v (.int .i64 (k : Int)))), (5, .a (.v (.slice oo o.length oc))), (6, .a (.v (.int .i64 (q : Int)))), (7, .a (.p 2 0))])
      (fun _ => [(2, .loc 129, stepCells (stepG L k q))]) (fun _ => [spE oo o.length oc o]) 3 (fun s' => s.le s') ?_ (fun s' hs' => ?_)
    · refine cj_if rfl (fun h => ?_) (fun h => ?_)
      · have h : x.nm = false := by simpa using h
        (repeat (refine cj_region ?_; refine oj_run TT rfl ?_))
        refine oj_callS rfl rfl rfl rfl rfl Tryd.call77 ⟨trivial, trivial, trivial⟩ (kids_c s L hL ao cap H q hql) fun v σ1 hle ⟨oo', oc', hv, HK⟩ => ⟨.a (.v (.slice oo' (kidsG L q).length oc')), trivial, hv.symm, ?_⟩
        refine oj_run TT rfl ?_
        skip
        refine oj_callP rfl rfl rfl rfl rfl Tryd.call79 (by (repeat' (first | exact trivial | constructor))) (Index_c σ1 (kidsG L q) (by omega) oo' oc' HK k) fun v hv => ⟨.a (.v (.int .i64 (idxF k (kidsG L q) 0))), trivial, hv.symm, ?_⟩
        refine oj_run TT rfl ?_
        (repeat refine oj_nil ?_)
        refine nj_again σ1 hle Nat.zero_lt_one rfl (by (repeat (first | exact trivial | refine And.intro rfl ?_))) (by rw [hst, h]; (repeat (first | exact trivial | refine And.intro rfl ?_))) rfl (by (repeat' (first | exact trivial | exact Nat.le_of_ble_eq_true rfl | constructor))) (by (repeat' (first | exact trivial | exact Nat.le_of_ble_eq_true rfl | refine AllLt.of ?_ | constructor)))
      · have h : x.nm = true := by simpa using h
        (repeat refine cj_skip ?_)
        refine nj_again s (Snap.le_refl s) Nat.zero_lt_one rfl (by (repeat (first | exact trivial | refine And.intro rfl ?_))) (by rw [hst, h]; (repeat (first | exact trivial | refine And.intro rfl ?_))) rfl (by (repeat' (first | exact trivial | exact Nat.le_of_ble_eq_true rfl | constructor))) (by (repeat' (first | exact trivial | exact Nat.le_of_ble_eq_true rfl | refine AllLt.of ?_ | constructor)))
    have H := H.mono hs'
    generalize stepG L k q = z at *
    clear hst
    (repeat (refine cj_region ?_; refine oj_run TT rfl ?_))
    refine oj_append_lit TT 0 rfl rfl rfl rfl rfl rfl rfl rfl rfl rfl rfl rfl rfl rfl rfl rfl rfl rfl (by (repeat' (first | exact trivial | refine AllLt.of ?_ | constructor))) rfl (by omega) (by show (o.length + 1) * 32 ≤ _; omega) fun ao' cap' hcap' => oj_run TT rfl ?_
    (repeat (first | (refine cj_region ?_; refine oj_run TT rfl ?_) | refine oj_nil ?_ | refine nj_then ?_ | refine nj_block ?_))
    refine oj_callP rfl rfl rfl rfl rfl Tryd.call78 (by (repeat' (first | exact trivial | constructor))) (parent_c s' L R.len ao cap H q hql) fun v hv => ⟨.a (.v (.int .i64 (parentG L q))), trivial, hv.symm, ?_⟩
    refine oj_run TT rfl ?_
    (repeat refine oj_nil ?_)
    refine nj_again (s', n, ⟨q, o ++ [z], ao', cap'⟩) ⟨Snap.le_trans hs hs', by dsimp only; omega, by dsimp only; omega, by dsimp only; rw [List.append_assoc]; exact hp, by dsimp only; rw [List.length_append]; exact hcap', by dsimp only; rw [List.length_append, List.length_singleton]; omega⟩ (by dsimp only; omega) rfl ?_ (by (repeat (first | exact trivial | refine And.intro rfl ?_))) ?_ (by (repeat' (first | exact trivial | constructor))) (by (repeat' exact trivial))
    · refine ⟨rfl, rfl, ?_, rfl, trivial⟩
      dsimp only
      rw [List.length_append]
      rfl
    · dsimp only
      rw [List.length_append]
      show [_] = [_]
      unfold spE stXs stepRows
      rw [List.map_append, List.flatten_append, List.map_append]
      rfl
  (repeat (first | refine cj_seq ?_ | (refine cj_region ?_; refine oj_run TT rfl ?_)))
  refine oj_callF [0] (A0 := [spE p.2.1 (upF L (i + 1) i).length p.2.2 (upF L (i + 1) i)]) (Ar := []) rfl rfl rfl rfl rfl rfl rfl Tryd.call80 (by (repeat' (first | exact trivial | constructor))) (Reverse_c p.1 (upF L (i + 1) i) (Nat.le_trans (upF_len L (i + 1) i) (by omega)) p.2.1 p.2.2) fun v σ2 A2 hle2 ⟨hv, hA⟩ => ⟨.tup [], (by (repeat' (first | exact trivial | refine SV.lt_tup ?_))), hv.symm, ?_⟩
  subst hA
  refine oj_run TT rfl ?_
  (repeat (first | refine cj_seq ?_ | (refine cj_region ?_; refine oj_run TT rfl ?_) | refine oj_then ?_ | refine cj_ret ?_))
  refine nj_seal 0 rfl rfl fun σ' hle' hS => ?_
  refine nj_ret TT rfl fun β w' _ _ => ?_
  have hl : (placeG L i).length = (upF L (i + 1) i).length := List.length_reverse
  rw [hl]
  refine ⟨p.2.1, p.2.2, rfl, ?_⟩
  have hS : ArrSealed σ' (spE p.2.1 (placeG L i).length p.2.2 (placeG L i)) := by rw [hl]; exact hS
  rw [← hl]
  exact sp_sealed hS (by rw [hl]; exact hp)
end Go.Sy
/- Plain laws on the places of a value's records. No program in sight. -/
namespace Go.Sy

/-! ### Keys -/

mutual
/-- No two members of one key, at any depth. -/
def keysOk : GVal → Prop
  | .mk _ _ _ _ l ks vs => twiceG ks = false ∧ keysOks l ∧ keysOks vs
def keysOks : List GVal → Prop
  | [] => True
  | g :: gs => keysOk g ∧ keysOks gs
end

mutual
theorem sane_keys : ∀ (g : GVal) (deep c : Int), (saneG g deep c).1 = 0 → keysOk g
  | .mk k b n s l ks vs, deep, c, h => by
    simp only [saneG] at h
    split at h
    · simp at h
    split at h
    · simp at h
    rename_i ht
    split at h
    · simp at h
    split at h
    · simp at h
    simp only [keysOk]
    have hl : (saneL l deep (c + 1)).1 = 0 := by
      by_cases h0 : (saneL l deep (c + 1)).1 = 0
      · exact h0
      · rw [if_pos h0] at h; exact h
    rw [if_neg (by simp [hl])] at h
    exact ⟨by simpa using ht, sane_keyss l _ _ hl, sane_keyss vs _ _ h⟩
theorem sane_keyss : ∀ (gs : List GVal) (deep c : Int), (saneL gs deep c).1 = 0 → keysOks gs
  | [], _, _, _ => trivial
  | g :: gs, deep, c, h => by
    simp only [saneL] at h
    have hg : (saneG g (deep + 1) c).1 = 0 := by
      by_cases h0 : (saneG g (deep + 1) c).1 = 0
      · exact h0
      · rw [if_pos h0] at h; exact h
    rw [if_neg (by simp [hg])] at h
    exact ⟨sane_keys g _ _ hg, sane_keyss gs _ _ h⟩
end
theorem keysOks_mem : ∀ {gs : List GVal} {g : GVal}, keysOks gs → g ∈ gs → keysOk g
  | _ :: _, _, h, hm => by
    cases hm with
    | head => exact h.1
    | tail _ hm => exact keysOks_mem h.2 hm
theorem wfs_mem : ∀ {gs : List GVal} {g : GVal}, GVal.wfs gs → g ∈ gs → g.wf
  | _ :: _, _, h, hm => by
    simp only [GVal.wfs] at h
    cases hm with
    | head => exact h.1
    | tail _ hm => exact wfs_mem h.2 hm

theorem twice_nodup : ∀ (ks met : List ByteArray), twiceFrom met ks = false → (∀ k ∈ ks, k ∉ met) ∧ ks.Nodup
  | [], _, _ => ⟨fun _ h => (by cases h), List.nodup_nil⟩
  | k :: ks, met, h => by
    rw [twiceFrom] at h
    split at h
    · cases h
    rename_i hk
    obtain ⟨h1, h2⟩ := twice_nodup ks _ h
    refine ⟨fun x hx => ?_, ?_⟩
    · cases hx with
      | head => exact fun hm => hk (hasKey_iff.2 hm)
      | tail _ hx => exact fun hm => h1 x hx (List.mem_append_left _ hm)
    · refine List.nodup_cons.2 ⟨fun hm => h1 k hm (List.mem_append_right _ List.mem_cons_self), h2⟩

/-! ### What stands in a value -/

structure Itm where
  nm : Bool
  name : ByteArray
  v : GVal

def itsL (l : List GVal) : List Itm := l.map fun g => ⟨false, emptyS, g⟩
def itsM : List GVal → List ByteArray → List Itm
  | g :: gs, k :: ks => ⟨true, k, g⟩ :: itsM gs ks
  | _, _ => []
def its (g : GVal) : List Itm := itsL g.l ++ itsM g.vs g.ks
def valsI (xs : List Itm) : List GVal := xs.map Itm.v
theorem valsI_L (l : List GVal) : valsI (itsL l) = l := by simp [valsI, itsL, Function.comp_def]
theorem itsM_len : ∀ (vs : List GVal) (ks : List ByteArray), ks.length = vs.length → (itsM vs ks).length = vs.length ∧ valsI (itsM vs ks) = vs
  | [], [], _ => ⟨rfl, rfl⟩
  | g :: gs, k :: ks, h => by
    obtain ⟨h1, h2⟩ := itsM_len gs ks (by simpa using h)
    exact ⟨by simp [itsM, h1], by simp only [valsI, itsM, List.map_cons] at h2 ⊢; rw [h2]⟩
  | [], _ :: _, h => by simp at h
  | _ :: _, [], h => by simp at h
theorem itsM_get : ∀ (vs : List GVal) (ks : List ByteArray) (m : Nat) (x : Itm), (itsM vs ks)[m]? = some x → x.nm = true ∧ ks[m]? = some x.name ∧ vs[m]? = some x.v
  | [], ks, m, x, h => by cases ks <;> simp [itsM] at h
  | g :: gs, [], m, x, h => by simp [itsM] at h
  | g :: gs, k :: ks, 0, x, h => by simp only [itsM, List.getElem?_cons_zero, Option.some.injEq] at h; subst h; exact ⟨rfl, rfl, rfl⟩
  | g :: gs, k :: ks, m + 1, x, h => by
    simp only [itsM, List.getElem?_cons_succ] at h ⊢
    exact itsM_get gs ks m x h
theorem wf_eq (g : GVal) : g.wf ↔ g.ks.length = g.vs.length ∧ GVal.wfs g.l ∧ GVal.wfs g.vs := by cases g; simp only [GVal.wf, GVal.ks, GVal.vs, GVal.l]
theorem keysOk_eq (g : GVal) : keysOk g ↔ twiceG g.ks = false ∧ keysOks g.l ∧ keysOks g.vs := by cases g; simp only [keysOk, GVal.ks, GVal.vs, GVal.l]
theorem vals_its {g : GVal} (h : g.wf) : valsI (its g) = g.l ++ g.vs := by
  have h1 := (itsM_len g.vs g.ks ((wf_eq g).1 h).1).2
  have h0 := valsI_L g.l
  unfold valsI at h0 h1 ⊢
  rw [its, List.map_append, h0, h1]
theorem its_mem {g : GVal} {x : Itm} (h : g.wf) (hx : x ∈ its g) : x.v ∈ g.l ++ g.vs := by
  rw [← vals_its h]
  exact List.mem_map.2 ⟨x, hx, rfl⟩
theorem its_wf {g : GVal} {x : Itm} (h : g.wf) (hx : x ∈ its g) : x.v.wf := by
  have h' := (wf_eq g).1 h
  rcases List.mem_append.1 (its_mem h hx) with hm | hm
  · exact wfs_mem h'.2.1 hm
  · exact wfs_mem h'.2.2 hm
theorem its_keys {g : GVal} {x : Itm} (h : g.wf) (hk : keysOk g) (hx : x ∈ its g) : keysOk x.v := by
  have h' := (keysOk_eq g).1 hk
  rcases List.mem_append.1 (its_mem h hx) with hm | hm
  · exact keysOks_mem h'.2.1 hm
  · exact keysOks_mem h'.2.2 hm
theorem its_name {g : GVal} {x : Itm} (hx : x ∈ its g) : x.nm = false → x.name = emptyS := by
  intro hn
  rcases List.mem_append.1 hx with hm | hm
  · obtain ⟨y, _, rfl⟩ := List.mem_map.1 hm; rfl
  · obtain ⟨m, hm'⟩ := List.mem_iff_getElem?.1 hm
    rw [(itsM_get _ _ _ _ hm').1] at hn
    cases hn

/-- The step to what stands at m. -/
def stepOf (m : Nat) (x : Itm) : GStep := ⟨x.name, if x.nm then 0 else m, x.nm⟩

theorem stepOf_inj {g : GVal} (hk : keysOk g) {m n : Nat} {x y : Itm} (hx : (its g)[m]? = some x) (hy : (its g)[n]? = some y) (h : stepOf m x = stepOf n y) : m = n := by
  unfold stepOf at h
  injection h with h1 h2 h3
  cases hnx : x.nm with
  | false =>
    rw [hnx] at h2 h3
    rw [← h3] at h2
    simp at h2
    omega
  | true =>
    rw [hnx] at h3
    have hnd := (twice_nodup _ _ ((keysOk_eq g).1 hk).1).2
    have key : ∀ {m : Nat} {x : Itm}, (its g)[m]? = some x → x.nm = true → g.l.length ≤ m ∧ g.ks[m - g.l.length]? = some x.name := by
      intro m x hx hn
      unfold its at hx
      by_cases hm : m < g.l.length
      · rw [List.getElem?_append_left (by simpa [itsL] using hm)] at hx
        simp only [itsL, List.getElem?_map, Option.map_eq_some_iff] at hx
        obtain ⟨_, _, rfl⟩ := hx
        cases hn
      · rw [List.getElem?_append_right (by simp [itsL]; omega)] at hx
        have hl : (itsL g.l).length = g.l.length := by simp [itsL]
        rw [hl] at hx
        exact ⟨by omega, (itsM_get _ _ _ _ hx).2.1⟩
    obtain ⟨a1, a2⟩ := key hx hnx
    obtain ⟨b1, b2⟩ := key hy h3.symm
    have hlt := (List.getElem?_eq_some_iff.1 a2).1
    have := (List.getElem?_inj (j := n - g.l.length) hlt hnd).1 (by rw [a2, b2, h1])
    omega

/-! ### The shred of what stands in a value -/

def shredI (gap : Int) : List Itm → Int → Int → List GRec × Int
  | [], _, now => ([], now)
  | x :: xs, lv, now =>
    let p := shredV gap x.v lv x.nm x.name now
    let q := shredI gap xs lv p.2
    (p.1 ++ q.1, q.2)
theorem shredI_L (gap : Int) : ∀ (l : List GVal) (lv now : Int), shredI gap (itsL l) lv now = shredL gap l lv now
  | [], _, _ => rfl
  | g :: gs, lv, now => by
    show shredI gap (⟨false, emptyS, g⟩ :: itsL gs) lv now = _
    simp only [shredI, shredL, shredI_L gap gs]
    rfl
theorem shredI_M (gap : Int) : ∀ (vs : List GVal) (ks : List ByteArray) (lv now : Int), shredI gap (itsM vs ks) lv now = shredM gap vs ks lv now
  | [], [], _, _ => rfl
  | [], _ :: _, _, _ => rfl
  | _ :: _, [], _, _ => rfl
  | g :: gs, k :: ks, lv, now => by simp only [itsM, shredI, shredM, shredI_M gap gs ks]
theorem shredI_append (gap : Int) : ∀ (a b : List Itm) (lv now : Int), shredI gap (a ++ b) lv now = ((shredI gap a lv now).1 ++ (shredI gap b lv (shredI gap a lv now).2).1, (shredI gap b lv (shredI gap a lv now).2).2)
  | [], b, lv, now => by simp [shredI]
  | x :: a, b, lv, now => by simp only [List.cons_append, shredI, shredI_append gap a b, List.append_assoc]
theorem shredV_its (gap : Int) (g : GVal) (lv : Int) (nm : Bool) (name : ByteArray) (now : Int) (h : g.wf) :
    (shredV gap g lv nm name now).1 = ⟨now + gap, now + wV gap g, lv, g.kind, nm, name, g.b, g.n, g.s⟩ :: (shredI gap (its g) (lv + 1) (now + gap)).1 := by
  have h2 := (shredV_sk gap g lv nm name now h).2
  rw [shredV_eq] at h2 ⊢
  dsimp only at h2 ⊢
  rw [h2, its, shredI_append, shredI_L, shredI_M]
theorem shredI_sk (gap : Int) : ∀ (xs : List Itm) (lv now : Int), GVal.wfs (valsI xs) → (shredI gap xs lv now).1.map se = skL gap (valsI xs) now ∧ (shredI gap xs lv now).2 = now + wL gap (valsI xs)
  | [], lv, now, _ => by simp [shredI, skL, wL, valsI]
  | x :: xs, lv, now, h => by
    simp only [valsI, List.map_cons, GVal.wfs] at h ⊢
    obtain ⟨h1, h2⟩ := shredV_sk gap x.v lv x.nm x.name now h.1
    obtain ⟨h3, h4⟩ := shredI_sk gap xs lv (shredV gap x.v lv x.nm x.name now).2 h.2
    rw [h2] at h3 h4
    simp only [valsI] at h3 h4
    simp only [shredI, skL, wL, List.map_append, h1, h2, h3, h4]
    exact ⟨trivial, by omega⟩

theorem wfs_append : ∀ {a b : List GVal}, GVal.wfs (a ++ b) ↔ GVal.wfs a ∧ GVal.wfs b
  | [], b => by simp [GVal.wfs]
  | g :: a, b => by simp only [List.cons_append, GVal.wfs, wfs_append (a := a), and_assoc]
theorem wfs_its {g : GVal} (h : g.wf) : GVal.wfs (valsI (its g)) := by
  rw [vals_its h, wfs_append]
  exact ((wf_eq g).1 h).2

/-! ### Where a value lies in its value's records -/

def cntI (xs : List Itm) : Nat := cntL (valsI xs)
def wI (gap : Int) (xs : List Itm) : Int := wL gap (valsI xs)

inductive Sub (gap : Int) : GVal → Nat → Int → List GStep → GVal → Nat → Int → Prop
  | refl (g : GVal) (p : Nat) (now : Int) : Sub gap g p now [] g p now
  | step {g : GVal} {p : Nat} {now : Int} {m : Nat} {x : Itm} {P : List GStep} {h : GVal} {q : Nat} {now' : Int} (hx : (its g)[m]? = some x)
      (hs : Sub gap x.v (p + 1 + cntI ((its g).take m)) (now + gap + wI gap ((its g).take m)) P h q now') : Sub gap g p now (stepOf m x :: P) h q now'

theorem cntI_its {g : GVal} (h : g.wf) : cntV g = 1 + cntI (its g) := by rw [cntI, vals_its h, cntL_append, cntV_eq]
theorem wI_its {gap : Int} {g : GVal} (h : g.wf) : wV gap g = gap + wI gap (its g) + gap := by rw [wI, vals_its h, wV_eq]
theorem split_at {xs : List Itm} {m : Nat} {x : Itm} (h : xs[m]? = some x) : xs = xs.take m ++ x :: xs.drop (m + 1) := by
  have hl := (List.getElem?_eq_some_iff.1 h).1
  have := (List.getElem?_eq_some_iff.1 h).2
  rw [← this, ← List.drop_eq_getElem_cons hl, List.take_append_drop]
theorem valsI_append (a b : List Itm) : valsI (a ++ b) = valsI a ++ valsI b := by simp [valsI]
theorem wI_split {gap : Int} {xs : List Itm} {m : Nat} {x : Itm} (h : xs[m]? = some x) : wI gap xs = wI gap (xs.take m) + (wV gap x.v + wI gap (xs.drop (m + 1))) := by
  conv => lhs; rw [split_at h]
  unfold wI
  rw [valsI_append, wL_append]
  rfl
theorem cntI_split {xs : List Itm} {m : Nat} {x : Itm} (h : xs[m]? = some x) : cntI xs = cntI (xs.take m) + (cntV x.v + cntI (xs.drop (m + 1))) := by
  conv => lhs; rw [split_at h]
  unfold cntI
  rw [valsI_append, cntL_append]
  rfl

/-- Everything stands somewhere. -/
theorem sub_all {gap : Int} (g : GVal) : g.wf → ∀ (p : Nat) (now : Int) (i : Nat), p ≤ i → i < p + cntV g → ∃ P h now', Sub gap g p now P h i now' := by
  induction g using GVal.byWeight with | _ g ih => ?_
  intro hw p now i h1 h2
  by_cases hi : i = p
  · subst hi; exact ⟨[], g, now, .refl g i now⟩
  have key : ∀ n, n ≤ (its g).length → i < p + 1 + cntI ((its g).take n) → ∃ P h now', Sub gap g p now P h i now' := by
    intro n
    induction n with
    | zero =>
      intro _ h
      have : cntI ((its g).take 0) = 0 := by rw [List.take_zero]; rfl
      omega
    | succ n ihn =>
      intro hn h
      by_cases hlt : i < p + 1 + cntI ((its g).take n)
      · exact ihn (by omega) hlt
      · have hx : (its g)[n]? = some (its g)[n] := List.getElem?_eq_getElem (by omega)
        generalize (its g)[n] = x at hx
        have e : (its g).take (n + 1) = (its g).take n ++ [x] := by rw [List.take_succ_eq_append_getElem (by omega), (List.getElem?_eq_some_iff.1 hx).2]
        have hc : cntI ((its g).take (n + 1)) = cntI ((its g).take n) + cntV x.v := by
          unfold cntI
          rw [e, valsI_append, cntL_append]
          rfl
        have hm := List.mem_of_getElem? hx
        obtain ⟨P, h', now', hs⟩ := ih x.v (in_weight (its_mem hw hm)) (its_wf hw hm) (p + 1 + cntI ((its g).take n)) (now + gap + wI gap ((its g).take n)) i (by omega) (by omega)
        exact ⟨_, _, _, .step hx hs⟩
  have hc := cntI_its hw
  exact key (its g).length (Nat.le_refl _) (by rw [List.take_length]; omega)

theorem wI_nn {gap : Int} (hg : 0 < gap) (xs : List Itm) : 0 ≤ wI gap xs := wL_nn hg _

theorem sub_bd {gap : Int} (hg : 0 < gap) {g : GVal} {p : Nat} {now : Int} {P : List GStep} {h : GVal} {q : Nat} {now' : Int} (hs : Sub gap g p now P h q now') : g.wf →
    h.wf ∧ now ≤ now' ∧ now' + wV gap h ≤ now + wV gap g ∧ (P ≠ [] → now + gap ≤ now' ∧ now' + wV gap h + gap ≤ now + wV gap g) := by
  induction hs with
  | refl g p now => exact fun hw => ⟨hw, Int.le_refl _, Int.le_refl _, fun h => absurd rfl h⟩
  | @step g p now m x P h q now' hx hs ih =>
    intro hw
    obtain ⟨h0, h1, h2, -⟩ := ih (its_wf hw (List.mem_of_getElem? hx))
    have e1 := wI_split (gap := gap) hx
    have e2 := wI_its (gap := gap) hw
    have e3 := wI_nn hg ((its g).take m)
    have e4 := wI_nn hg ((its g).drop (m + 1))
    exact ⟨h0, by omega, by omega, fun _ => ⟨by omega, by omega⟩⟩

/-- Two blocks: one in the other, just if its place begins with the other's; or apart. -/
def Cmp (gap : Int) (P : List GStep) (h : GVal) (a : Int) (Q : List GStep) (k : GVal) (b : Int) : Prop :=
  (P <+: Q ↔ a ≤ b ∧ b + wV gap k ≤ a + wV gap h) ∧ (Q <+: P ↔ b ≤ a ∧ a + wV gap h ≤ b + wV gap k) ∧ (P <+: Q ∨ Q <+: P ∨ a + wV gap h ≤ b ∨ b + wV gap k ≤ a)

theorem prefix_cons_iff {s t : GStep} {P Q : List GStep} : s :: P <+: t :: Q ↔ s = t ∧ P <+: Q := List.cons_prefix_cons

theorem sub_cmp {gap : Int} (hg : 0 < gap) {g : GVal} {p : Nat} {now : Int} {P : List GStep} {h : GVal} {q : Nat} {a : Int} (hs : Sub gap g p now P h q a) : g.wf → keysOk g → ∀ {Q : List GStep} {k : GVal} {r : Nat} {b : Int}, Sub gap g p now Q k r b → Cmp gap P h a Q k b := by
  induction hs with
  | refl g p now =>
    intro hw hk Q k r b ht
    obtain ⟨-, h1, h2, h3⟩ := sub_bd hg ht hw
    refine ⟨⟨fun _ => ⟨h1, h2⟩, fun _ => List.nil_prefix⟩, ⟨fun h => ?_, fun h => ?_⟩, .inl List.nil_prefix⟩
    · have hQ : Q = [] := by simpa using h
      subst hQ
      cases ht
      omega
    · by_cases hQ : Q = []
      · rw [hQ]; exact List.nil_prefix
      · have := h3 hQ; omega
  | @step g p now m x P h q a hx hs ih =>
    intro hw hk Q k r b ht
    have hbs := sub_bd hg (Sub.step hx hs) hw
    have hm := List.mem_of_getElem? hx
    cases ht with
    | refl =>
      have h3 := hbs.2.2.2 (by simp)
      refine ⟨⟨fun h => absurd h (by simp), fun h => by omega⟩, ⟨fun _ => ⟨by omega, by omega⟩, fun _ => List.nil_prefix⟩, .inr (.inl List.nil_prefix)⟩
    | @step _ _ _ n y Q _ _ _ hy ht =>
      by_cases hmn : m = n
      · subst hmn
        obtain rfl : x = y := by rw [hx] at hy; exact Option.some.inj hy
        obtain ⟨h1, h2, h3⟩ := ih (its_wf hw hm) (its_keys hw hk hm) ht
        refine ⟨?_, ?_, ?_⟩
        · rw [prefix_cons_iff, ← h1]; simp
        · rw [prefix_cons_iff, ← h2]; simp
        · rw [prefix_cons_iff, prefix_cons_iff]; simpa using h3
      · have hne : stepOf m x ≠ stepOf n y := fun e => hmn (stepOf_inj hk hx hy e)
        have hb1 := sub_bd hg hs (its_wf hw hm)
        have hb2 := sub_bd hg ht (its_wf hw (List.mem_of_getElem? hy))
        have hap : a + wV gap h ≤ b ∨ b + wV gap k ≤ a := by
          have ord : ∀ {m n : Nat} {x : Itm}, (its g)[m]? = some x → m < n → wI gap ((its g).take m) + wV gap x.v ≤ wI gap ((its g).take n) := by
            intro m n x hx hlt
            have hx' : ((its g).take n)[m]? = some x := by rw [List.getElem?_take, if_pos hlt]; exact hx
            have e := wI_split (gap := gap) hx'
            rw [List.take_take, Nat.min_eq_left (by omega)] at e
            have := wI_nn hg (((its g).take n).drop (m + 1))
            omega
          rcases Nat.lt_or_gt_of_ne hmn with hlt | hlt
          · have := ord hx hlt; left; omega
          · have := ord hy hlt; right; omega
        have hp1 := wV_pos hg h
        have hp2 := wV_pos hg k
        refine ⟨?_, ?_, .inr (.inr hap)⟩
        · rw [prefix_cons_iff]
          exact ⟨fun h => absurd h.1 hne, fun h => by omega⟩
        · rw [prefix_cons_iff]
          exact ⟨fun h => absurd h.1.symm hne, fun h => by omega⟩

/-! ### The place of a record -/

structure Loc (gap : Int) (L : List GRec) (g : GVal) (p : Nat) (now : Int) (pre : List GStep) : Prop where
  wf : g.wf
  keys : keysOk g
  at_ : ∃ nm name rest, L.drop p = (shredV gap g pre.length nm name now).1 ++ rest ∧ front (now + wV gap g) (rest.map se)
  place : ∀ n, p < n → upF L n p = pre.reverse

theorem parentK_at {L : List GRec} {st : Int} {p : Nat} : ∀ {q : Nat}, p < q → (∀ k, p < k → k < q → (L[k]?.map GRec.en).getD 0 < st) → ¬ (L[p]?.map GRec.en).getD 0 < st → parentK L st q = p
  | 0, h, _, _ => by omega
  | q + 1, h, hk, hp => by
    rw [parentK]
    by_cases hq : q = p
    · subst hq; rw [if_neg hp]
    · rw [if_pos (hk q (by omega) (by omega))]
      exact parentK_at (by omega) (fun k h1 h2 => hk k h1 (by omega)) hp

theorem pos_get : ∀ (gs : List GVal) (p m : Nat), m < gs.length → (pos gs p)[m]? = some (p + cntL (gs.take m))
  | [], _, _, h => by simp at h
  | g :: gs, p, 0, _ => by simp [pos, cntL]
  | g :: gs, p, m + 1, h => by
    rw [pos, List.getElem?_cons_succ, pos_get gs _ m (by simpa using h), List.take_succ_cons, cntL]
    congr 1
    omega
theorem idxF_at : ∀ (l : List Nat) (v m k : Nat), l[m]? = some v → (∀ j, j < m → l[j]? ≠ some v) → idxF v l k = (k + m : Nat)
  | [], v, m, k, h, _ => by simp at h
  | x :: l, v, 0, k, h, _ => by
    simp only [List.getElem?_cons_zero, Option.some.injEq] at h
    rw [idxF, if_pos h.symm, Nat.add_zero]
  | x :: l, v, m + 1, k, h, hj => by
    have h0 := hj 0 (by omega)
    simp only [List.getElem?_cons_zero, ne_eq, Option.some.injEq] at h0
    rw [idxF, if_neg (fun e => h0 e.symm), idxF_at l v m (k + 1) (by simpa using h) fun j hlt => by simpa using hj (j + 1) (by omega)]
    congr 1
    omega

theorem skI_en {gap : Int} (hg : 0 < gap) {gs : List GVal} {now : Int} {S T : Sk} {p k : Nat} {x : Int × Int} (h : S.drop p = skL gap gs now ++ T) (h1 : p ≤ k) (h2 : k < p + cntL gs) (hx : S[k]? = some x) : x.2 ≤ now + wL gap gs := by
  have : (S.drop p)[k - p]? = some x := by rw [List.getElem?_drop, show p + (k - p) = k by omega]; exact hx
  rw [h, List.getElem?_append_left (by rw [skL_len]; omega)] at this
  exact (skL_bd hg gs now x (List.mem_of_getElem? this)).2.2

theorem drop_head {α : Type} {L T rest : List α} {p : Nat} {x : α} (h : L.drop p = x :: T ++ rest) : L[p]? = some x := by
  have : (L.drop p)[0]? = some x := by rw [h]; rfl
  simpa using this
theorem Loc.rec_ {gap : Int} {L : List GRec} {g : GVal} {p : Nat} {now : Int} {pre : List GStep} (h : Loc gap L g p now pre) :
    ∃ nm name, L[p]? = some ⟨now + gap, now + wV gap g, pre.length, g.kind, nm, name, g.b, g.n, g.s⟩ := by
  obtain ⟨nm, name, rest, h1, -⟩ := h.at_
  rw [shredV_its _ _ _ _ _ _ h.wf] at h1
  exact ⟨nm, name, drop_head h1⟩

theorem Loc.kids {gap : Int} (hg : 0 < gap) {L : List GRec} {g : GVal} {p : Nat} {now : Int} {pre : List GStep} (h : Loc gap L g p now pre) :
    kidsG L p = pos (g.l ++ g.vs) (p + 1) := by
  obtain ⟨nm, name, rest, h1, hfr⟩ := h.at_
  have h2 := congrArg (List.map se) h1
  rw [List.map_drop, List.map_append, (shredV_sk gap g _ nm name now h.wf).1, skV_eq, List.cons_append] at h2
  obtain ⟨h3, h4⟩ := drop_at h2
  have hlen : (L.map se).length = p + (1 + (cntL (g.l ++ g.vs) + (rest.map se).length)) := by
    have hp : p ≤ (L.map se).length := by
      have := (List.getElem?_eq_some_iff.1 h3).1
      omega
    have := congrArg List.length h2
    rw [List.length_drop, List.length_cons, List.length_append, skL_len] at this
    omega
  have hwe := wV_eq gap g
  rw [kidsG_se]
  unfold kidsAt
  rw [h3]
  refine kidsP_pos hg (rest := rest.map se) (fun x hx => ?_) (g.l ++ g.vs) (p + 1) (now + gap) _ h4 ?_ ?_
  · exact hfr x hx
  · show _ ≤ now + wV gap g
    omega
  · have := pos_cnt (g.l ++ g.vs)
    omega

theorem Loc.kid {gap : Int} (hg : 0 < gap) {L : List GRec} {g : GVal} {p : Nat} {now : Int} {pre : List GStep} (h : Loc gap L g p now pre) {m : Nat} {x : Itm} (hx : (its g)[m]? = some x) :
    Loc gap L x.v (p + 1 + cntI ((its g).take m)) (now + gap + wI gap ((its g).take m)) (pre ++ [stepOf m x]) ∧ parentG L (p + 1 + cntI ((its g).take m)) = p := by
  have hm := List.mem_of_getElem? hx
  have hwx := its_wf h.wf hm
  have hks := h.kids hg
  obtain ⟨nm, name, rest, h1, hfr⟩ := h.at_
  rw [shredV_its _ _ _ _ _ _ h.wf] at h1
  have hd1 : L.drop (p + 1) = (shredI gap (its g) (pre.length + 1) (now + gap)).1 ++ rest := by
    rw [← List.drop_drop, h1]
    rfl
  have hwi := wfs_its h.wf
  have hsp := split_at hx
  have hwt : GVal.wfs (valsI ((its g).take m)) := by
    rw [hsp, valsI_append, wfs_append] at hwi
    exact hwi.1
  have hwd : GVal.wfs (valsI ((its g).drop (m + 1))) := by
    rw [hsp, valsI_append, wfs_append] at hwi
    exact hwi.2.2
  have hsk := shredI_sk gap ((its g).take m) (pre.length + 1) (now + gap) hwt
  have hd0 := hd1
  rw [hsp, shredI_append, hsk.2] at hd1
  simp only [shredI, List.append_assoc] at hd1
  have hl1 : (shredI gap ((its g).take m) (pre.length + 1) (now + gap)).1.length = cntI ((its g).take m) := by
    have := congrArg List.length hsk.1
    rw [List.length_map, skL_len] at this
    exact this
  have hd2 : L.drop (p + 1 + cntI ((its g).take m)) = (shredV gap x.v (pre.length + 1) x.nm x.name (now + gap + wI gap ((its g).take m))).1 ++ ((shredI gap ((its g).drop (m + 1)) (pre.length + 1) (shredV gap x.v (pre.length + 1) x.nm x.name (now + gap + wI gap ((its g).take m))).2).1 ++ rest) := by
    rw [← hl1, ← List.drop_drop, hd1, List.drop_left]
    rfl
  have hsv := shredV_sk gap x.v (pre.length + 1) x.nm x.name (now + gap + wI gap ((its g).take m)) hwx
  have hwe := wI_its (gap := gap) h.wf
  have hws := wI_split (gap := gap) hx
  have hskd := shredI_sk gap ((its g).drop (m + 1)) (pre.length + 1) (shredV gap x.v (pre.length + 1) x.nm x.name (now + gap + wI gap ((its g).take m))).2 hwd
  have hfr2 : front (now + gap + wI gap ((its g).take m) + wV gap x.v) (((shredI gap ((its g).drop (m + 1)) (pre.length + 1) (shredV gap x.v (pre.length + 1) x.nm x.name (now + gap + wI gap ((its g).take m))).2).1 ++ rest).map se) := by
    rw [List.map_append, hskd.1, hsv.2]
    refine front_skL hg _ hfr ?_
    show _ + wI gap ((its g).drop (m + 1)) ≤ _
    omega
  have hq : L[p + 1 + cntI ((its g).take m)]? = some ⟨now + gap + wI gap ((its g).take m) + gap, now + gap + wI gap ((its g).take m) + wV gap x.v, pre.length + 1, x.v.kind, x.nm, x.name, x.v.b, x.v.n, x.v.s⟩ := by
    rw [shredV_its _ _ _ _ _ _ hwx] at hd2
    exact drop_head hd2
  have hp : L[p]? = some ⟨now + gap, now + wV gap g, pre.length, g.kind, nm, name, g.b, g.n, g.s⟩ := drop_head h1
  have hwd0 := wI_nn hg ((its g).drop (m + 1))
  have hwx0 := wV_pos hg x.v
  have hwx1 : 2 * gap ≤ wV gap x.v := by
    have := wV_eq gap x.v
    have := wL_nn hg (x.v.l ++ x.v.vs)
    omega
  have hpar : parentG L (p + 1 + cntI ((its g).take m)) = p := by
    unfold parentG
    rw [hq]
    refine parentK_at (by omega) (fun k hk1 hk2 => ?_) ?_
    · show (L[k]?.map GRec.en).getD 0 < now + gap + wI gap ((its g).take m) + gap
      have hS : (L.map se).drop (p + 1) = skL gap (valsI (its g)) (now + gap) ++ rest.map se := by
        rw [← List.map_drop, hd0, List.map_append, (shredI_sk gap (its g) _ _ hwi).1]
      rw [hsp, valsI_append, skL_append, List.append_assoc] at hS
      have hkl : k < L.length := by
        have := (List.getElem?_eq_some_iff.1 hq).1
        omega
      have hkx : (L.map se)[k]? = some (se L[k]) := by rw [List.getElem?_map, List.getElem?_eq_getElem hkl]; rfl
      have := skI_en hg hS (k := k) (by omega) hk2 hkx
      rw [List.getElem?_eq_getElem hkl]
      show L[k].en < _
      have hen : (se L[k]).2 = L[k].en := rfl
      rw [hen] at this
      have hwi' : wI gap ((its g).take m) = wL gap (valsI ((its g).take m)) := rfl
      omega
    · rw [hp]
      show ¬ now + wV gap g < now + gap + wI gap ((its g).take m) + gap
      omega
  refine ⟨⟨hwx, its_keys h.wf h.keys hm, ⟨x.nm, x.name, _, ?_, hfr2⟩, fun n hn => ?_⟩, hpar⟩
  · rw [List.length_append, List.length_singleton]
    exact hd2
  · obtain ⟨n, rfl⟩ : ∃ k, n = k + 1 := ⟨n - 1, by omega⟩
    unfold upF
    rw [hpar, if_neg (by omega), Int.toNat_natCast, h.place n (by omega), List.reverse_append]
    show stepG L (p + 1 + cntI ((its g).take m)) p :: _ = [stepOf m x] ++ _
    rw [List.singleton_append]
    congr 1
    unfold stepG stepOf
    rw [hq]
    dsimp only
    congr 1
    rw [hks]
    split
    · rfl
    · have hml : m < (g.l ++ g.vs).length := by
        rw [← vals_its h.wf]
        simpa [valsI] using (List.getElem?_eq_some_iff.1 hx).1
      have htk : ∀ j, cntL ((g.l ++ g.vs).take j) = cntI ((its g).take j) := fun j => by
        rw [← vals_its h.wf, cntI, valsI, valsI, List.map_take]
      have := idxF_at (pos (g.l ++ g.vs) (p + 1)) (p + 1 + cntI ((its g).take m)) m 0 (by rw [pos_get _ _ _ hml, htk]) (fun j hj => by
        rw [pos_get _ _ _ (by omega), htk]
        intro e
        have e := Option.some.inj e
        have hj' : (its g)[j]? = some ((its g)[j]'(by have := (List.getElem?_eq_some_iff.1 hx).1; omega)) := List.getElem?_eq_getElem _
        have hj2 : ((its g).take m)[j]? = some ((its g)[j]'(by have := (List.getElem?_eq_some_iff.1 hx).1; omega)) := by rw [List.getElem?_take, if_pos hj]; exact hj'
        have hc := cntI_split hj2
        rw [List.take_take, Nat.min_eq_left (by omega)] at hc
        have := cntV_pos ((its g)[j]'(by have := (List.getElem?_eq_some_iff.1 hx).1; omega)).v
        omega)
      rw [this]
      omega

theorem Loc.sub {gap : Int} (hg : 0 < gap) {L : List GRec} {g : GVal} {p : Nat} {now : Int} {P : List GStep} {h : GVal} {q : Nat} {now' : Int} (hs : Sub gap g p now P h q now') :
    ∀ {pre : List GStep}, Loc gap L g p now pre → Loc gap L h q now' (pre ++ P) := by
  induction hs with
  | refl g p now => intro pre hl; rw [List.append_nil]; exact hl
  | @step g p now m x P h q now' hx hs ih =>
    intro pre hl
    have := ih (hl.kid hg hx).1
    rw [List.append_assoc] at this
    exact this

theorem loc_root {gap : Int} {g : GVal} {nm : Bool} {name : ByteArray} (hw : g.wf) (hk : keysOk g) : Loc gap (shredV gap g 0 nm name 0).1 g 0 0 [] := by
  refine ⟨hw, hk, ⟨nm, name, [], by rw [List.drop_zero, List.append_nil]; rfl, fun x hx => by cases hx⟩, fun n hn => ?_⟩
  obtain ⟨n, rfl⟩ : ∃ k, n = k + 1 := ⟨n - 1, by omega⟩
  unfold upF
  rw [if_pos (by unfold parentG parentK; omega)]
  rfl

/-- Each record has its place in the value. -/
theorem shred_loc {gap : Int} (hg : 0 < gap) {g : GVal} {nm : Bool} {name : ByteArray} (hw : g.wf) (hk : keysOk g) {i : Nat} (hi : i < cntV g) :
    ∃ h now, Sub gap g 0 0 (placeG (shredV gap g 0 nm name 0).1 i) h i now ∧ Loc gap (shredV gap g 0 nm name 0).1 h i now (placeG (shredV gap g 0 nm name 0).1 i) := by
  obtain ⟨P, h, now, hs⟩ := sub_all (gap := gap) g hw 0 0 i (Nat.zero_le _) (by omega)
  have hl := Loc.sub hg hs (loc_root (nm := nm) (name := name) hw hk)
  rw [List.nil_append] at hl
  have : placeG (shredV gap g 0 nm name 0).1 i = P := by
    unfold placeG
    rw [hl.place (i + 1) (by omega), List.reverse_reverse]
  rw [this]
  exact ⟨h, now, hs, hl⟩

/-! ### Steps -/

def Canon (s : GStep) : Prop := (s.named = true → s.at_ = 0) ∧ (s.named = false → s.key = emptyS)
theorem sub_canon {gap : Int} {g : GVal} {p : Nat} {now : Int} {P : List GStep} {h : GVal} {q : Nat} {now' : Int} (hs : Sub gap g p now P h q now') : ∀ s ∈ P, Canon s := by
  induction hs with
  | refl => intro s hs; cases hs
  | @step g p now m x P h q now' hx hs ih =>
    intro s hs
    cases hs with
    | head => exact ⟨fun hn => by simp only [stepOf] at hn ⊢; rw [if_pos hn], fun hn => its_name (List.mem_of_getElem? hx) hn⟩
    | tail _ hs => exact ih s hs
theorem stepEq_iff {x y : GStep} (hx : Canon x) (hy : Canon y) : stepEq x y = true ↔ x = y := by
  obtain ⟨k1, a1, n1⟩ := x
  obtain ⟨k2, a2, n2⟩ := y
  obtain ⟨hx1, hx2⟩ := hx
  obtain ⟨hy1, hy2⟩ := hy
  cases n1 <;> cases n2 <;> simp [stepEq] at *
  · subst hx2 hy2; simp
  · subst hx1 hy1; simp
theorem sameG_iff : ∀ {a b : List GStep}, (∀ s ∈ a, Canon s) → (∀ s ∈ b, Canon s) → (sameG a b = true ↔ a = b)
  | [], [], _, _ => by simp [sameG]
  | [], _ :: _, _, _ => by simp [sameG]
  | _ :: _, [], _, _ => by simp [sameG]
  | x :: a, y :: b, ha, hb => by
    rw [sameG, Bool.and_eq_true, stepEq_iff (ha x List.mem_cons_self) (hb y List.mem_cons_self), sameG_iff (fun s h => ha s (List.mem_cons_of_mem _ h)) (fun s h => hb s (List.mem_cons_of_mem _ h)), List.cons.injEq]
/-- Is x the beginning of y? -/
def beginsG (x y : List GStep) : Bool := decide ((x.length : Int) ≤ y.length) && sameG x (y.take x.length)
theorem beginsG_iff {x y : List GStep} (hx : ∀ s ∈ x, Canon s) (hy : ∀ s ∈ y, Canon s) : beginsG x y = true ↔ x <+: y := by
  unfold beginsG
  rw [Bool.and_eq_true, sameG_iff hx (fun s h => hy s (List.mem_of_mem_take h)), decide_eq_true_eq, ← List.prefix_iff_eq_take]
  refine ⟨fun h => h.2, fun h => ⟨?_, h⟩⟩
  have := h.length_le
  omega

/-- WHAT STANDS IN WHAT IS TOLD BY NUMBERS. -/
theorem shred_lies {gap : Int} (hg : 0 < gap) {g : GVal} {nm : Bool} {name : ByteArray} (hw : g.wf) (hk : keysOk g) {L : List GRec} (hL : L = (shredV gap g 0 nm name 0).1) {a b : Nat} (ha : a < cntV g) (hb : b < cntV g) {x y : GRec} (hx : L[a]? = some x) (hy : L[b]? = some y) :
    beginsG (placeG L a) (placeG L b) = (decide (x.st ≤ y.st) && decide (y.en ≤ x.en)) ∧ beginsG (placeG L b) (placeG L a) = (decide (y.st ≤ x.st) && decide (x.en ≤ y.en)) ∧
    (beginsG (placeG L a) (placeG L b) = true ∨ beginsG (placeG L b) (placeG L a) = true ∨ x.en < y.st ∨ y.en < x.st) ∧ ((placeG L a).length : Int) = x.lv := by
  subst hL
  obtain ⟨h, s, hs, hl⟩ := shred_loc hg (nm := nm) (name := name) hw hk ha
  obtain ⟨k, t, ht, hm⟩ := shred_loc hg (nm := nm) (name := name) hw hk hb
  obtain ⟨nx, mx, ex⟩ := hl.rec_
  obtain ⟨ny, my, ey⟩ := hm.rec_
  rw [hx] at ex
  rw [hy] at ey
  have ex := Option.some.inj ex
  have ey := Option.some.inj ey
  generalize placeG (shredV gap g 0 nm name 0).1 a = P at *
  generalize placeG (shredV gap g 0 nm name 0).1 b = Q at *
  obtain ⟨c1, c2, c3⟩ := sub_cmp hg hs hw hk ht
  have b1 := beginsG_iff (sub_canon hs) (sub_canon ht)
  have b2 := beginsG_iff (sub_canon ht) (sub_canon hs)
  subst ex ey
  dsimp only
  refine ⟨?_, ?_, ?_, rfl⟩
  · rw [Bool.eq_iff_iff, b1, c1, Bool.and_eq_true, decide_eq_true_eq, decide_eq_true_eq]
    constructor <;> intro h <;> constructor <;> omega
  · rw [Bool.eq_iff_iff, b2, c2, Bool.and_eq_true, decide_eq_true_eq, decide_eq_true_eq]
    constructor <;> intro h <;> constructor <;> omega
  · rw [b1, b2]
    rcases c3 with c | c | c | c
    · exact .inl c
    · exact .inr (.inl c)
    · exact .inr (.inr (.inl (by omega)))
    · exact .inr (.inr (.inr (by omega)))
end Go.Sy
