/- Parts of the proof of CGuideBelow: Lh, Li, F41, XCl, XRow, CFacts, Cs, Cg. No conditions. -/
import Derived.Test.YtadnijcgohflhaaDoorM12
import Derived.Carry
import Derived.RowKit
import Derived.ChangeStays
import Derived.ChangeSame
import Derived.ReadAgain
import Derived.SizedLaws
import Derived.Deep.DeepHandedRow
import Derived.ProofKit
import Derived.OpenShut
import Derived.Lay
import Derived.SevenTiedAt
import Derived.Stop.Joined
import Derived.Test.YtadnijcgohflhaaDoorCards
import Derived.Test.YtadnijcgohflhaaDoorTie
import Derived.WideShapes
/- Plain law of GuideCounts. No program in sight. -/
namespace Go.Sy

theorem shredI_lv_of (gap : Int) : ∀ (xs : List Itm), (∀ x ∈ xs, ∀ (lv : Int) (nm : Bool) (name : ByteArray) (now : Int) (r : GRec), r ∈ (shredV gap x.v lv nm name now).1 → (r.lv = lv ∧ r.nm = nm) ∨ lv < r.lv) →
    ∀ (lv now : Int) (r : GRec), r ∈ (shredI gap xs lv now).1 → (∃ x ∈ xs, r.lv = lv ∧ r.nm = x.nm) ∨ lv < r.lv
  | [], _, _, _, _, h => by simp [shredI] at h
  | x :: xs, H, lv, now, r, h => by
    unfold shredI at h
    rcases List.mem_append.1 h with h | h
    · rcases H x List.mem_cons_self _ _ _ _ _ h with ⟨a, b⟩ | h
      · exact .inl ⟨x, List.mem_cons_self, a, b⟩
      · exact .inr h
    · rcases shredI_lv_of gap xs (fun y hy => H y (List.mem_cons_of_mem _ hy)) _ _ _ h with ⟨y, hy, e⟩ | h
      · exact .inl ⟨y, List.mem_cons_of_mem _ hy, e⟩
      · exact .inr h

theorem cntV_mem : ∀ {gs : List GVal} {g : GVal}, g ∈ gs → cntV g ≤ cntL gs := by
  intro gs g h
  obtain ⟨a, b, rfl⟩ := List.append_of_mem h
  rw [cntL_append, cntL]
  omega

theorem shredV_lv (gap : Int) : ∀ (n : Nat) (g : GVal), cntV g ≤ n → g.wf → ∀ (lv : Int) (nm : Bool) (name : ByteArray) (now : Int) (r : GRec), r ∈ (shredV gap g lv nm name now).1 → (r.lv = lv ∧ r.nm = nm) ∨ lv < r.lv
  | 0, g, hn, _, _, _, _, _, _, _ => by have := cntV_pos g; omega
  | n + 1, g, hn, hw, lv, nm, name, now, r, h => by
    rw [shredV_its gap g lv nm name now hw] at h
    rcases List.mem_cons.1 h with h | h
    · subst h
      exact .inl ⟨rfl, rfl⟩
    · have := shredI_lv_of gap (its g) (fun x hx => shredV_lv gap n x.v (by
        have h1 := cntV_mem (its_mem hw hx)
        have h2 := cntI_its hw
        rw [cntI, vals_its hw] at h2
        omega) (its_wf hw hx)) _ _ _ h
      rcases this with ⟨x, -, e, -⟩ | h
      · exact .inr (by omega)
      · exact .inr (by omega)

theorem shredI_has (gap : Int) : ∀ (xs : List Itm), (∀ x ∈ xs, x.v.wf) → ∀ (x : Itm), x ∈ xs → ∀ (lv now : Int), ∃ r ∈ (shredI gap xs lv now).1, r.lv = lv ∧ r.nm = x.nm
  | [], _, x, h, _, _ => (by cases h)
  | y :: xs, H, x, h, lv, now => by
    unfold shredI
    rcases List.mem_cons.1 h with h | h
    · subst h
      dsimp only
      rw [shredV_its gap x.v lv x.nm x.name now (H x List.mem_cons_self)]
      exact ⟨_, List.mem_append_left _ List.mem_cons_self, rfl, rfl⟩
    · obtain ⟨r, hr, e⟩ := shredI_has gap xs (fun z hz => H z (List.mem_cons_of_mem _ hz)) x h lv (shredV gap y.v lv y.nm y.name now).2
      exact ⟨r, List.mem_append_right _ hr, e⟩

theorem its_elem {g : GVal} : (∃ x ∈ its g, x.nm = false) ↔ g.l ≠ [] := by
  constructor
  · rintro ⟨x, hx, hn⟩
    obtain ⟨m, hm⟩ := List.mem_iff_getElem?.1 hx
    rcases its_split hm with ⟨-, h, -⟩ | ⟨h, -⟩
    · intro e
      rw [e] at h
      exact absurd h (Nat.not_lt_zero _)
    · rw [hn] at h
      cases h
  · intro h
    cases hl : g.l with
    | nil => exact absurd hl h
    | cons y l => exact ⟨⟨false, emptyS, y⟩, List.mem_append_left _ (by rw [hl]; exact List.mem_cons_self), rfl⟩

/-- A record of an element stands at the first level where the list has elements. -/
theorem shred_elem {gap : Int} {g : GVal} {nm : Bool} {name : ByteArray} {now : Int} (hw : g.wf) : (∃ r ∈ (shredV gap g 0 nm name now).1, r.lv = 1 ∧ r.nm = false) ↔ g.l ≠ [] := by
  rw [shredV_its gap g 0 nm name now hw, ← its_elem]
  constructor
  · rintro ⟨r, hr, h1, h2⟩
    rcases List.mem_cons.1 hr with hr | hr
    · subst hr
      exact absurd h1 (by show ¬ (0 : Int) = 1; decide)
    · rcases shredI_lv_of gap (its g) (fun x hx => shredV_lv gap _ x.v (Nat.le_refl _) (its_wf hw hx)) _ _ _ hr with ⟨x, hx, -, e⟩ | h
      · exact ⟨x, hx, by rw [← e, h2]⟩
      · omega
  · rintro ⟨x, hx, hn⟩
    obtain ⟨r, hr, h1, h2⟩ := shredI_has gap (its g) (fun y hy => its_wf hw hy) x hx (0 + 1) (now + gap)
    exact ⟨r, List.mem_cons_of_mem _ hr, h1, by rw [h2, hn]⟩

/-! ### What is asked of the lines -/

theorem cntUpto_mono (ids : List Int) (a b : Nat) (h : a ≤ b) : cntUpto ids a ≤ cntUpto ids b := by
  induction b with
  | zero =>
    have : a = 0 := by omega
    subst this
    exact Nat.le_refl _
  | succ b ih =>
    by_cases hab : a = b + 1
    · subst hab
      exact Nat.le_refl _
    · have := ih (by omega)
      rw [cntUpto]
      omega

theorem lines_count {ps : List SRow} {s : GSt} (h : CInv ps s) : cntUpto s.ids s.xs.length = ps.length := by
  rw [← h.len]
  refine cntUpto_all _ _ fun d hd => ?_
  obtain ⟨k, hk⟩ := List.mem_iff_getElem?.1 hd
  obtain ⟨j, x, p, e, hx, -, -⟩ := h.st k d hk
  have := (List.getElem?_eq_some_iff.1 hx).1
  omega

theorem all_deep (xs : List GLine) : (matchIds xs [deepP]).length = xs.length := allG_full xs 0 fun _ x _ => match_deep x.st
theorem kids_one (xs : List GLine) : (matchIds xs [eachP]).length ≤ (matchIds xs [anyP]).length := by
  refine allG_len_le (fun k x h => ?_) xs 0
  rw [match_one eachP (by decide)] at h
  rw [match_one anyP (by decide)]
  match hs : x.st with
  | [] => rw [hs] at h; cases h
  | [s] => rfl
  | _ :: _ :: _ => rw [hs] at h; cases h

theorem below_zero {xs : List GLine} {x : GLine} (hx : xs[0]? = some x) (hi : x.id = 0) (hs : x.st = []) : (belowG xs 0).length = xs.length - 1 := by
  have h0 : idG xs 0 = (0 : Nat) := by
    cases xs with
    | nil => cases hx
    | cons y l =>
      simp only [List.getElem?_cons_zero, Option.some.injEq] at hx
      subst hx
      unfold idG findG
      rw [if_pos (by simpa using hi)]
  unfold belowG
  rw [h0]
  simp only [Int.toNat_natCast, hx]
  rw [if_neg (by omega), hs]
  cases xs with
  | nil => cases hx
  | cons y l =>
    unfold allG
    rw [if_neg (by unfold belowQ; simp), List.length_cons, allG_full l 1 fun j z _ => ?_]
    · omega
    · unfold belowQ
      simp
      omega

theorem path_root {L : List GRec} {r : GRec} (hr : L[0]? = some r) (h1 : r.lv = 0) (h2 : r.nm = false) : (pathsG L)[0]? = some [] := by
  cases L with
  | nil => cases hr
  | cons y l =>
    simp only [List.getElem?_cons_zero, Option.some.injEq] at hr
    subst hr
    unfold pathsG pathsF pathStep
    rw [h1, h2]
    rfl

theorem line_root {p : SRow} {ps : List SRow} (hp : ps[0]? = some p) : ∃ x, (addAll ⟨[], 0, []⟩ ps).xs[0]? = some x ∧ x.id = 0 ∧ x.st = p.ss := by
  cases ps with
  | nil => cases hp
  | cons q qs =>
    simp only [List.getElem?_cons_zero, Option.some.injEq] at hp
    subst hp
    have h0 : addOne ⟨[], 0, []⟩ q = ⟨[(newLn 0 q).more], 1, [0]⟩ := addOne_new (by show (-1 : Int) < 0; decide)
    obtain ⟨-, hm, -⟩ := addAll_inv qs (addOne_spec inv0 q).1
    rw [h0] at hm
    obtain ⟨y, hy, e1, e2⟩ := hm 0 (newLn 0 q).more rfl
    refine ⟨y, ?_, e2, e1⟩
    rw [← hy, ← h0]
    rfl

theorem counts_kids {g : GVal} {L : List GRec} (hL : L = (shredV 1 g 0 false emptyS 0).1) (hw : g.wf) (hk : kinds g) {ps : List SRow} (hps : ps.map SRow.ss = pathsG L) :
    decide (((matchIds (addAll ⟨[], 0, []⟩ ps).xs [eachP]).length : Int) > 0) = (decide (g.kind = 4) && decide ((g.l.length : Int) > 0)) := by
  have hlev : levelsOk 0 L := by
    have := nested_shred (φ := fun x => x) (fun a b _ h => h) (gap := 1) (by omega) g false emptyS (by omega)
    rw [stE_id, List.map_id, ← hL] at this
    unfold nestedG at this
    simp only [Bool.and_eq_true] at this
    exact nest_levels L 0 [] (-1) this.1
  have hel := paths_elem L [] (hlev.mono (Nat.zero_le _))
  rw [hL, shred_elem hw, ← hL] at hel
  have hC := cinv_adds ps
  have key : 0 < (matchIds (addAll ⟨[], 0, []⟩ ps).xs [eachP]).length ↔ g.l ≠ [] := by
    rw [← hel]
    unfold matchIds
    rw [allG_pos]
    constructor
    · rintro ⟨j, x, hx, hq⟩
      rw [match_one eachP (by decide)] at hq
      obtain ⟨p, hp, e⟩ := hC.ne j x hx
      have hm : x.st ∈ pathsF [] L := by
        rw [e]
        exact (show ps.map SRow.ss = pathsF [] L from hps) ▸ List.mem_map_of_mem hp
      match hs : x.st with
      | [] => rw [hs] at hq; cases hq
      | [s] =>
        rw [hs] at hq hm
        have : s = elemS := of_decide_eq_true hq
        subst this
        exact List.mem_filterMap.2 ⟨_, hm, rfl⟩
      | _ :: _ :: _ => rw [hs] at hq; cases hq
    · intro h
      obtain ⟨p, hp, e⟩ := List.mem_filterMap.1 h
      have hp1 : p = [elemS] := by
        match p, e with
        | [s], e => rw [Option.some.inj e]
      subst hp1
      rw [← (show ps.map SRow.ss = pathsF [] L from hps)] at hp
      obtain ⟨q, hq, hqs⟩ := List.mem_map.1 hp
      obtain ⟨k, hk⟩ := List.mem_iff_getElem?.1 hq
      have hkl := (List.getElem?_eq_some_iff.1 hk).1
      have hkd : ∃ d, (addAll ⟨[], 0, []⟩ ps).ids[k]? = some d := ⟨_, List.getElem?_eq_getElem (by rw [hC.len]; exact hkl)⟩
      obtain ⟨d, hd⟩ := hkd
      obtain ⟨j, x, q', -, hx, hq', hst⟩ := hC.st k d hd
      rw [hk] at hq'
      obtain rfl := Option.some.inj hq'
      refine ⟨j, x, hx, ?_⟩
      rw [match_one eachP (by decide), hst, hqs]
      rfl
  by_cases hl : g.l = []
  · rw [hl]
    have : ¬ 0 < (matchIds (addAll ⟨[], 0, []⟩ ps).xs [eachP]).length := fun h => key.1 h hl
    rw [decide_eq_false (by omega)]
    simp
  · have h4 := ((kinds_eq g).1 hk).1 hl
    have hpos := key.2 hl
    have : 0 < g.l.length := List.length_pos_iff.2 hl
    rw [decide_eq_true (by omega), decide_eq_true h4, decide_eq_true (by omega)]
    rfl
end Go.Sy
/- Plain law of GuideBelow. No program in sight. -/
namespace Go.Sy

/-! ### The marks of a match, place by place -/

theorem getD_set_b (l : List Bool) (i j : Nat) : (l.set i true).getD j false = (l.getD j false || (decide (i = j) && decide (i < l.length))) := by
  rw [List.getD_eq_getElem?_getD, List.getD_eq_getElem?_getD, List.getElem?_set]
  by_cases h : i = j
  · subst h
    by_cases hl : i < l.length
    · simp [hl]
    · rw [if_pos rfl, if_neg hl]
      have : l[i]? = none := by rw [List.getElem?_eq_none_iff]; omega
      simp [this, hl]
  · rw [if_neg h]
    simp [h]

theorem getD_ge (l : List Bool) (j : Nat) (h : l.length ≤ j) : l.getD j false = false := by
  rw [List.getD_eq_getElem?_getD, List.getElem?_eq_none_iff.2 h]
  rfl

/-- What stands at a place after a step: it came from a step at any depth there, or from the place before. -/
theorem nextV_get (ps : List GPat) (V : List Bool) (s : ByteArray) (j : Nat) : (nextV ps V s).getD j false =
    ((match ps[j]? with | some p => decide (p.what = 4) && V.getD j false | none => false) ||
     (match j with | 0 => false | i + 1 => match ps[i]? with | some p => (!decide (p.what = 4)) && V.getD i false && fitsP p s | none => false)) := by
  have key : ∀ (m : Nat), m ≤ ps.length → ∀ (j : Nat), ((List.range m).foldl (patAt ps V s) (List.replicate (ps.length + 1) false)).getD j false =
      ((decide (j < m) && match ps[j]? with | some p => decide (p.what = 4) && V.getD j false | none => false) ||
       (match j with | 0 => false | i + 1 => decide (i < m) && match ps[i]? with | some p => (!decide (p.what = 4)) && V.getD i false && fitsP p s | none => false)) := by
    intro m
    induction m with
    | zero =>
      intro _ j
      have h0 : (List.replicate (ps.length + 1) false).getD j false = false := by
        rw [List.getD_eq_getElem?_getD, List.getElem?_replicate]
        split <;> rfl
      show (List.replicate (ps.length + 1) false).getD j false = _
      rw [h0]
      cases j <;> simp
    | succ m ih =>
      intro hm j
      have ih := ih (by omega)
      have hml : ps[m]? = some ps[m] := List.getElem?_eq_getElem (by omega)
      have hlen : ((List.range m).foldl (patAt ps V s) (List.replicate (ps.length + 1) false)).length = ps.length + 1 := by rw [fold_len _ (patAt_len ps V s), List.length_replicate]
      rw [range_fold]
      generalize (List.range m).foldl (patAt ps V s) (List.replicate (ps.length + 1) false) = N at *
      have hst : patAt ps V s N m = if V.getD m false then (if ps[m].what = 4 then N.set m true else if fitsP ps[m] s then N.set (m + 1) true else N) else N := by
        unfold patAt
        rw [hml]
      rw [hst]
      have hj := ih j
      by_cases hv : V.getD m false = true
      · rw [if_pos hv]
        by_cases hw : ps[m].what = 4
        · rw [if_pos hw, getD_set_b, hj]
          by_cases hjm : j = m
          · subst hjm
            have a1 : decide (j < N.length) = true := by rw [hlen]; simp; omega
            have hv' : V[j]?.getD false = true := by simpa using hv
            rw [hml, a1]
            simp [hw, hv']
          · have h1 : decide (m = j) = false := by simpa using fun h => hjm h.symm
            rw [h1, Bool.false_and, Bool.or_false]
            have h2 : decide (j < m + 1) = decide (j < m) := by simp; omega
            rw [h2]
            congr 1
            cases j with
            | zero => rfl
            | succ i =>
              by_cases him : i = m
              · subst him
                dsimp only
                rw [hml]
                simp [hw]
              · have h3 : decide (i < m + 1) = decide (i < m) := by simp; omega
                dsimp only
                rw [h3]
        · rw [if_neg hw]
          have h4 : (decide (j < m + 1) && match ps[j]? with | some p => decide (p.what = 4) && V.getD j false | none => false) = (decide (j < m) && match ps[j]? with | some p => decide (p.what = 4) && V.getD j false | none => false) := by
            by_cases hjm : j = m
            · subst hjm
              rw [hml]
              simp [hw]
            · have h2 : decide (j < m + 1) = decide (j < m) := by simp; omega
              rw [h2]
          rw [h4]
          by_cases hf : fitsP ps[m] s = true
          · rw [if_pos hf, getD_set_b, hj, hlen, Bool.or_assoc]
            congr 1
            cases j with
            | zero => simp
            | succ i =>
              by_cases him : i = m
              · subst him
                dsimp only
                rw [hml]
                dsimp only
                rw [hv, hf]
                simp [hw]
                omega
              · have h3 : decide (i < m + 1) = decide (i < m) := by simp; omega
                dsimp only
                rw [h3]
                have h5 : decide (m + 1 = i + 1) = false := by simp; omega
                rw [h5, Bool.false_and, Bool.or_false]
          · rw [if_neg hf, hj]
            congr 1
            cases j with
            | zero => rfl
            | succ i =>
              by_cases him : i = m
              · subst him
                dsimp only
                rw [hml]
                simp [hf]
              · have h3 : decide (i < m + 1) = decide (i < m) := by simp; omega
                dsimp only
                rw [h3]
      · rw [if_neg hv, hj]
        have hv : V.getD m false = false := by simpa using hv
        congr 1
        · by_cases hjm : j = m
          · subst hjm
            rw [hml]
            dsimp only
            rw [hv]
            simp
          · have h2 : decide (j < m + 1) = decide (j < m) := by simp; omega
            rw [h2]
        · cases j with
          | zero => rfl
          | succ i =>
            by_cases him : i = m
            · subst him
              dsimp only
              rw [hml]
              dsimp only
              rw [hv]
              simp
            · have h3 : decide (i < m + 1) = decide (i < m) := by simp; omega
              dsimp only
              rw [h3]
  have := key ps.length (Nat.le_refl _) j
  unfold nextV
  rw [this]
  congr 1
  · by_cases hj : j < ps.length
    · simp [hj]
    · rw [List.getElem?_eq_none_iff.2 (by omega)]
      simp
  · cases j with
    | zero => rfl
    | succ i =>
      dsimp only
      by_cases hj : i < ps.length
      · simp [hj]
      · rw [List.getElem?_eq_none_iff.2 (by omega)]
        simp

/-- Steps at any depth hand their mark on. -/
theorem deepV_get (ps : List GPat) (V : List Bool) (hV : V.length = ps.length + 1) (j : Nat) : (deepV ps V).getD j false =
    (V.getD j false || match j with | 0 => false | i + 1 => match ps[i]? with | some p => decide (p.what = 4) && (deepV ps V).getD i false | none => false) := by
  have key : ∀ (m : Nat), m ≤ ps.length → ∀ (j : Nat), ((List.range m).foldl (deepAt ps) V).getD j false =
      (V.getD j false || match j with | 0 => false | i + 1 => decide (i < m) && match ps[i]? with | some p => decide (p.what = 4) && ((List.range m).foldl (deepAt ps) V).getD i false | none => false) := by
    intro m
    induction m with
    | zero =>
      intro _ j
      show V.getD j false = _
      cases j <;> simp
    | succ m ih =>
      intro hm j
      have ih := ih (by omega)
      have hml : ps[m]? = some ps[m] := List.getElem?_eq_getElem (by omega)
      have hlen : ((List.range m).foldl (deepAt ps) V).length = ps.length + 1 := by rw [fold_len _ (deepAt_len ps), hV]
      rw [range_fold]
      generalize (List.range m).foldl (deepAt ps) V = N at *
      have hst : deepAt ps N m = if ps[m].what = 4 then (if N.getD m false then N.set (m + 1) true else N) else N := by
        unfold deepAt
        rw [hml]
      have hold : ∀ i, i ≤ m → (deepAt ps N m).getD i false = N.getD i false := by
        intro i hi
        rw [hst]
        split
        · split
          · rw [getD_set_b]
            have : decide (m + 1 = i) = false := by simp; omega
            rw [this, Bool.false_and, Bool.or_false]
          · rfl
        · rfl
      have hself : (deepAt ps N m).getD (m + 1) false = (N.getD (m + 1) false || (decide (ps[m].what = 4) && N.getD m false)) := by
        rw [hst]
        by_cases hw : ps[m].what = 4
        · rw [if_pos hw]
          by_cases hn : N.getD m false = true
          · rw [if_pos hn, getD_set_b, hn]
            simp [hw]
            right
            omega
          · rw [if_neg hn]
            have hn : N.getD m false = false := by simpa using hn
            rw [hn]
            simp
        · rw [if_neg hw]
          simp [hw]
      have hgt : ∀ i, m + 1 < i → (deepAt ps N m).getD i false = N.getD i false := by
        intro i hi
        rw [hst]
        split
        · split
          · rw [getD_set_b]
            have : decide (m + 1 = i) = false := by simp; omega
            rw [this, Bool.false_and, Bool.or_false]
          · rfl
        · rfl
      cases j with
      | zero =>
        rw [hold 0 (Nat.zero_le _), ih 0]
      | succ i =>
        dsimp only
        by_cases him : i < m
        · rw [hold (i + 1) (by omega), hold i (by omega), ih (i + 1)]
          simp [him, show i < m + 1 by omega]
        · by_cases hie : i = m
          · subst hie
            rw [hself, hold i (Nat.le_refl _), ih (i + 1), hml]
            simp
          · rw [hgt (i + 1) (by omega), ih (i + 1)]
            simp [him, show ¬ i < m + 1 by omega]
  have := key ps.length (Nat.le_refl _) j
  unfold deepV
  rw [this]
  congr 1
  cases j with
  | zero => rfl
  | succ i =>
    dsimp only
    by_cases hj : i < ps.length
    · simp [hj]
    · rw [List.getElem?_eq_none_iff.2 (by omega)]
      simp

/-! ### What is asked for by steps -/

/-- A step that patterns can ask for by itself. -/
def namable (s : ByteArray) : Prop := s = elemP ∨ prefB s dotP = true
/-- What asks for just this step. -/
def patOf (s : ByteArray) : GPat := if s = elemP then ⟨3, emptyS⟩ else ⟨1, cutB s dotP⟩

theorem patOf_what (s : ByteArray) : (patOf s).what ≠ 4 := by
  unfold patOf
  split
  · show (3 : Int) ≠ 4
    decide
  · show (1 : Int) ≠ 4
    decide

theorem pref_dot {s : ByteArray} (h : prefB s dotP = true) : s = dotP ++ cutB s dotP := by
  unfold cutB
  rw [if_pos h]
  unfold prefB at h
  rw [Bool.and_eq_true] at h
  have h1 := of_decide_eq_true h.1
  have h2 := of_decide_eq_true h.2
  conv => lhs; rw [← ByteArray.extract_zero_size (b := s)]
  rw [← h2]
  conv => rhs; rw [show (s.extract 0 dotP.size).size = dotP.size by rw [h2]]
  rw [ByteArray.extract_append_extract]
  congr 1
  have : dotP.size = 1 := rfl
  omega

theorem fits_patOf {s t : ByteArray} (hs : namable s) : fitsP (patOf s) t = decide (t = s) := by
  unfold patOf
  by_cases h : s = elemP
  · rw [if_pos h]
    subst h
    rfl
  · rw [if_neg h]
    have hd : prefB s dotP = true := hs.resolve_left h
    show (prefB t dotP && decide (cutB t dotP = cutB s dotP)) = _
    by_cases ht : t = s
    · subst ht
      simp [hd]
    · rw [decide_eq_false ht]
      by_cases hp : prefB t dotP = true
      · have : cutB t dotP ≠ cutB s dotP := fun e => ht (by rw [pref_dot hp, pref_dot hd, e])
        simp [this]
      · simp [hp]

theorem rev_ind {α : Type} {P : List α → Prop} (h0 : P []) (h1 : ∀ l a, P l → P (l ++ [a])) (l : List α) : P l := by
  have : ∀ m : List α, P m.reverse := by
    intro m
    induction m with
    | nil => exact h0
    | cons a m ih =>
      rw [List.reverse_cons]
      exact h1 _ _ ih
  have := this l.reverse
  rwa [List.reverse_reverse] at this

/-- The marks of steps that are asked for one by one. -/
theorem run_self {st : List ByteArray} (hst : ∀ s ∈ st, namable s) : ∀ (ss : List ByteArray) (j : Nat), (runV (st.map patOf) ss).getD j false = decide (j = ss.length ∧ j ≤ st.length ∧ ss = st.take j) := by
  have hw : ∀ (i : Nat) (p : GPat), (st.map patOf)[i]? = some p → p.what ≠ 4 := by
    intro i p h
    obtain ⟨s, -, rfl⟩ := List.mem_map.1 (List.mem_of_getElem? h)
    exact patOf_what s
  have hdeep : ∀ (V : List Bool), V.length = (st.map patOf).length + 1 → ∀ j, (deepV (st.map patOf) V).getD j false = V.getD j false := by
    intro V hV j
    rw [deepV_get _ V hV]
    cases j with
    | zero => simp
    | succ i =>
      dsimp only
      split
      · rename_i p hp
        simp [hw i p hp]
      · simp
  refine rev_ind ?_ ?_
  · intro j
    show (startV (st.map patOf)).getD j false = _
    unfold startV
    rw [hdeep _ (by simp), getD_set_b]
    have h0 : (List.replicate ((st.map patOf).length + 1) false).getD j false = false := by
      rw [List.getD_eq_getElem?_getD, List.getElem?_replicate]
      split <;> rfl
    rw [h0]
    by_cases hj : 0 = j
    · subst hj; simp
    · have : ¬ j = 0 := fun h => hj h.symm
      simp [hj, this]
  · intro ss s ih j
    have : runV (st.map patOf) (ss ++ [s]) = deepV (st.map patOf) (nextV (st.map patOf) (runV (st.map patOf) ss) s) := by
      unfold runV
      rw [List.foldl_append]
      rfl
    rw [this, hdeep _ (nextV_len _ _ _), nextV_get]
    have h1 : (match (st.map patOf)[j]? with | some p => decide (p.what = 4) && (runV (st.map patOf) ss).getD j false | none => false) = false := by
      split
      · rename_i p hp
        simp [hw j p hp]
      · rfl
    rw [h1, Bool.false_or]
    cases j with
    | zero => simp
    | succ i =>
      dsimp only
      rw [ih i, List.getElem?_map]
      by_cases hi : i < st.length
      · rw [List.getElem?_eq_getElem hi]
        dsimp only [Option.map_some]
        rw [fits_patOf (hst _ (List.getElem_mem hi)), decide_eq_false (patOf_what st[i])]
        rw [List.take_succ_eq_append_getElem hi]
        simp only [Bool.not_false, Bool.true_and, List.length_append, List.length_singleton]
        rw [← Bool.decide_and]
        congr 1
        apply propext
        constructor
        · rintro ⟨⟨a, b, c⟩, d⟩
          exact ⟨by omega, by omega, by rw [d, ← c]⟩
        · rintro ⟨a, b, c⟩
          have := List.append_inj' c rfl
          exact ⟨⟨by omega, by omega, this.1⟩, by simpa using this.2⟩
      · rw [List.getElem?_eq_none_iff.2 (by omega)]
        have : ¬ (i + 1 = (ss ++ [s]).length ∧ i + 1 ≤ st.length ∧ ss ++ [s] = st.take (i + 1)) := by omega
        rw [decide_eq_false this]
        rfl

theorem match_self {st : List ByteArray} (hst : ∀ s ∈ st, namable s) (ss : List ByteArray) : matchG ss (st.map patOf) = decide (ss = st) := by
  unfold matchG
  rw [run_self hst, List.length_map]
  congr 1
  apply propext
  rw [List.take_length]
  exact ⟨fun h => h.2.2, fun h => ⟨by rw [h], Nat.le_refl _, h⟩⟩

/-- The marks of steps that are asked for one by one, then any one, then any more. -/
theorem run_below {st : List ByteArray} (hst : ∀ s ∈ st, namable s) : ∀ (ss : List ByteArray),
    (∀ j, j ≤ st.length → (runV (st.map patOf ++ [anyP, deepP]) ss).getD j false = decide (j = ss.length ∧ ss = st.take j)) ∧
    (runV (st.map patOf ++ [anyP, deepP]) ss).getD (st.length + 1) false = decide (st.length + 1 ≤ ss.length ∧ ss.take st.length = st) ∧
    (runV (st.map patOf ++ [anyP, deepP]) ss).getD (st.length + 2) false = decide (st.length + 1 ≤ ss.length ∧ ss.take st.length = st) := by
  generalize hps : st.map patOf ++ [anyP, deepP] = ps
  have hlen : ps.length = st.length + 2 := by rw [← hps]; simp
  have hlo : ∀ (i : Nat) (h : i < st.length), ps[i]? = some (patOf st[i]) := by
    intro i h
    rw [← hps, List.getElem?_append_left (by simpa using h), List.getElem?_map, List.getElem?_eq_getElem h]
    rfl
  have hany : ps[st.length]? = some anyP := by rw [← hps, List.getElem?_append_right (by simp)]; simp
  have hdp : ps[st.length + 1]? = some deepP := by rw [← hps, List.getElem?_append_right (by simp)]; simp
  have hend : ps[st.length + 2]? = none := by rw [List.getElem?_eq_none_iff]; omega
  have hdeep : ∀ (V : List Bool), V.length = ps.length + 1 → (∀ j, j ≤ st.length + 1 → (deepV ps V).getD j false = V.getD j false) ∧ (deepV ps V).getD (st.length + 2) false = (V.getD (st.length + 2) false || V.getD (st.length + 1) false) := by
    intro V hV
    have h1 : ∀ j, j ≤ st.length + 1 → (deepV ps V).getD j false = V.getD j false := by
      intro j hj
      rw [deepV_get _ V hV]
      cases j with
      | zero => simp
      | succ i =>
        dsimp only
        by_cases hi : i < st.length
        · rw [hlo i hi]
          simp [patOf_what]
        · obtain rfl : i = st.length := by omega
          rw [hany]
          simp [anyP]
    refine ⟨h1, ?_⟩
    rw [deepV_get _ V hV]
    dsimp only
    rw [hdp, h1 _ (Nat.le_refl _)]
    simp [deepP]
  refine rev_ind ?_ ?_
  · have h0 : ∀ j, (List.replicate (ps.length + 1) false).getD j false = false := by
      intro j
      rw [List.getD_eq_getElem?_getD, List.getElem?_replicate]
      split <;> rfl
    obtain ⟨h1, h2⟩ := hdeep ((List.replicate (ps.length + 1) false).set 0 true) (by simp)
    refine ⟨fun j hj => ?_, ?_, ?_⟩
    · show (startV ps).getD j false = _
      unfold startV
      rw [h1 j (by omega), getD_set_b, h0]
      by_cases hj : 0 = j
      · subst hj; simp
      · have : ¬ j = 0 := fun h => hj h.symm
        simp [hj, this]
    · show (startV ps).getD _ false = _
      unfold startV
      rw [h1 _ (Nat.le_refl _), getD_set_b, h0]
      simp
    · show (startV ps).getD _ false = _
      unfold startV
      rw [h2, getD_set_b, getD_set_b, h0, h0]
      simp
  · intro ss s ⟨ih1, ih2, ih3⟩
    have hrun : runV ps (ss ++ [s]) = deepV ps (nextV ps (runV ps ss) s) := by
      unfold runV
      rw [List.foldl_append]
      rfl
    obtain ⟨h1, h2⟩ := hdeep (nextV ps (runV ps ss) s) (nextV_len _ _ _)
    have hn : ∀ j, j ≤ st.length → (nextV ps (runV ps ss) s).getD j false = decide (j = (ss ++ [s]).length ∧ ss ++ [s] = st.take j) := by
      intro j hj
      rw [nextV_get]
      have h3 : (match ps[j]? with | some p => decide (p.what = 4) && (runV ps ss).getD j false | none => false) = false := by
        by_cases hi : j < st.length
        · rw [hlo j hi]
          simp [patOf_what]
        · obtain rfl : j = st.length := by omega
          rw [hany]
          simp [anyP]
      rw [h3, Bool.false_or]
      cases j with
      | zero => simp
      | succ i =>
        dsimp only
        rw [hlo i (by omega), ih1 i (by omega)]
        dsimp only
        rw [fits_patOf (hst _ (List.getElem_mem (by omega))), decide_eq_false (patOf_what _), List.take_succ_eq_append_getElem (by omega)]
        simp only [Bool.not_false, Bool.true_and, List.length_append, List.length_singleton]
        rw [← Bool.decide_and]
        congr 1
        apply propext
        constructor
        · rintro ⟨⟨a, b⟩, d⟩
          exact ⟨by omega, by rw [d, ← b]⟩
        · rintro ⟨a, c⟩
          have := List.append_inj' c rfl
          exact ⟨⟨by omega, this.1⟩, by simpa using this.2⟩
    have hn1 : (nextV ps (runV ps ss) s).getD (st.length + 1) false = decide (st.length + 1 ≤ (ss ++ [s]).length ∧ (ss ++ [s]).take st.length = st) := by
      rw [nextV_get, hdp]
      dsimp only
      rw [hany, ih2]
      dsimp only
      rw [ih1 _ (Nat.le_refl _)]
      have hf : fitsP anyP s = true := rfl
      have hx : decide (deepP.what = 4) = true := rfl
      have hy : decide (anyP.what = 4) = false := rfl
      rw [hf, hx, hy]
      simp only [Bool.not_false, Bool.true_and, Bool.and_true, List.length_append, List.length_singleton]
      rw [← Bool.decide_or]
      congr 1
      apply propext
      rw [List.take_length]
      constructor
      · rintro (⟨a, b⟩ | ⟨a, b⟩)
        · exact ⟨by omega, by rw [List.take_append_of_le_length (by omega)]; exact b⟩
        · exact ⟨by omega, by rw [List.take_append_of_le_length (by omega), b, List.take_length]⟩
      · rintro ⟨a, b⟩
        rw [List.take_append_of_le_length (by omega)] at b
        by_cases hc : st.length + 1 ≤ ss.length
        · exact .inl ⟨hc, b⟩
        · have hl : ss.length = st.length := by omega
          exact .inr ⟨hl.symm, by rw [← hl, List.take_length] at b; exact b⟩
    have hn2 : (nextV ps (runV ps ss) s).getD (st.length + 2) false = false := by
      rw [nextV_get, hend]
      dsimp only
      rw [hdp]
      simp [deepP]
    rw [hrun]
    refine ⟨fun j hj => by rw [h1 j (by omega), hn j hj], by rw [h1 _ (Nat.le_refl _), hn1], by rw [h2, hn1, hn2, Bool.false_or]⟩

theorem match_below {st : List ByteArray} (hst : ∀ s ∈ st, namable s) (ss : List ByteArray) : matchG ss (st.map patOf ++ [anyP, deepP]) = decide (st.length + 1 ≤ ss.length ∧ ss.take st.length = st) := by
  have := (run_below hst ss).2.2
  unfold matchG
  rw [show (st.map patOf ++ [anyP, deepP]).length = st.length + 2 by simp]
  exact this

theorem allG_congr {q r : Nat → GLine → Bool} : ∀ (l : List GLine) (k : Nat), (∀ (j : Nat) x, l[j]? = some x → q (k + j) x = r (k + j) x) → allG q l k = allG r l k
  | [], _, _ => rfl
  | x :: l, k, h => by
    have ih : allG q l (k + 1) = allG r l (k + 1) := allG_congr l (k + 1) fun j y hy => by
      have := h (j + 1) y (by simpa using hy)
      rw [show k + (j + 1) = k + 1 + j by omega] at this
      exact this
    have h0 : q k x = r k x := h 0 x rfl
    unfold allG
    rw [h0, ih]

theorem allG_one {q : Nat → GLine → Bool} : ∀ (l : List GLine) (k i : Nat) (x : GLine), l[i]? = some x → (∀ (j : Nat) y, l[j]? = some y → q (k + j) y = decide (j = i)) → allG q l k = [x.id]
  | [], _, _, _, h, _ => by cases h
  | y :: l, k, 0, x, h, hq => by
    obtain rfl : y = x := by simpa using h
    have h0 : q k y = true := by have := hq 0 y rfl; simpa using this
    unfold allG
    rw [if_pos h0]
    congr 1
    have : ∀ (l : List GLine) (k : Nat), (∀ (j : Nat) y, l[j]? = some y → q (k + j) y = false) → allG q l k = [] := by
      intro l
      induction l with
      | nil => intro _ _; rfl
      | cons z l ih =>
        intro k hz
        unfold allG
        rw [if_neg (by rw [show q k z = false from hz 0 z rfl]; decide), ih (k + 1) fun j y hy => by
          have := hz (j + 1) y (by simpa using hy)
          rw [show k + (j + 1) = k + 1 + j by omega] at this
          exact this]
    exact this l (k + 1) fun j z hz => by
      have := hq (j + 1) z (by simpa using hz)
      rw [show k + (j + 1) = k + 1 + j by omega] at this
      simpa using this
  | y :: l, k, i + 1, x, h, hq => by
    have h0 : q k y = false := by have := hq 0 y rfl; simpa using this
    unfold allG
    rw [if_neg (by rw [h0]; decide)]
    refine allG_one l (k + 1) i x (by simpa using h) fun j z hz => ?_
    have := hq (j + 1) z (by simpa using hz)
    rw [show k + (j + 1) = k + 1 + j by omega] at this
    simpa using this

/-! ### A sound summary -/

/-- The lines' steps are different, and so are their IDs. -/
structure GSnd (xs : List GLine) : Prop where
  st : ∀ (i j : Nat) x y, xs[i]? = some x → xs[j]? = some y → x.st = y.st → i = j
  id : ∀ (i j : Nat) x y, xs[i]? = some x → xs[j]? = some y → x.id = y.id → i = j

theorem idG_self {xs : List GLine} (h : GSnd xs) {i : Nat} {x : GLine} (hx : xs[i]? = some x) : idG xs x.id = i := by
  have key : ∀ (l : List GLine) (i k : Nat), l[i]? = some x → (∀ (j : Nat) y, l[j]? = some y → y.id = x.id → j = i) → findG (fun y => decide (y.id = x.id)) l k = ((k + i : Nat) : Int) := by
    intro l
    induction l with
    | nil => intro i k h _; cases h
    | cons y l ih =>
      intro i k h hu
      unfold findG
      by_cases he : y.id = x.id
      · have : 0 = i := hu 0 y rfl he
        subst this
        rw [if_pos (by simpa using he)]
        rfl
      · rw [if_neg (by simpa using he)]
        cases i with
        | zero =>
          obtain rfl : y = x := by simpa using h
          exact absurd rfl he
        | succ i =>
          rw [ih i (k + 1) (by simpa using h) fun j z hz e => by
            have := hu (j + 1) z (by simpa using hz) e
            omega]
          congr 1
          omega
  have := key xs i 0 hx fun j y hy e => h.id _ _ _ _ hy hx e
  unfold idG
  rw [this]
  congr 1
  omega

theorem self_match {xs : List GLine} (h : GSnd xs) {i : Nat} {x : GLine} (hx : xs[i]? = some x) (hst : ∀ s ∈ x.st, namable s) : matchIds xs (x.st.map patOf) = [x.id] := by
  refine allG_one xs 0 i x hx fun j y hy => ?_
  rw [match_self hst]
  congr 1
  apply propext
  constructor
  · intro e
    exact h.st _ _ _ _ hy hx e
  · rintro rfl
    rw [hy] at hx
    rw [Option.some.inj hx]

theorem below_match {xs : List GLine} (h : GSnd xs) {i : Nat} {x : GLine} (hx : xs[i]? = some x) (hst : ∀ s ∈ x.st, namable s) : belowG xs x.id = matchIds xs (x.st.map patOf ++ [anyP, deepP]) := by
  unfold belowG
  rw [idG_self h hx]
  simp only [Int.toNat_natCast, hx]
  rw [if_neg (by omega)]
  refine allG_congr xs 0 fun j y hy => ?_
  rw [match_below hst]
  unfold belowQ
  rw [Nat.zero_add]
  by_cases hj : j = i
  · subst hj
    rw [hx] at hy
    obtain rfl := Option.some.inj hy
    have : ¬ (x.st.length + 1 ≤ x.st.length ∧ x.st.take x.st.length = x.st) := by omega
    rw [decide_eq_false this]
    simp
  · have h1 : (!decide ((j : Int) = (i : Nat))) = true := by simp; omega
    rw [h1, Bool.true_and, ← Bool.decide_and]
    congr 1
    apply propext
    constructor
    · rintro ⟨a, b⟩
      refine ⟨?_, b⟩
      by_cases hl : y.st.length = x.st.length
      · rw [← hl, List.take_length] at b
        exact absurd (h.st _ _ _ _ hy hx b) hj
      · omega
    · rintro ⟨a, b⟩
      exact ⟨by omega, b⟩
end Go.Sy
namespace Go.Sy
open Go.Proofs

/-! ### GuideBelow -/

theorem snd_gsnd {xs : List GLine} (h : SndK xs xs.length) : GSnd xs := by
  have hst : ∀ (i : Nat) (x : GLine), xs[i]? = some x → lineG xs x.st = i := fun i x hx => (h i x (List.getElem?_eq_some_iff.1 hx).1 hx).1
  have hid : ∀ (d i : Nat) x y, xs[i]? = some x → xs[i + d + 1]? = some y → x.id < y.id := by
    intro d
    induction d with
    | zero =>
      intro i x y hx hy
      exact (h (i + 0 + 1) y (List.getElem?_eq_some_iff.1 hy).1 hy).2 x (by omega) (by simpa using hx)
    | succ d ih =>
      intro i x y hx hy
      have hl := (List.getElem?_eq_some_iff.1 hy).1
      have hz : xs[i + d + 1]? = some (xs[i + d + 1]'(by omega)) := List.getElem?_eq_getElem _
      have h1 := ih i x _ hx hz
      have h2 := (h (i + (d + 1) + 1) y hl hy).2 _ (by omega) (by rw [show i + (d + 1) + 1 - 1 = i + d + 1 by omega]; exact hz)
      omega
  refine ⟨fun i j x y hx hy e => ?_, fun i j x y hx hy e => ?_⟩
  · have h1 := hst i x hx
    have h2 := hst j y hy
    rw [e, h2] at h1
    omega
  · rcases Nat.lt_trichotomy i j with h1 | h1 | h1
    · have := hid (j - i - 1) i x y hx (by rw [show i + (j - i - 1) + 1 = j by omega]; exact hy)
      omega
    · exact h1
    · have := hid (i - j - 1) j y x hy (by rw [show j + (i - j - 1) + 1 = i by omega]; exact hx)
      omega

theorem snd_find {xs : List GLine} (h : SndK xs xs.length) {i : Nat} {x : GLine} (hx : xs[i]? = some x) : findIdG xs x.st = x.id := by
  have hl := (h i x (List.getElem?_eq_some_iff.1 hx).1 hx).1
  unfold findIdG
  rw [hl, Int.toNat_natCast, hx]
  dsimp only
  rw [if_neg (by omega)]

theorem allG_len_le' (q : Nat → GLine → Bool) : ∀ (l : List GLine) (k : Nat), (allG q l k).length ≤ l.length
  | [], _ => Nat.le_refl _
  | x :: l, k => by
    have := allG_len_le' q l (k + 1)
    unfold allG
    split
    · rw [List.length_cons, List.length_cons]; omega
    · rw [List.length_cons]; omega

def ptXs (l : List GPat) : List Value := (ptRows l).flatten.map AT.val
def ptE (bo : Option Addr) (bc : Nat) (l : List GPat) : AE := ⟨bo, l.length, bc, 89, 2, ptXs l⟩
theorem ptXs_append (a b : List GPat) : ptXs (a ++ b) = ptXs a ++ ptXs b := by simp [ptXs, ptRows]
theorem pt_sealed {σ : Snap} {oo : Option Addr} {oc : Nat} {o : List GPat} (h : ArrSealed σ (ptE oo oc o)) (hc : o.length ≤ oc) : SlAt σ oo o.length oc 2 (ptRows o) :=
  h.sl (E := ptE oo oc o) rfl (fun r hr => by
    obtain ⟨k, _, rfl⟩ := List.mem_map.1 hr
    exact ⟨rfl, by simp [ptCells, AT.lt]⟩) (by simp [ptRows]) rfl hc

theorem dot_of {s : ByteArray} {u : UInt8} (hu : s.data.toList[0]? = some u) : prefB s dotP = decide ((u.toNat : Int) = 46) := by
  obtain ⟨l, rfl⟩ := mkB_ex s
  rw [mkB_list] at hu
  cases l with
  | nil => cases hu
  | cons v l =>
    obtain rfl : v = u := by simpa using hu
    have h1 : decide (((mkB (v :: l)).size : Int) ≥ dotP.size) = true := by
      rw [mkB_size]
      exact decide_eq_true (by show ((l.length + 1 : Nat) : Int) ≥ ((1 : Nat) : Int); omega)
    unfold prefB
    rw [h1, Bool.true_and, show (mkB (v :: l)).extract 0 dotP.size = mkB [v] from mkB_extract _ _ _]
    congr 1
    apply propext
    constructor
    · intro h
      have := mkB_inj (show mkB [v] = mkB [46] from h)
      simp only [List.cons.injEq, and_true] at this
      subst this
      rfl
    · intro h
      have : v = 46 := UInt8.toNat_inj.1 (by show v.toNat = 46; omega)
      subst this
      rfl

set_option maxRecDepth 100000 in
set_option maxHeartbeats 1000000 in
theorem GuideBelow_c (σ : Snap) (xs : List GLine) (hl : xs.length * 40 ≤ 140737488355328) (ao : Option Addr) (cap : Nat) (next : Int) (H : SlAt σ ao xs.length cap 3 (lnRows xs)) (hx : ∀ x ∈ xs, LnOk σ x) (i : Int) :
    PlainS Tryd.prog 11 [.agg [.v (.slice ao xs.length cap), .v (.int .i64 next)], .a (.v (.int .i64 i))] σ (fun v => v = .bool true) := by
  refine enter_p Tryd.func11 rfl rfl (by (repeat' (first | exact trivial | refine AllLt.of ?_ | constructor))) fun w => ?_
  (repeat (first | refine cj_seq ?_ | (refine cj_region ?_; refine oj_run TT rfl ?_) | refine oj_then ?_))
  refine oj_callP rfl rfl rfl rfl rfl Tryd.call46 (by (repeat' exact trivial)) (awake13_c σ) fun v hv => ⟨.a .tt, trivial, hv.symm, ?_⟩
  refine oj_run TT rfl ?_
  (repeat (first | refine cj_seq ?_ | (refine cj_region ?_; refine oj_run TT rfl ?_) | refine oj_then ?_))
  refine oj_callP rfl rfl rfl rfl rfl Tryd.call57 (by (repeat' (first | exact trivial | refine AllLt.of ?_ | constructor))) (FewLines_c σ xs hl ao cap next H hx) fun v ⟨fb, hv, hfew⟩ => ⟨.a (.b fb), trivial, hv.symm, ?_⟩
  refine oj_run TT rfl ?_
  refine oj_split 16 rfl (fun h => ?_) (fun h => ?_)
  · refine oj_run TT rfl ?_
    (repeat (first | refine cj_seq ?_ | (refine cj_region ?_; refine oj_run TT rfl ?_) | refine oj_then ?_ | refine cj_if_t rfl ?_ | refine cj_ret ?_ | refine nj_then_ret ?_))
    refine nj_ret TT rfl fun β w' _ _ => ?_
    rfl
  obtain ⟨hl60, hst20⟩ := hfew (by simpa using (show (!fb) = false from h))
  refine oj_run TT rfl ?_
  refine oj_callP rfl rfl rfl rfl rfl Tryd.call58 (by (repeat' (first | exact trivial | refine AllLt.of ?_ | constructor))) (Sound13_c σ xs (by omega) ao cap next H hx) fun v ⟨sb, hv, hsnd⟩ => ⟨.a (.b sb), trivial, hv.symm, ?_⟩
  refine oj_run TT rfl ?_
  refine oj_split 21 rfl (fun h => ?_) (fun h => ?_)
  · refine oj_run TT rfl ?_
    (repeat (first | refine cj_seq ?_ | (refine cj_region ?_; refine oj_run TT rfl ?_) | refine oj_then ?_ | refine cj_if_t rfl ?_ | refine cj_ret ?_ | refine nj_then_ret ?_))
    refine nj_ret TT rfl fun β w' _ _ => ?_
    rfl
  have hsnd := hsnd (by simpa using (show (!sb) = false from h))
  have hG := snd_gsnd hsnd
  refine oj_run TT rfl ?_
  (repeat refine oj_then ?_)
  refine cj_if rfl (fun h => ?_) (fun h => ?_)
  · (repeat (first | refine cj_seq ?_ | (refine cj_region ?_; refine oj_run TT rfl ?_) | refine oj_then ?_ | refine cj_ret ?_ | refine nj_then_ret ?_))
    refine nj_ret TT rfl fun β w' _ _ => ?_
    rfl
  have hpos : 0 < xs.length := by
    have : ¬ (xs.length : Int) = 0 := of_decide_eq_false h
    omega
  (repeat (first | refine cj_seq ?_ | (refine cj_region ?_; refine oj_run TT rfl ?_) | refine cj_skip ?_ | refine nj_then ?_))
  refine oj_callS rfl rfl rfl rfl rfl Tryd.call59 (by (repeat' (first | exact trivial | refine AllLt.of ?_ | constructor))) (ours13_c σ xs (by omega) ao cap next H) fun v σ1 hle1 ⟨bo, bc, hv, H1⟩ => ⟨.agg [.v (.slice bo xs.length bc), .v (.int .i64 next)], (by (repeat' (first | exact trivial | refine AllLt.of ?_ | constructor))), hv.symm, ?_⟩
  have hx := fun x h => (hx x h).mono hle1
  refine oj_run TT rfl ?_
  (repeat (first | refine cj_seq ?_ | refine oj_then ?_))
  refine cj_draw [(0,.pure),(1,.quiet),(2,.pure),(3,.pure),(4,.pure),(5,.quiet),(6,.pure),(7,.pure),(8,.pure),(9,.quiet),(10,.keep),(11,.sink)] mixed (by kernel_rfl) (oj_run TT rfl ?_)
  have hmi := bAnd_le i 65535 (by omega) (by omega)
  (repeat (refine oj_band rfl rfl rfl rfl rfl rfl ?_; refine oj_run TT rfl ?_))
  generalize bAnd .i64 i 65535 = m1 at hmi ⊢
  refine oj_rem rfl rfl rfl rfl rfl rfl (by omega) ?_
  obtain ⟨a, ha⟩ : ∃ a : Nat, m1.tmod xs.length = a := ⟨(m1.tmod xs.length).toNat, by
    have := Int.tmod_nonneg (xs.length : Int) hmi.1
    omega⟩
  have hal : a < xs.length := by
    have := Int.tmod_lt_of_pos m1 (show (0 : Int) < xs.length by omega)
    omega
  rw [ha]
  have hxa : xs[a]? = some xs[a] := List.getElem?_eq_getElem hal
  have hrow := lnRows_get hxa
  have hxo := hx xs[a] (List.getElem_mem hal)
  have hx20 := hst20 xs[a] (List.getElem_mem hal)
  generalize xs[a] = x at *
  refine oj_run TT rfl ?_
  refine oj_idx TT rfl rfl rfl rfl rfl rfl rfl rfl rfl H1 (by omega) hrow (oj_run TT rfl ?_)
  (repeat (first | refine cj_seq ?_ | (refine cj_region ?_; refine oj_run TT rfl ?_) | refine oj_then ?_ | refine cj_block ?_))
  refine cj_nilarr 89 2 ?_
  skip
  refine cj_cutB (fun (_ : Option Addr × Nat) => σ1) (fun s => [(5, .a .tt), (6, .a (.p 1 0)), (7, .a (.p 3 0)), (8, .a (.v (.slice s.1 (x.st.map patOf).length s.2)))]) (fun _ => [(1, .loc 71, [.v (.slice bo xs.length bc), .v (.int .i64 next)]), (3, .loc 85, lnCells x)])
    (fun s => [ptE s.1 s.2 (x.st.map patOf)]) 4 (fun s => (∀ t ∈ x.st, namable t) ∧ x.st.length ≤ s.2) ?_ (fun s hs => ?_)
  · refine cj_loop2 (fun _ (_ : Option Addr × Nat) => σ1) (fun (k : Nat) s => [(5, .a .tt), (6, .a (.p 1 0)), (7, .a (.p 3 0)), (8, .a (.v (.slice s.1 (x.st.take k).length s.2))), (9, .a (.v (.int .i64 k)))])
      (fun k s => [(1, .loc 71, [.v (.slice bo xs.length bc), .v (.int .i64 next)]), (3, .loc 85, lnCells x)]) (fun k s => [ptE s.1 s.2 ((x.st.take k).map patOf)]) 4
      (fun k s => k ≤ x.st.length ∧ k ≤ s.2 ∧ ∀ t ∈ x.st.take k, namable t) (fun k _ => x.st.length - k) 0 (none, 0) ⟨Nat.zero_le _, Nat.le_refl _, fun t h => by simp at h⟩ rfl (by (repeat (first | exact trivial | refine And.intro rfl ?_))) (by (repeat (first | exact trivial | refine And.intro rfl ?_))) rfl (by (repeat' (first | exact trivial | exact Nat.le_of_ble_eq_true rfl | constructor))) (by (repeat' (first | exact trivial | exact Nat.le_of_ble_eq_true rfl | refine AllLt.of ?_ | constructor))) fun k ⟨po, pc⟩ ⟨hk, hpc, hnm⟩ => ?_
    dsimp only at hpc ⊢
    (repeat (first | refine cj_seq ?_ | (refine cj_region ?_; refine oj_run TT rfl ?_) | refine oj_then ?_))
    refine cj_if rfl (fun h => ?_) (fun h => ?_)
    rotate_left
    · have hk0 : k = x.st.length := by have := of_decide_eq_false h; omega
      subst hk0
      rw [List.take_length] at hnm ⊢
      (repeat (first | refine cj_exit ?_ | refine nj_then_exit ?_ | refine nj_block_out ?_))
      refine nj_again (po, pc) ⟨hnm, hpc⟩ Nat.zero_lt_one rfl ?_ (by (repeat (first | exact trivial | refine And.intro rfl ?_))) rfl (by (repeat' (first | exact trivial | exact Nat.le_of_ble_eq_true rfl | constructor))) (by (repeat' (first | exact trivial | exact Nat.le_of_ble_eq_true rfl | refine AllLt.of ?_ | constructor)))
      dsimp only
      rw [List.length_map]
      (repeat (first | exact trivial | refine And.intro rfl ?_))
    have hkl : k < x.st.length := by have := of_decide_eq_true h; omega
    have hsr := strRows_get (List.getElem?_eq_getElem hkl)
    have htk : x.st.take (k + 1) = x.st.take k ++ [x.st[k]] := List.take_succ_eq_append_getElem hkl
    have hlk : (x.st.take k).length = k := by rw [List.length_take]; omega
    have hlk1 : (x.st.take (k + 1)).length = k + 1 := by rw [List.length_take]; omega
    have hE0 : ptE po pc ((x.st.take k).map patOf) = ⟨po, k, pc, 89, 2, ptXs ((x.st.take k).map patOf)⟩ := by unfold ptE; rw [List.length_map, hlk]
    have hxl := hxo.1
    generalize x.st[k] = s at *
    have hnext : namable s → ∀ t ∈ x.st.take (k + 1), namable t := fun h t ht => by
      rw [htk] at ht
      rcases List.mem_append.1 ht with ht | ht
      · exact hnm t ht
      · rw [List.mem_singleton.1 ht]; exact h
    have hE1 : ∀ po' pc', ptE po' pc' ((x.st.take (k + 1)).map patOf) = ⟨po', k + 1, pc', 89, 2, ptXs ((x.st.take k).map patOf) ++ (ptCells (patOf s)).map AT.val⟩ := fun po' pc' => by
      unfold ptE
      rw [List.length_map, hlk1, htk, List.map_append, ptXs_append]
      rfl
    rw [hlk, hE0]
    (repeat (first | refine cj_seq ?_ | (refine cj_region ?_; refine oj_run TT rfl ?_) | refine cj_skip ?_ | refine cj_block ?_ | refine nj_then ?_))
    refine oj_idx TT rfl rfl rfl rfl rfl rfl rfl rfl rfl hxo.2 (by omega) hsr (oj_run TT rfl ?_)
    (repeat (first | refine cj_seq ?_ | (refine cj_region ?_; refine oj_run TT rfl ?_) | refine oj_then ?_ | refine cj_block ?_))
    refine cj_if rfl (fun h => ?_) (fun h => ?_)
    · have h : s = elemP := of_decide_eq_true h
      have hpo : patOf s = ⟨3, emptyS⟩ := by unfold patOf; rw [if_pos h]
      rw [hpo] at hE1
      (repeat (refine cj_region ?_; refine oj_run TT rfl ?_))
      refine oj_append_lit TT 0 rfl rfl rfl rfl rfl rfl rfl rfl rfl rfl rfl rfl rfl rfl rfl rfl rfl rfl (by (repeat' (first | exact trivial | refine AllLt.of ?_ | constructor))) rfl (by omega) (by show (k + 1) * 24 ≤ _; omega) fun ao' cap' hcap' => oj_run TT rfl ?_
      (repeat (first | (refine cj_region ?_; refine oj_run TT rfl ?_) | refine oj_nil ?_ | refine nj_then ?_ | refine nj_block ?_ | (refine oj_add rfl rfl rfl rfl rfl rfl (by omega) ?_; refine oj_run TT rfl ?_)))
      refine nj_again (k + 1, (ao', cap')) ⟨hkl, hcap', hnext (.inl h)⟩ (by dsimp only; omega) rfl ?_ (by (repeat (first | exact trivial | refine And.intro rfl ?_))) ?_ (by (repeat' (first | exact trivial | exact Nat.le_of_ble_eq_true rfl | constructor))) (by (repeat' (first | exact trivial | exact Nat.le_of_ble_eq_true rfl | refine AllLt.of ?_ | constructor)))
      · dsimp only
        rw [hlk1]
        (repeat (first | exact trivial | refine And.intro rfl ?_))
      · dsimp only
        rw [hE1]
        rfl
    have hne : ¬ s = elemP := of_decide_eq_false h
    (repeat (first | refine cj_seq ?_ | (refine cj_region ?_; refine oj_run TT rfl ?_)))
    refine oj_split 64 rfl (fun h1 => ?_) (fun h1 => ?_)
    rotate_left
    · refine oj_run TT rfl ?_
      (repeat (first | refine cj_seq ?_ | (refine cj_region ?_; refine oj_run TT rfl ?_) | refine oj_then ?_ | refine cj_if_f rfl ?_ | refine cj_ret ?_ | refine nj_then_ret ?_ | refine nj_block_ret ?_))
      refine nj_ret TT rfl fun β w' _ _ => ?_
      rfl
    have h1 : decide ((s.size : Int) > 0) = true := h1
    have hs0 : 0 < s.size := by have := of_decide_eq_true h1; omega
    have hsl : s.data.toList.length = s.size := Array.length_toList
    obtain ⟨u, hu⟩ : ∃ u, s.data.toList[0]? = some u := ⟨_, List.getElem?_eq_getElem (by omega)⟩
    have hdot := dot_of hu
    refine oj_run TT rfl ?_
    refine oj_index_str TT rfl rfl rfl rfl rfl rfl rfl rfl (by omega) hu (oj_run TT rfl ?_)
    (repeat refine oj_then ?_)
    refine cj_if rfl (fun h => ?_) (fun h => ?_)
    rotate_left
    · (repeat (first | refine cj_seq ?_ | (refine cj_region ?_; refine oj_run TT rfl ?_) | refine oj_then ?_ | refine cj_ret ?_ | refine nj_then_ret ?_ | refine nj_block_ret ?_))
      refine nj_ret TT rfl fun β w' _ _ => ?_
      rfl
    · have h : decide ((u.toNat : Int) = 46) = true := h
      rw [h] at hdot
      have hcut : cutB s dotP = s.extract 1 s.size := by unfold cutB; rw [if_pos hdot]; rfl
      have hpo : patOf s = ⟨1, s.extract 1 s.size⟩ := by unfold patOf; rw [if_neg hne, hcut]
      rw [hpo] at hE1
      (repeat (refine cj_region ?_; refine oj_run TT rfl ?_))
      refine oj_slice_str TT 1 s.size rfl rfl rfl rfl rfl rfl rfl rfl rfl (.inr ⟨_, _, rfl, rfl⟩) (.inl ⟨rfl, rfl⟩) hs0 (Nat.le_refl _) (oj_run TT rfl ?_)
      skip
      refine oj_append_lit TT 0 rfl rfl rfl rfl rfl rfl rfl rfl rfl rfl rfl rfl rfl rfl rfl rfl rfl rfl (by (repeat' (first | exact trivial | refine AllLt.of ?_ | constructor))) rfl (by omega) (by show (k + 1) * 24 ≤ _; omega) fun ao' cap' hcap' => oj_run TT rfl ?_
      (repeat (first | (refine cj_region ?_; refine oj_run TT rfl ?_) | refine oj_nil ?_ | refine nj_then ?_ | refine nj_block ?_ | (refine oj_add rfl rfl rfl rfl rfl rfl (by omega) ?_; refine oj_run TT rfl ?_)))
      refine nj_again (k + 1, (ao', cap')) ⟨hkl, hcap', hnext (.inr hdot)⟩ (by dsimp only; omega) rfl ?_ (by (repeat (first | exact trivial | refine And.intro rfl ?_))) ?_ (by (repeat' (first | exact trivial | exact Nat.le_of_ble_eq_true rfl | constructor))) (by (repeat' (first | exact trivial | exact Nat.le_of_ble_eq_true rfl | refine AllLt.of ?_ | constructor)))
      · dsimp only
        rw [hlk1]
        (repeat (first | exact trivial | refine And.intro rfl ?_))
      · dsimp only
        rw [hE1]
        rfl
  obtain ⟨po, pc⟩ := s
  obtain ⟨hnm, hpc⟩ := hs
  dsimp only at hpc ⊢
  have hself := self_match hG hxa hnm
  have hbelow := below_match hG hxa hnm
  have hpl : (x.st.map patOf).length = x.st.length := List.length_map ..
  (repeat (first | refine cj_seq ?_ | (refine cj_region ?_; refine oj_run TT rfl ?_)))
  refine oj_peekF (Φ := fun v A' => ∃ oo oc, v = .slice oo (matchIds xs (x.st.map patOf)).length oc ∧ (matchIds xs (x.st.map patOf)).length ≤ oc ∧ A' = [idE oo oc (matchIds xs (x.st.map patOf))]) rfl rfl rfl rfl rfl Tryd.call55 (by (repeat' (first | exact trivial | refine AllLt.of ?_ | constructor))) (fun σ' h1 h2 => Match_f σ' xs (by omega) bo bc next (H1.mono h1) (fun y h => (hx y h).mono h1) (x.st.map patOf) (by omega) po pc (pt_sealed (h2 0 _ rfl) (by omega))) fun v A' ⟨oo, oc, hv, hoc, hA⟩ => ⟨.a (.v (.slice oo (matchIds xs (x.st.map patOf)).length oc)), trivial, hv.symm, ?_⟩
  subst hA
  rw [hself] at hoc ⊢
  refine oj_run TT rfl ?_
  (repeat (first | refine cj_seq ?_ | (refine cj_region ?_; refine oj_run TT rfl ?_) | refine oj_then ?_))
  refine oj_seal 1 rfl rfl rfl fun σ2 hle2 hS => ?_
  have S1 := id_sealed hS hoc
  have hx := fun y h => (hx y h).mono hle2
  have H1 := H1.mono hle2
  refine oj_append_lit TT 0 rfl rfl rfl rfl rfl rfl rfl rfl rfl rfl rfl rfl rfl rfl rfl rfl rfl rfl (by (repeat' (first | exact trivial | refine AllLt.of ?_ | constructor))) rfl (by omega) (by show ((x.st.map patOf).length + 2) * 24 ≤ _; omega) fun po2 pc2 hpc2 => ?_
  have hE2 : (⟨po2, (x.st.map patOf).length + 2, pc2, 89, 2, ptXs (x.st.map patOf) ++ (ptCells anyP ++ ptCells deepP).map AT.val⟩ : AE) = ptE po2 pc2 (x.st.map patOf ++ [anyP, deepP]) := by
    unfold ptE
    rw [ptXs_append, List.length_append]
    rfl
  refine oj_seal 0 rfl rfl rfl fun σ4 hle4 hS4 => ?_
  have SP : SlAt σ4 po2 (x.st.map patOf ++ [anyP, deepP]).length pc2 2 (ptRows (x.st.map patOf ++ [anyP, deepP])) := pt_sealed (by rw [← hE2]; exact hS4) (by rw [List.length_append]; exact hpc2)
  have hx := fun y h => (hx y h).mono hle4
  have H1 := H1.mono hle4
  have S1 := S1.mono hle4
  refine oj_run TT rfl ?_
  (repeat (first | refine cj_seq ?_ | refine oj_then ?_))
  have hfind := snd_find hsnd hxa
  have hpl2 : (x.st.map patOf).length + 2 = (x.st.map patOf ++ [anyP, deepP]).length := by rw [List.length_append]; rfl
  rw [hpl2]
  have hpl3 : (x.st.map patOf ++ [anyP, deepP]).length ≤ 1000000 := by omega
  generalize x.st.map patOf ++ [anyP, deepP] = PS at *
  refine cj_draw [(0,.pure),(1,.pure),(2,.pure),(3,.pure),(4,.pure),(5,.pure),(6,.pure),(7,.pure),(8,.pure),(9,.quiet),(10,.pure),(11,.quiet),(12,.pure),(13,.pure),(14,.pure),(15,.quiet),(16,.pure),(17,.quiet),(19,.quiet),(20,.pure),(18,.keep),(21,.keep),(22,.keep),(23,.pure),(24,.pure),(25,.quiet),(26,.pure),(27,.quiet),(29,.pure),(30,.quiet),(28,.keep),(31,.pure),(32,.pure),(33,.pure)] mixed (by kernel_rfl) (oj_run TT rfl ?_)
  refine oj_split 89 rfl (fun _ => ?_) (fun h => absurd (show decide ((([x.id] : List Int).length : Int) = 1) = false from h) (by simp))
  refine oj_run TT rfl ?_
  refine oj_idx TT rfl rfl rfl rfl rfl rfl rfl rfl rfl S1 (by omega) (idRows_get (i := 0) (x := x.id) rfl) (oj_run TT rfl ?_)
  refine oj_split 97 rfl (fun _ => ?_) (fun h => absurd (show decide (x.id = x.id) = false from h) (by simp))
  refine oj_run TT rfl ?_
  refine oj_callS rfl rfl rfl rfl rfl Tryd.call56 (by (repeat' (first | exact trivial | refine AllLt.of ?_ | constructor))) (Below_c σ4 xs (by omega) bo bc next H1 hx x.id) fun v σ3 hle3 ⟨ob, cb, hv, SB⟩ => ⟨.a (.v (.slice ob (belowG xs x.id).length cb)), trivial, hv.symm, ?_⟩
  have hx := fun y h => (hx y h).mono hle3
  have H1 := H1.mono hle3
  refine oj_run TT rfl ?_
  refine oj_callS rfl rfl rfl rfl rfl Tryd.call55 (by (repeat' (first | exact trivial | refine AllLt.of ?_ | constructor))) (Match_c σ3 xs (by omega) bo bc next H1 hx PS hpl3 po2 pc2 (SP.mono hle3)) fun v σ5 hle5 ⟨om, cm, hv, SM⟩ => ⟨.a (.v (.slice om (matchIds xs PS).length cm)), trivial, hv.symm, ?_⟩
  have hx := fun y h => (hx y h).mono hle5
  have H1 := H1.mono hle5
  have SB := SB.mono hle5
  have hbl : (belowG xs x.id).length ≤ 140737488355328 := by
    rw [hbelow]
    exact Nat.le_trans (allG_len_le' _ xs 0) (by omega)
  refine oj_run TT rfl ?_
  refine oj_callP rfl rfl rfl rfl rfl Tryd.call38 (by (repeat' (first | exact trivial | constructor))) (SameInts_c σ5 _ _ hbl ob om cb cm SB SM) fun v hv => ⟨.a .tt, trivial, (by rw [hv, decide_eq_true hbelow]; rfl), ?_⟩
  refine oj_run TT rfl ?_
  refine oj_callP rfl rfl rfl rfl rfl Tryd.call49 (by (repeat' (first | exact trivial | refine AllLt.of ?_ | constructor))) (FindGd_c σ5 xs (by omega) bo bc next H1 hx x.st x.ao x.cap ((hxo.2.mono (Snap.le_trans hle2 (Snap.le_trans hle4 (Snap.le_trans hle3 hle5)))))) fun v hv => ⟨.a (.v (.int .i64 x.id)), trivial, (by rw [hv, hfind]; rfl), ?_⟩
  refine oj_run TT rfl ?_
  (repeat (first | refine oj_then ?_ | refine cj_ret ?_))
  refine nj_ret TT rfl fun β w' _ _ => ?_
  show Value.bool (decide (x.id = x.id)) = _
  rw [decide_eq_true rfl]
end Go.Sy
/- From a row's data to what the walks ask: a value that is read in the world is a tree that lies in memory, all of it sealed. -/
namespace Go.Sy
open Go.ChangeShapes Go.RowKit

def snapOf (W : World) : Snap := fun b => W.heap[b]?
theorem snapOf_sealed (W : World) : Sealed (snapOf W) W := fun _ _ h => h
theorem snapOf_cell (W : World) (a : Addr) : (snapOf W).cell a = W.cell? a := rfl

/-- The types of a value: itself, its list, its members, a member, its number, text, number, truth. -/
structure VT (P : Program) (tV tL tM tE tD tS tI tB : TypeId) : Prop where
  v : ∃ fs : Array Field, P.underlying tV = some (.struct fs) ∧ fs.toList.map (fun f => (f.type, f.offset)) = [(tI, 0), (tB, 1), (tD, 2), (tS, 5), (tL, 6), (tM, 7)]
  l : P.underlying tL = some (.slice tV)
  m : P.underlying tM = some (.slice tE)
  e : ∃ fs : Array Field, P.underlying tE = some (.struct fs) ∧ fs.toList.map (fun f => (f.type, f.offset)) = [(tS, 0), (tV, 1)]
  d : ∃ fs : Array Field, P.underlying tD = some (.struct fs) ∧ fs.toList.map (fun f => (f.type, f.offset)) = [(tB, 0), (tS, 1), (tI, 2)]
  s : P.underlying tS = some .string
  i : P.underlying tI = some (.int .i64)
  b : P.underlying tB = some .bool
  cV : P.cellsOf tV = 8
  cE : P.cellsOf tE = 9
  cD : P.cellsOf tD = 3
  cS : P.cellsOf tS = 1
  cI : P.cellsOf tI = 1
  cB : P.cellsOf tB = 1
  cL : P.cellsOf tL = 1
  cM : P.cellsOf tM = 1
  bV : 0 < P.bytesOf tV
  bE : 0 < P.bytesOf tE

section
variable {H : Type} {enc : TypeId × Value → H} {P : Program} {w : World} {sp : Nat → Bool} {held : Bool}

theorem field_at {fs : Array Field} {l : List (TypeId × Nat)} (h : fs.toList.map (fun f => (f.type, f.offset)) = l) {i : Nat} {t : TypeId} {o : Nat} (hi : l[i]? = some (t, o)) :
    ∃ f, fs[i]? = some f ∧ f.type = t ∧ f.offset = o := by
  subst h
  rw [List.getElem?_map] at hi
  simp only [Option.map_eq_some_iff, Prod.mk.injEq] at hi
  obtain ⟨f, h1, h2, h3⟩ := hi
  exact ⟨f, by simpa using h1, h2, h3⟩

theorem open_struct {t : TypeId} {fs : Array Field} {l : List (TypeId × Nat)} {n : Nat} {cs : List Value} {x : DataW H × List MemPlace} (hu : P.underlying t = some (.struct fs)) (hl : fs.toList.map (fun f => (f.type, f.offset)) = l)
    (h : DataW.trod enc P w 0 sp held n t cs = some x) :
    ∃ m, m < n ∧ cs.length = P.cellsOf t ∧ ∀ (i : Nat) (u : TypeId) (o : Nat), l[i]? = some (u, o) → ∃ y : DataW H × List MemPlace, DataW.trod enc P w 0 sp held m u ((cs.drop o).take (P.cellsOf u)) = some y ∧ ∀ k ∈ y.1.weights P u, k ∈ x.1.weights P t := by
  obtain ⟨xs, m, rfl, rfl, h1, h2, h3⟩ := DataW.trod_struct hu h
  refine ⟨m, by omega, h1, fun i u o hi => ?_⟩
  obtain ⟨f, hf, rfl, rfl⟩ := field_at hl hi
  have hi' : i < xs.length := by
    rw [h2]
    have := (List.getElem?_eq_some_iff.1 (show fs.toList[i]? = some f by simpa using hf)).1
    simpa using this
  refine ⟨xs[i], by rw [h3 i f hf, List.getElem?_eq_getElem hi'], fun k hk => ?_⟩
  rw [DataW.weights.eq_def]
  simp only [hu]
  exact DataW.weights_mem_each (j := i) (t := f.type) (d := xs[i].1) (by simp; exact ⟨f, by simpa using hf, rfl⟩) (by simp [List.getElem?_eq_getElem hi']) k hk

theorem weightsAll_mem {e : TypeId} : ∀ {ds : List (DataW H)} {d : DataW H}, d ∈ ds → ∀ k ∈ d.weights P e, k ∈ DataW.weightsAll P e ds
  | _ :: _, _, .head _, k, hk => by rw [DataW.weightsAll]; exact List.mem_append_left _ hk
  | _ :: _, _, .tail _ h, k, hk => by rw [DataW.weightsAll]; exact List.mem_append_right _ (weightsAll_mem h k hk)

theorem open_sl {t e : TypeId} {n sz : Nat} {c : Value} {x : DataW H × List MemPlace} (hu : P.underlying t = some (.slice e)) (hc : P.cellsOf e = sz) (hb : 0 < P.bytesOf e) (h : DataW.trod enc P w 0 sp held n t [c] = some x)
    (hw : ∀ k ∈ x.1.weights P t, k ≤ reachBytes) :
    ∃ (ao : Option Addr) (len cap m : Nat), c = .slice ao len cap ∧ m < n ∧ len ≤ cap ∧ len ≤ reachBytes ∧
      (len = 0 ∨ ∃ a, ao = some a ∧ ∀ i, i < len → ∃ (cs : List Value) (y : DataW H × List MemPlace), cs.length = sz ∧ (∀ j v, cs[j]? = some v → w.cell? (a.add (i * sz + j)) = some v) ∧
        DataW.trod enc P w 0 sp held m e cs = some y ∧ ∀ k ∈ y.1.weights P e, k ∈ x.1.weights P t) := by
  rcases DataW.trod_slice hu h with ⟨h1, rfl⟩ | ⟨a, len, cap, elems, rest, m, rfl, h1, rfl, _, h3, h4, h5, h6, _, _⟩
  · injection h1 with h1
    subst h1
    refine ⟨none, 0, 0, 0, rfl, ?_, Nat.le_refl _, by decide, .inl rfl⟩
    cases n with
    | zero => simp [DataW.trod] at h
    | succ n => omega
  · injection h1 with h1
    subst h1
    have hwt : (DataW.slice (elems.map (·.1)) (rest.map (·.1)) : DataW H).weights P t = ((elems.map (·.1)).length + (rest.map (·.1)).length) * P.bytesOf e :: (DataW.weightsAll P e (elems.map (·.1)) ++ DataW.weightsAll P e (rest.map (·.1))) := by
      rw [DataW.weights.eq_def]
      simp only [hu]
    refine ⟨some a, len, cap, m, rfl, by omega, h3, ?_, .inr ⟨a, rfl, fun i hi => ?_⟩⟩
    · have := hw _ (by rw [hwt]; exact List.mem_cons_self)
      simp only [List.length_map] at this
      have h7 : elems.length ≤ (elems.length + rest.length) * P.bytesOf e := Nat.le_trans (Nat.le_add_right _ _) (Nat.le_mul_of_pos_right _ hb)
      omega
    · have hi' : i < elems.length := by omega
      have h8 := h6 i hi
      rw [List.getElem?_eq_getElem hi', hc] at h8
      obtain ⟨cs, h9, h10⟩ := Option.bind_eq_some_iff.1 h8
      obtain ⟨_, h11, h12⟩ := World.cells?_some h9
      refine ⟨cs, elems[i], h11, fun j v hj => ?_, h10, fun k hk => ?_⟩
      · have hj' : j < sz := by rw [← h11]; exact (List.getElem?_eq_some_iff.1 hj).1
        have := h12 j hj'
        rw [hj] at this
        rw [← this]
        congr 1
        exact (Addr.add_add _ _ _).symm
      · rw [hwt]
        exact List.mem_cons_of_mem _ (List.mem_append_left _ (weightsAll_mem (List.mem_map.2 ⟨elems[i], List.getElem_mem hi', rfl⟩) k hk))

theorem RepL.range {σ : Snap} {G : Nat → GVal} {R : Nat → List AT} : ∀ l : List Nat, (∀ i ∈ l, RepV σ (G i) (R i)) → RepL σ (l.map G) (l.map R)
  | [], _ => by simp [RepL]
  | a :: l, h => by
    simp only [List.map_cons, RepL]
    exact ⟨R a, l.map R, rfl, h a List.mem_cons_self, RepL.range l fun i hi => h i (List.mem_cons_of_mem _ hi)⟩

theorem keyRows_range (K : Nat → ByteArray) (R : Nat → List AT) : ∀ l : List Nat, keyRows (l.map K) (l.map R) = l.map fun i => keyRow (K i) (R i)
  | [] => rfl
  | a :: l => by simp [keyRows, keyRows_range K R l]

/-- What each of its elements is, read off the memory. -/
theorem slAt_range {ao : Option Addr} {len cap sz : Nat} {R : Nat → List AT} (h1 : len ≤ cap) (h2 : ∀ i, i < len → (R i).length = sz ∧ ∀ c ∈ R i, c.lt 0)
    (h3 : len = 0 ∨ ∃ a, ao = some a ∧ ∀ i, i < len → ∀ j v, ((R i).map (AT.den β0))[j]? = some v → w.cell? (a.add (i * sz + j)) = some v) : SlAt (snapOf w) ao len cap sz ((List.range len).map R) := by
  refine ⟨by simp, h1, fun r hr => ?_, ?_⟩
  · obtain ⟨i, hi, rfl⟩ := List.mem_map.1 hr
    exact h2 i (List.mem_range.1 hi)
  · rcases h3 with h3 | ⟨a, h3, h4⟩
    · exact .inl h3
    · refine .inr ⟨a, h3, fun i r j c hr hc => ?_⟩
      rw [List.getElem?_map] at hr
      obtain ⟨i', h5, rfl⟩ := Option.map_eq_some_iff.1 hr
      obtain ⟨h6, h7⟩ := List.getElem?_eq_some_iff.1 h5
      have h8 : i < len := by simpa using h6
      have h9 : i' = i := by simpa using h7.symm
      subst h9
      rw [snapOf_cell]
      exact h4 i' h8 j _ (by rw [List.getElem?_map, hc]; rfl)

variable {tV tL tM tE tD tS tI tB : TypeId}

theorem open_str {n : Nat} {t : TypeId} {c : Value} {x : DataW H × List MemPlace} (hu : P.underlying t = some .string) (h : DataW.trod enc P w 0 sp held n t [c] = some x) (hw : ∀ k ∈ x.1.weights P t, k ≤ reachBytes) :
    ∃ s : ByteArray, c = .string s ∧ s.size ≤ mostLen := by
  obtain ⟨s, h1, rfl, _⟩ := DataW.trod_string hu h
  injection h1 with h1
  subst h1
  refine ⟨s, rfl, ?_⟩
  have := hw s.data.toList.length (by rw [DataW.weights.eq_def]; exact List.mem_cons_self)
  have h2 : s.data.toList.length = s.size := rfl
  rw [h2] at this
  exact this

/-- A VALUE THAT IS READ is a tree, and lies there. -/
theorem open_val (T : VT P tV tL tM tE tD tS tI tB) : ∀ (n : Nat) (cs : List Value) (x : DataW H × List MemPlace), DataW.trod enc P w 0 sp held n tV cs = some x → (∀ k ∈ x.1.weights P tV, k ≤ reachBytes) →
    ∃ (g : GVal) (r : List AT), cs = r.map (AT.den β0) ∧ RepV (snapOf w) g r := by
  intro n
  induction n using Nat.strongRecOn with
  | _ n ih => ?_
  intro cs x h hw
  obtain ⟨fs, hu, hl⟩ := T.v
  obtain ⟨m, hm, hlen, hf⟩ := open_struct hu hl h
  rw [T.cV] at hlen
  match cs, hlen with
  | [c0, c1, c2, c3, c4, c5, c6, c7], _ =>
  obtain ⟨y0, h0, _⟩ := hf 0 tI 0 rfl
  obtain ⟨y1, h1, _⟩ := hf 1 tB 1 rfl
  obtain ⟨y2, h2, w2⟩ := hf 2 tD 2 rfl
  obtain ⟨y3, h3, w3⟩ := hf 3 tS 5 rfl
  obtain ⟨y4, h4, w4⟩ := hf 4 tL 6 rfl
  obtain ⟨y5, h5, w5⟩ := hf 5 tM 7 rfl
  rw [T.cI] at h0
  rw [T.cB] at h1
  rw [T.cD] at h2
  rw [T.cS] at h3
  rw [T.cL] at h4
  rw [T.cM] at h5
  simp only [List.drop_zero, List.drop_succ_cons, List.take_succ_cons, List.take_zero] at h0 h1 h2 h3 h4 h5
  obtain ⟨k, e0, -, -⟩ := DataW.trod_int T.i h0
  obtain ⟨b, e1, -⟩ := DataW.trod_bool T.b h1
  obtain ⟨s, e5, hs⟩ := open_str T.s h3 fun k hk => hw k (w3 k hk)
  obtain ⟨fd, hud, hld⟩ := T.d
  obtain ⟨md, hmd, -, hfd⟩ := open_struct hud hld h2
  obtain ⟨z0, g0, _⟩ := hfd 0 tB 0 rfl
  obtain ⟨z1, g1, v1⟩ := hfd 1 tS 1 rfl
  obtain ⟨z2, g2, _⟩ := hfd 2 tI 2 rfl
  rw [T.cB] at g0
  rw [T.cS] at g1
  rw [T.cI] at g2
  simp only [List.drop_zero, List.drop_succ_cons, List.take_succ_cons, List.take_zero] at g0 g1 g2
  obtain ⟨ng, e2, -⟩ := DataW.trod_bool T.b g0
  obtain ⟨dg, e3, hdg⟩ := open_str T.s g1 fun k hk => hw k (w2 k (v1 k hk))
  obtain ⟨ex, e4, -, -⟩ := DataW.trod_int T.i g2
  injection e0 with e0
  injection e1 with e1
  injection e2 with e2
  injection e4 with e4
  subst e0 e1 e2 e3 e4 e5
  obtain ⟨la, ll, lc, ml, rfl, hml, hll, hlr, hle⟩ := open_sl T.l T.cV T.bV h4 fun k hk => hw k (w4 k hk)
  obtain ⟨ma, lm, mc, mm, rfl, hmm, hlm, hmr, hme⟩ := open_sl T.m T.cE T.bE h5 fun k hk => hw k (w5 k hk)
  have HL : ∀ i, ∃ gr : GVal × List AT, i < ll → RepV (snapOf w) gr.1 gr.2 ∧ ∀ a, la = some a → ∀ j v, (gr.2.map (AT.den β0))[j]? = some v → w.cell? (a.add (i * 8 + j)) = some v := by
    intro i
    by_cases hi : i < ll
    · rcases hle with h0 | ⟨a, rfl, hle⟩
      · omega
      · obtain ⟨cs, y, _, q2, q3, q4⟩ := hle i hi
        obtain ⟨g, r, rfl, hr⟩ := ih ml (by omega) cs y q3 fun k hk => hw k (w4 k (q4 k hk))
        exact ⟨(g, r), fun _ => ⟨hr, fun a' ha => by injection ha with ha; subst ha; exact q2⟩⟩
    · exact ⟨(.mk 0 false ⟨false, ⟨#[]⟩, 0⟩ ⟨#[]⟩ [] [] [], []), fun h => absurd h hi⟩
  have HM : ∀ i, ∃ gr : ByteArray × GVal × List AT, i < lm → gr.1.size ≤ mostLen ∧ RepV (snapOf w) gr.2.1 gr.2.2 ∧ ∀ a, ma = some a → ∀ j v, ((keyRow gr.1 gr.2.2).map (AT.den β0))[j]? = some v → w.cell? (a.add (i * 9 + j)) = some v := by
    intro i
    by_cases hi : i < lm
    · rcases hme with h0 | ⟨a, rfl, hme⟩
      · omega
      · obtain ⟨cs, y, q1, q2, q3, q4⟩ := hme i hi
        obtain ⟨fe, hue, hle'⟩ := T.e
        obtain ⟨me, hme', -, hfe⟩ := open_struct hue hle' q3
        obtain ⟨u0, p0, x0⟩ := hfe 0 tS 0 rfl
        obtain ⟨u1, p1, x1⟩ := hfe 1 tV 1 rfl
        rw [T.cS] at p0
        rw [T.cV] at p1
        match cs, q1 with
        | c :: cs', q1 =>
          simp only [List.drop_zero, List.drop_succ_cons, List.take_succ_cons, List.take_zero] at p0 p1
          rw [List.take_of_length_le (by simp at q1; omega)] at p1
          obtain ⟨key, rfl, hk⟩ := open_str T.s p0 fun k hk => hw k (w5 k (q4 k (x0 k hk)))
          obtain ⟨g, r, rfl, hr⟩ := ih me (by omega) cs' u1 p1 fun k hk => hw k (w5 k (q4 k (x1 k hk)))
          exact ⟨(key, g, r), fun _ => ⟨hk, hr, fun a' ha => by injection ha with ha; subst ha; exact q2⟩⟩
    · exact ⟨(⟨#[]⟩, .mk 0 false ⟨false, ⟨#[]⟩, 0⟩ ⟨#[]⟩ [] [] [], []), fun h => absurd h hi⟩
  obtain ⟨FL, HL⟩ := Classical.axiomOfChoice HL
  obtain ⟨FM, HM⟩ := Classical.axiomOfChoice HM
  refine ⟨.mk k b ⟨ng, dg, ex⟩ s ((List.range ll).map fun i => (FL i).1) ((List.range lm).map fun i => (FM i).1) ((List.range lm).map fun i => (FM i).2.1),
    [.v (.int .i64 k), .b b, .b ng, .v (.string dg), .v (.int .i64 ex), .v (.string s), .v (.slice la ll lc), .v (.slice ma lm mc)], rfl, ?_⟩
  simp only [RepV]
  refine ⟨la, lc, (List.range ll).map fun i => (FL i).2, ma, mc, (List.range lm).map fun i => (FM i).2.2, by simp, ?_, RepL.range _ fun i hi => (HL i (List.mem_range.1 hi)).1, by simp, ?_, RepL.range _ fun i hi => (HM i (List.mem_range.1 hi)).2.1, hdg, hs, by simpa [mostLen, reachBytes] using hlr, by simpa [mostLen, reachBytes] using hmr, ?_⟩
  · simp only [List.length_map, List.length_range]
    refine slAt_range hll (fun i hi => ⟨(HL i hi).1.len, (HL i hi).1.clo⟩) ?_
    rcases hle with h0 | ⟨a, rfl, _⟩
    · exact .inl h0
    · exact .inr ⟨a, rfl, fun i hi => (HL i hi).2 a rfl⟩
  · rw [keyRows_range]
    simp only [List.length_map, List.length_range]
    refine slAt_range hlm (fun i hi => ⟨by simp [keyRow, (HM i hi).2.1.len], fun c hc => ?_⟩) ?_
    · cases hc with
      | head => trivial
      | tail _ hc => exact (HM i hi).2.1.clo c hc
    · rcases hme with h0 | ⟨a, rfl, _⟩
      · exact .inl h0
      · exact .inr ⟨a, rfl, fun i hi => (HM i hi).2.2 a rfl⟩
  · intro key hk
    obtain ⟨i, hi, rfl⟩ := List.mem_map.1 hk
    exact (HM i (List.mem_range.1 hi)).1

end
end Go.Sy
/- The closing of a law's row, alike from law to law. -/
namespace Go.Sy
open Go.ChangeShapes Go.RowKit

section
variable {H : Type} {enc : TypeId × Value → H} {P : Program} {W W' : World} {sp : Nat → Bool}

theorem trodAll_stays {T : TypeId → Prop} (K : _root_.Go.Kids P T) (hz : ∀ t e, T t → P.underlying t = some (.slice e) → 0 < P.cellsOf e) :
    ∀ {ts : List TypeId} {vs : List Value} {ds : List (DataW H)} {ps : List MemPlace}, (∀ t ∈ ts, T t) → DataW.TrodAll enc P W 0 (fun _ => true) true ts vs ds ps →
      (∀ p ∈ ps, W.sameAt W' p) → (∀ p ∈ ps, sp p.block = true) → DataW.TrodAll enc P W' 0 sp true ts vs ds ps
  | [], [], [], _, _, h, _, _ => h
  | _ :: _, _ :: _, _ :: _, _, hT, ⟨p, q, ⟨n, h1⟩, h2, e⟩, hs, hb =>
    ⟨p, q, ⟨n, DataW.trod_stays K (fun ht hu => hz _ _ ht hu) (fun h => by cases h) (hT _ List.mem_cons_self) h1 (fun x hx => hs x (by rw [e]; exact List.mem_append_left _ hx)) (fun x hx => hb x (by rw [e]; exact List.mem_append_left _ hx))⟩,
      trodAll_stays K hz (fun t ht => hT t (List.mem_cons_of_mem _ ht)) h2 (fun x hx => hs x (by rw [e]; exact List.mem_append_right _ hx)) (fun x hx => hb x (by rw [e]; exact List.mem_append_right _ hx)), e⟩

theorem below_of_fr {M : Nat → Prop} {w w' : World} (h : Fr M w w') (hM : ∀ b, ¬ M b) : Below w.heap.size w w' := ⟨h.os, h.tape, h.output, h.size, fun k hk => h.block k hk (hM k)⟩

/-- A law's answer is true and nothing that was there has turned. -/
theorem post_of_law {f : Func} {s : ChangeSpec} {apart fresh handsOn again : Bool} {args : Array Value} {ds gs : List (DataW H)} {before : List MemPlace} {tB : TypeId}
    (hl : laidOutB P = true) (hm : mapsRowed P = true) (hz : ∀ t e, t < P.types.size → P.underlying t = some (.slice e) → 0 < P.cellsOf e)
    (hts : ∀ t ∈ f.params.toList, t < P.types.size) (hr : f.resultTypes = #[tB]) (hB : P.underlying tB = some .bool) (hv : s.vars = [])
    (hres : (s.fn H (ds ++ gs)).results = [.lit (.bool true)]) (hargs : (s.fn H (ds ++ gs)).args = ds) (hvars : (s.fn H (ds ++ gs)).vars = [])
    (hW : DataW.Whole enc P f.params.toList s.vars apart W args.toList ds gs before) (hb : Below W.heap.size W W') :
    s.post enc P f apart fresh handsOn again W args (.bool true) W' := by
  have hW' := hW
  obtain ⟨p, q, hA, hV, rfl, hfz, hnd⟩ := hW
  rw [hv] at hV
  obtain ⟨rfl, rfl⟩ := trodVars_none hV
  have hlt : ∀ x ∈ p ++ ([] : List MemPlace), x.block < W.heap.size := fun x hx => hW'.lt x hx
  have h1 : ∀ (b : Nat) (sp : Nat → Bool) (hd : Bool), DataW.TrodAll enc P W' b sp hd f.resultTypes.toList ((Value.bool true).resultList f.resultTypes.size) (s.fn H (ds ++ [])).results [] := by
    intro b sp hd
    rw [hr, hres]
    exact trodAll_mk1 (shut_bool hB true)
  have h2 : ∀ sp : Nat → Bool, (∀ x ∈ p ++ ([] : List MemPlace), sp x.block = true) → DataW.TrodAll enc P W' 0 sp true f.params.toList args.toList (s.fn H (ds ++ [])).args p := by
    intro sp hs
    rw [hargs]
    exact trodAll_stays (T := (· < P.types.size)) (kids_rows hl hm) hz hts hA (fun x hx => hb.same (hlt x (List.mem_append_left _ hx))) (fun x hx => hs x (List.mem_append_left _ hx))
  have h3 : ∀ sp : Nat → Bool, DataW.TrodVars enc P W' sp s.vars (s.fn H (ds ++ [])).vars [] := by
    intro sp
    rw [hv, hvars]
    rfl
  have hold : ∀ x ∈ p ++ ([] : List MemPlace), (fun b => decide (b < W.heap.size)) x.block = true := fun x hx => by simpa using hlt x hx
  refine ⟨ds, [], _, [], p, [], hW', h1 _ _ _, h2 _ hold, h3 _, hb.frame _, fun _ => ⟨ok_one hr rfl (okWide_bool_mk hB _), _, _, ([] ++ p) ++ [], ⟨[] ++ p, [], trodAll_append (h2 _ (fun _ _ => rfl)) (h1 _ _ _), h3 _, rfl, ?_, ?_⟩, ?_⟩⟩
  · intro b off hp
    have hp' : MemPlace.cell b off ∈ p ++ ([] : List MemPlace) := by simpa using hp
    rw [hb.frozen (p := ⟨b, off, none⟩) (hlt _ hp')]
    exact hfz b off hp'
  · intro ha
    have := hnd ha
    simpa using this
  · intro x hp _
    simpa using hp

theorem okWide_agg {tV tL tM tE tD tS tI tB : TypeId} (T : VT P tV tL tM tE tD tS tI tB) {r : Reach} {base : Nat} {v : Value} (h : Value.okWide P W r base tV v) : ∃ cs : Array Value, v = .agg cs ∧ cs.size = P.cellsOf tV := by
  obtain ⟨fs, hu, _⟩ := T.v
  unfold Value.okWide at h
  rw [hu] at h
  obtain ⟨cs, h1, h2, _⟩ := h
  exact ⟨cs, h1, h2⟩

theorem okWide_str {t : TypeId} (T : ∃ fs, P.underlying t = some (.struct fs)) {r : Reach} {base : Nat} {v : Value} (h : Value.okWide P W r base t v) : ∃ (fs : Array Field) (_ : P.underlying t = some (.struct fs)) (cs : Array Value), v = .agg cs ∧ cs.size = P.cellsOf t := by
  obtain ⟨fs, hu⟩ := T
  unfold Value.okWide at h
  rw [hu] at h
  obtain ⟨cs, h1, h2, _⟩ := h
  exact ⟨fs, hu, cs, h1, h2⟩

theorem weights_le {ts : List TypeId} {ds : List (DataW H)} (h : (DataW.weightsEach P ts ds).all (· ≤ reachBytes) = true) {j : Nat} {t : TypeId} {d : DataW H} (ht : ts[j]? = some t) (hd : ds[j]? = some d) : ∀ k ∈ d.weights P t, k ≤ reachBytes := by
  intro k hk
  have := List.all_eq_true.1 h k (DataW.weights_mem_each ht hd k hk)
  simpa using this

end
end Go.Sy
/- Closed facts of the program that every row's closing asks. -/
namespace Go.Proofs.YtadnijcgohflhaaDoor.Row
open Go Go.Proofs Go.Sy Go.ChangeShapes Go.WideShapes Go.ChangeAt Go.RowKit
set_option maxRecDepth 100000

theorem own : ownKnob Tryd.prog.godebug = none := by kernel_rfl
theorem laidOut : laidOutB Tryd.prog = true := by kernel_rfl
theorem rowed : mapsRowed Tryd.prog = true := by kernel_rfl
theorem full : ∀ t e, t < Tryd.prog.types.size → Tryd.prog.underlying t = some (.slice e) → 0 < Tryd.prog.cellsOf e := slices_full_of Tryd.prog (by kernel_rfl)
theorem vt : VT Tryd.prog 27 24 25 125 23 9 3 4 where
  v := ⟨_, Tryd.underlying27, rfl⟩
  l := by kernel_rfl
  m := by kernel_rfl
  e := ⟨_, Tryd.underlying125, rfl⟩
  d := ⟨_, Tryd.underlying23, rfl⟩
  s := by kernel_rfl
  i := by kernel_rfl
  b := by kernel_rfl
  cV := by kernel_rfl
  cE := by kernel_rfl
  cD := by kernel_rfl
  cS := by kernel_rfl
  cI := by kernel_rfl
  cB := by kernel_rfl
  cL := by kernel_rfl
  cM := by kernel_rfl
  bV := of_decide_eq_true (by kernel_rfl)
  bE := of_decide_eq_true (by kernel_rfl)
end Go.Proofs.YtadnijcgohflhaaDoor.Row
/- More of what rows hand in: lists of texts, and lists of these. No program in sight. -/
namespace Go.Sy
open Go.ChangeShapes Go.RowKit

section
variable {H : Type} {enc : TypeId × Value → H} {P : Program} {w : World} {sp : Nat → Bool} {held : Bool}

/-- A list, its elements read one by one. -/
theorem open_list {α : Type} {t e : TypeId} {n sz : Nat} {c : Value} {x : DataW H × List MemPlace} (cells : α → List AT) (ok : α → Prop) (a0 : α) (hu : P.underlying t = some (.slice e)) (hc : P.cellsOf e = sz) (hb : 0 < P.bytesOf e)
    (h : DataW.trod enc P w 0 sp held n t [c] = some x) (hw : ∀ k ∈ x.1.weights P t, k ≤ reachBytes) (hcl : ∀ a, ok a → (cells a).length = sz ∧ ∀ c ∈ cells a, c.lt 0)
    (hel : ∀ (m : Nat) (cs : List Value) (y : DataW H × List MemPlace), cs.length = sz → DataW.trod enc P w 0 sp held m e cs = some y → (∀ k ∈ y.1.weights P e, k ≤ reachBytes) → ∃ a, ok a ∧ cs = (cells a).map (AT.den β0)) :
    ∃ (ao : Option Addr) (cap : Nat) (l : List α), c = .slice ao l.length cap ∧ SlAt (snapOf w) ao l.length cap sz (l.map cells) ∧ (∀ a ∈ l, ok a) ∧ l.length ≤ reachBytes := by
  obtain ⟨ao, len, cap, m, rfl, -, hlc, hlr, hle⟩ := open_sl hu hc hb h hw
  have HF : ∀ i, ∃ a : α, i < len → ok a ∧ ∀ ad, ao = some ad → ∀ j v, ((cells a).map (AT.den β0))[j]? = some v → w.cell? (ad.add (i * sz + j)) = some v := by
    intro i
    by_cases hi : i < len
    · rcases hle with h0 | ⟨ad, rfl, hle⟩
      · omega
      · obtain ⟨cs, y, q1, q2, q3, q4⟩ := hle i hi
        obtain ⟨a, ha, rfl⟩ := hel m cs y q1 q3 fun k hk => hw k (q4 k hk)
        exact ⟨a, fun _ => ⟨ha, fun a' ha' => by injection ha' with ha'; subst ha'; exact q2⟩⟩
    · exact ⟨a0, fun h => absurd h hi⟩
  obtain ⟨F, HF⟩ := Classical.axiomOfChoice HF
  refine ⟨ao, cap, (List.range len).map F, by simp, ?_, fun a ha => ?_, by simpa using hlr⟩
  · rw [List.map_map, List.length_map, List.length_range]
    refine slAt_range (R := cells ∘ F) hlc (fun i hi => hcl _ (HF i hi).1) ?_
    rcases hle with h0 | ⟨ad, rfl, _⟩
    · exact .inl h0
    · exact .inr ⟨ad, rfl, fun i hi => (HF i hi).2 ad rfl⟩
  · obtain ⟨i, hi, rfl⟩ := List.mem_map.1 ha
    exact (HF i (List.mem_range.1 hi)).1

theorem open_strL {t e : TypeId} {n : Nat} {c : Value} {x : DataW H × List MemPlace} (hu : P.underlying t = some (.slice e)) (he : P.underlying e = some .string) (hc : P.cellsOf e = 1) (hb : 0 < P.bytesOf e)
    (h : DataW.trod enc P w 0 sp held n t [c] = some x) (hw : ∀ k ∈ x.1.weights P t, k ≤ reachBytes) :
    ∃ (ao : Option Addr) (cap : Nat) (l : List ByteArray), c = .slice ao l.length cap ∧ SlAt (snapOf w) ao l.length cap 1 (strRows l) ∧ (∀ s ∈ l, s.size ≤ mostLen) ∧ l.length ≤ reachBytes :=
  open_list (fun s => [.v (.string s)]) (fun s => s.size ≤ mostLen) ⟨#[]⟩ hu hc hb h hw (fun a _ => ⟨rfl, fun c hc => by cases hc with | head => trivial | tail _ h => cases h⟩) fun m cs y hl hy hk => by
    match cs, hl with
    | [c], _ =>
      obtain ⟨s, rfl, hs⟩ := open_str he hy hk
      exact ⟨s, hs, rfl⟩

theorem open_srL {t e u : TypeId} {n : Nat} {c : Value} {x : DataW H × List MemPlace} (hu : P.underlying t = some (.slice e)) (hc : P.cellsOf e = 1) (hb : 0 < P.bytesOf e) (he : P.underlying e = some (.slice u)) (hs : P.underlying u = some .string) (hcu : P.cellsOf u = 1) (hbu : 0 < P.bytesOf u)
    (h : DataW.trod enc P w 0 sp held n t [c] = some x) (hw : ∀ k ∈ x.1.weights P t, k ≤ reachBytes) :
    ∃ (ao : Option Addr) (cap : Nat) (l : List SRow), c = .slice ao l.length cap ∧ SlAt (snapOf w) ao l.length cap 1 (srRows l) ∧ (∀ r ∈ l, SrOk (snapOf w) r) ∧ l.length ≤ 140737488355328 := by
  obtain ⟨ao, cap, l, h1, h2, h3, h4⟩ := open_list srCells (SrOk (snapOf w)) ⟨none, 0, []⟩ hu hc hb h hw (fun a _ => ⟨rfl, fun c hc => by cases hc with | head => trivial | tail _ h => cases h⟩) fun m cs y hl hy hk => by
    match cs, hl with
    | [c], _ =>
      obtain ⟨ao, cap, l, rfl, h2, -, h4⟩ := open_strL he hs hcu hbu hy hk
      exact ⟨⟨ao, cap, l⟩, ⟨Nat.le_trans h4 (by decide), h2⟩, rfl⟩
  exact ⟨ao, cap, l, h1, h2, h3, Nat.le_trans h4 (by decide)⟩
end
end Go.Sy
/- More of what rows hand in: a summary of paths. No program in sight. -/
namespace Go.Sy
open Go.ChangeShapes Go.RowKit

section
variable {H : Type} {enc : TypeId × Value → H} {P : Program} {w : World} {sp : Nat → Bool} {held : Bool}

/-- How many bytes a list's elements have. -/
theorem sl_bytes {t e : TypeId} {n len cap : Nat} {ao : Option Addr} {x : DataW H × List MemPlace} (hu : P.underlying t = some (.slice e)) (h : DataW.trod enc P w 0 sp held n t [.slice ao len cap] = some x)
    (hw : ∀ k ∈ x.1.weights P t, k ≤ reachBytes) : len * P.bytesOf e ≤ reachBytes := by
  rcases DataW.trod_slice hu h with ⟨h1, rfl⟩ | ⟨a, len', cap', elems, rest, m, rfl, h1, rfl, _, h3, h4, h5, h6, _, _⟩
  · injection h1 with h1
    injection h1 with _ h1
    subst h1
    rw [Nat.zero_mul]
    exact Nat.zero_le _
  · injection h1 with h1
    injection h1 with _ h1 _
    subst h1
    have hwt : (DataW.slice (elems.map (·.1)) (rest.map (·.1)) : DataW H).weights P t = ((elems.map (·.1)).length + (rest.map (·.1)).length) * P.bytesOf e :: (DataW.weightsAll P e (elems.map (·.1)) ++ DataW.weightsAll P e (rest.map (·.1))) := by
      rw [DataW.weights.eq_def]
      simp only [hu]
    have := hw _ (by rw [hwt]; exact List.mem_cons_self)
    simp only [List.length_map] at this
    refine Nat.le_trans (Nat.mul_le_mul_right _ ?_) this
    omega

theorem open_line {tE tI tSt tS : TypeId} {n : Nat} {cs : List Value} {x : DataW H × List MemPlace} {fs : Array Field} (hu : P.underlying tE = some (.struct fs)) (hl : fs.toList.map (fun f => (f.type, f.offset)) = [(tI, 0), (tSt, 1), (tI, 2)])
    (hI : P.underlying tI = some (.int .i64)) (hSt : P.underlying tSt = some (.slice tS)) (hS : P.underlying tS = some .string) (cI : P.cellsOf tI = 1) (cSt : P.cellsOf tSt = 1) (cS : P.cellsOf tS = 1) (bS : 0 < P.bytesOf tS) (cE : P.cellsOf tE = 3)
    (h : DataW.trod enc P w 0 sp held n tE cs = some x) (hw : ∀ k ∈ x.1.weights P tE, k ≤ reachBytes) : ∃ a : GLine, LnOk (snapOf w) a ∧ cs = (lnCells a).map (AT.den β0) := by
  obtain ⟨m, hm, hlen, hf⟩ := open_struct hu hl h
  rw [cE] at hlen
  match cs, hlen with
  | [c0, c1, c2], _ =>
  obtain ⟨y0, h0, _⟩ := hf 0 tI 0 rfl
  obtain ⟨y1, h1, w1⟩ := hf 1 tSt 1 rfl
  obtain ⟨y2, h2, _⟩ := hf 2 tI 2 rfl
  rw [cI] at h0 h2
  rw [cSt] at h1
  simp only [List.drop_zero, List.drop_succ_cons, List.take_succ_cons, List.take_zero] at h0 h1 h2
  obtain ⟨k, e0, -, -⟩ := DataW.trod_int hI h0
  obtain ⟨j, e2, -, -⟩ := DataW.trod_int hI h2
  obtain ⟨ao, cap, l, e1, S, -, hlr⟩ := open_strL hSt hS cS bS h1 fun k hk => hw k (w1 k hk)
  injection e0 with e0
  injection e2 with e2
  subst e0 e1 e2
  exact ⟨⟨k, ao, cap, l, j⟩, ⟨Nat.le_trans hlr (by decide), S⟩, rfl⟩

/-- A SUMMARY THAT IS READ lies there. -/
theorem open_guide {tG tL tE tI tSt tS : TypeId} {n : Nat} {cs : List Value} {x : DataW H × List MemPlace} {gs fs : Array Field} (hg : P.underlying tG = some (.struct gs)) (hgl : gs.toList.map (fun f => (f.type, f.offset)) = [(tL, 0), (tI, 1)]) (cG : P.cellsOf tG = 2)
    (hL : P.underlying tL = some (.slice tE)) (cL : P.cellsOf tL = 1) (hu : P.underlying tE = some (.struct fs)) (hl : fs.toList.map (fun f => (f.type, f.offset)) = [(tI, 0), (tSt, 1), (tI, 2)])
    (hI : P.underlying tI = some (.int .i64)) (hSt : P.underlying tSt = some (.slice tS)) (hS : P.underlying tS = some .string) (cI : P.cellsOf tI = 1) (cSt : P.cellsOf tSt = 1) (cS : P.cellsOf tS = 1) (bS : 0 < P.bytesOf tS) (cE : P.cellsOf tE = 3) (bE : P.bytesOf tE = 40)
    (h : DataW.trod enc P w 0 sp held n tG cs = some x) (hw : ∀ k ∈ x.1.weights P tG, k ≤ reachBytes) :
    ∃ (ao : Option Addr) (cap : Nat) (xs : List GLine) (next : Int), cs = [.slice ao xs.length cap, .int .i64 next] ∧ SlAt (snapOf w) ao xs.length cap 3 (lnRows xs) ∧ (∀ a ∈ xs, LnOk (snapOf w) a) ∧ xs.length * 40 ≤ 140737488355328 := by
  obtain ⟨m, hm, hlen, hf⟩ := open_struct hg hgl h
  rw [cG] at hlen
  match cs, hlen with
  | [c0, c1], _ =>
  obtain ⟨y0, h0, w0⟩ := hf 0 tL 0 rfl
  obtain ⟨y1, h1, _⟩ := hf 1 tI 1 rfl
  rw [cL] at h0
  rw [cI] at h1
  simp only [List.drop_zero, List.drop_succ_cons, List.take_succ_cons, List.take_zero] at h0 h1
  obtain ⟨k, e1, -, -⟩ := DataW.trod_int hI h1
  have hw0 := fun k hk => hw k (w0 k hk)
  obtain ⟨ao, cap, l, e0, S, hok, -⟩ := open_list lnCells (LnOk (snapOf w)) ⟨0, none, 0, [], 0⟩ hL cE (by omega) h0 hw0 (fun a _ => ⟨rfl, lnCells_lt 0 a⟩) fun m cs y _ hy hk =>
    open_line hu hl hI hSt hS cI cSt cS bS cE hy hk
  injection e1 with e1
  subst e0 e1
  have hb := sl_bytes hL h0 hw0
  rw [bE] at hb
  exact ⟨ao, cap, l, k, rfl, S, hok, Nat.le_trans hb (by decide)⟩
end
end Go.Sy
