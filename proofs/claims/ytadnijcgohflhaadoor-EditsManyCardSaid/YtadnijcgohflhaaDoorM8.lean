/- Parts of the proof of CEditsMany: La, Lb, F18, F19, F20, Lc, SyQ. No conditions. -/
import Derived.Test.YtadnijcgohflhaaDoorM7
import Derived.Laws.MakeOwn
/- Plain laws on a value's records: they are nested, named, and the value is built of them again. No program in sight. -/
namespace Go.Sy

/-- A record with its numbers turned. -/
def stE (φ : Int → Int) (r : GRec) : GRec := ⟨φ r.st, φ r.en, r.lv, r.kd, r.nm, r.name, r.b, r.n, r.s⟩
def Incr (φ : Int → Int) : Prop := ∀ a b, 0 ≤ a → a < b → φ a < φ b

theorem stE_id : stE (fun x => x) = id := by funext r; rfl

/-! ### Kinds -/

mutual
def kindOk : GVal → Prop
  | .mk k _ _ _ l _ vs => (l ≠ [] → k ≠ 5) ∧ (vs ≠ [] → k = 5) ∧ kindOks l ∧ kindOks vs
def kindOks : List GVal → Prop
  | [] => True
  | g :: gs => kindOk g ∧ kindOks gs
end

theorem fields_kind {g : GVal} (h : fieldsG g = true) : (g.l ≠ [] → g.kind = 4) ∧ (g.ks ≠ [] → g.kind = 5) := by
  have key : ∀ (P : Prop) (hl : g.l = [] ∨ P) (_ : g.l ≠ []), P := fun P hl h => hl.resolve_left h
  by_cases h0 : g.kind = 0
  · rw [fieldsG_0 h0] at h
    simp only [Bool.and_eq_true, decide_eq_true_eq, List.length_eq_zero_iff] at h
    exact ⟨fun hh => absurd h.1.2 hh, fun hh => absurd h.2 hh⟩
  by_cases h1 : g.kind = 1
  · rw [fieldsG_1 h1] at h
    simp only [Bool.and_eq_true, decide_eq_true_eq, List.length_eq_zero_iff] at h
    exact ⟨fun hh => absurd h.1.2 hh, fun hh => absurd h.2 hh⟩
  by_cases h2 : g.kind = 2
  · rw [fieldsG_2 h2] at h
    simp only [Bool.and_eq_true, decide_eq_true_eq, List.length_eq_zero_iff] at h
    exact ⟨fun hh => absurd h.1.2 hh, fun hh => absurd h.2 hh⟩
  by_cases h3 : g.kind = 3
  · rw [fieldsG_3 h3] at h
    simp only [Bool.and_eq_true, decide_eq_true_eq, List.length_eq_zero_iff] at h
    exact ⟨fun hh => absurd h.1.2 hh, fun hh => absurd h.2 hh⟩
  by_cases h4 : g.kind = 4
  · rw [fieldsG_4 h4] at h
    simp only [Bool.and_eq_true, decide_eq_true_eq, List.length_eq_zero_iff] at h
    exact ⟨fun _ => h4, fun hh => absurd h.2 hh⟩
  by_cases h5 : g.kind = 5
  · rw [fieldsG_5 h5] at h
    simp only [Bool.and_eq_true, decide_eq_true_eq, List.length_eq_zero_iff] at h
    exact ⟨fun hh => absurd h.2 hh, fun _ => h5⟩
  · rw [fieldsG_x h0 h1 h2 h3 h4 h5] at h; cases h

mutual
theorem sane_kind : ∀ (g : GVal) (deep c : Int), g.wf → (saneG g deep c).1 = 0 → kindOk g
  | .mk k b n s l ks vs, deep, c, hw, h => by
    simp only [GVal.wf] at hw
    simp only [saneG] at h
    split at h
    · simp at h
    rename_i hf
    have hf : fieldsG (.mk k b n s l ks vs) = true := by simpa using hf
    obtain ⟨h1, h2⟩ := fields_kind hf
    simp only [GVal.l, GVal.ks, GVal.kind] at h1 h2
    split at h
    · simp at h
    split at h
    · simp at h
    split at h
    · simp at h
    simp only [kindOk]
    have hl : (saneL l deep (c + 1)).1 = 0 := by
      by_cases h0 : (saneL l deep (c + 1)).1 = 0
      · exact h0
      · rw [if_pos h0] at h; exact h
    rw [if_neg (by simp [hl])] at h
    refine ⟨fun hh e => ?_, fun hh => h2 fun e => hh ?_, sane_kinds l _ _ hw.2.1 hl, sane_kinds vs _ _ hw.2.2 h⟩
    · have := h1 hh; omega
    · have := hw.1
      rw [e] at this
      exact List.eq_nil_of_length_eq_zero this.symm
theorem sane_kinds : ∀ (gs : List GVal) (deep c : Int), GVal.wfs gs → (saneL gs deep c).1 = 0 → kindOks gs
  | [], _, _, _, _ => trivial
  | g :: gs, deep, c, hw, h => by
    simp only [GVal.wfs] at hw
    simp only [saneL] at h
    have hg : (saneG g (deep + 1) c).1 = 0 := by
      by_cases h0 : (saneG g (deep + 1) c).1 = 0
      · exact h0
      · rw [if_pos h0] at h; exact h
    rw [if_neg (by simp [hg])] at h
    exact ⟨sane_kind g _ _ hw.1 hg, sane_kinds gs _ _ hw.2 h⟩
end

/-! ### nested -/

theorem closeTo_same {lv : Int} {ro : List GRec} (e : Int) (h : (ro.length : Int) = lv) : closeTo lv ro e = some (ro, e) := by
  cases ro with
  | nil => rfl
  | cons t ro =>
    simp only [List.length_cons] at h
    rw [closeTo, if_neg (by omega)]

theorem closeTo_suffix : ∀ (lv : Int) (ro : List GRec) (last : Int) (p : List GRec × Int), closeTo lv ro last = some p → ∃ x, ro = x ++ p.1
  | lv, [], last, p, h => by simp only [closeTo, Option.some.injEq] at h; subst h; exact ⟨[], rfl⟩
  | lv, t :: ro, last, p, h => by
    simp only [closeTo] at h
    split at h
    · split at h
      · cases h
      · obtain ⟨x, hx⟩ := closeTo_suffix lv ro t.en p h
        exact ⟨t :: x, by rw [hx]; rfl⟩
    · simp only [Option.some.injEq] at h; subst h; exact ⟨[], rfl⟩

theorem closeTo_trans : ∀ (ro1 ro : List GRec) (last1 last : Int), closeTo ro.length (ro1 ++ ro) last1 = some (ro, last) → ∀ lv : Int, lv ≤ ro.length → closeTo lv (ro1 ++ ro) last1 = closeTo lv ro last
  | [], ro, last1, last, h, lv, hl => by
    rw [List.nil_append, closeTo_same last1 rfl] at h
    simp only [Option.some.injEq, Prod.mk.injEq, true_and] at h
    rw [h, List.nil_append]
  | t :: ro1, ro, last1, last, h, lv, hl => by
    simp only [List.cons_append, closeTo, List.length_append] at h ⊢
    rw [if_pos (by omega)] at h ⊢
    split at h
    · cases h
    · rename_i he
      rw [if_neg he]
      exact closeTo_trans ro1 ro t.en last h lv hl

theorem closeAll_of : ∀ (ro : List GRec) (last e : Int), closeTo 0 ro last = some ([], e) → closeAll ro last = true
  | [], _, _, _ => rfl
  | t :: ro, last, e, h => by
    simp only [closeTo] at h
    rw [if_pos (by omega)] at h
    split at h
    · cases h
    · rename_i he
      simp only [closeAll, if_neg he]
      exact closeAll_of ro t.en e h

/-- Where nestFrom is: closing down to a level leaves ro, and this last number. -/
structure AtN (lv : Int) (ro0 : List GRec) (last0 : Int) (ro : List GRec) (last : Int) : Prop where
  cl : closeTo lv ro0 last0 = some (ro, last)
  len : (ro.length : Int) = lv
  le : lv ≤ ro0.length

section
variable {φ : Int → Int} (hφ : Incr φ) {gap : Int} (hg : 1 ≤ gap)
include hφ hg

mutual
theorem nestV : ∀ (g : GVal) (lv : Int) (nm : Bool) (name : ByteArray) (now : Int) (k : Nat) (ro0 ro : List GRec) (last0 last : Int) (rest : List GRec), AtN lv ro0 last0 ro last → 0 ≤ lv → decide (lv = 0) = decide ((k : Int) = 0) → 0 ≤ now → last < φ (now + gap) →
    ∃ ro1 last1, AtN lv ro1 last1 ro (φ (shredV gap g lv nm name now).2) ∧ nestFrom k ro0 last0 ((shredV gap g lv nm name now).1.map (stE φ) ++ rest) = nestFrom (k + (shredV gap g lv nm name now).1.length) ro1 last1 rest
  | .mk kd b n s l ks vs, lv, nm, name, now, k, ro0, ro, last0, last, rest, hA, h0, hk, hn, hl => by
    simp only [shredV, List.map_cons, List.map_append, List.cons_append, List.append_assoc, nestFrom, stE, List.length_cons, List.length_append]
    have h1 := (shredL_len gap l (lv + 1) (now + gap)).2
    have h2 := (shredM_len gap vs ks (lv + 1) (shredL gap l (lv + 1) (now + gap)).2).2
    have e1 : 0 ≤ 2 * gap * ((shredL gap l (lv + 1) (now + gap)).1.length : Int) := Int.mul_nonneg (by omega) (by omega)
    have e2 : 0 ≤ 2 * gap * ((shredM gap vs ks (lv + 1) (shredL gap l (lv + 1) (now + gap)).2).1.length : Int) := Int.mul_nonneg (by omega) (by omega)
    have hlen := hA.len
    have hle := hA.le
    rw [if_neg (by rw [hk]; simp; omega), hA.cl]
    simp only []
    rw [if_neg (by omega)]
    generalize hr0 : (⟨φ (now + gap), φ ((shredM gap vs ks (lv + 1) (shredL gap l (lv + 1) (now + gap)).2).2 + gap), lv, kd, nm, name, b, n, s⟩ : GRec) = r0
    have hst : r0.st = φ (now + gap) := by rw [← hr0]
    have hen : r0.en = φ ((shredM gap vs ks (lv + 1) (shredL gap l (lv + 1) (now + gap)).2).2 + gap) := by rw [← hr0]
    obtain ⟨ro1, last1, last2, hA1, hl2, he1⟩ := nestL l (lv + 1) (now + gap) (k + 1) (r0 :: ro) (r0 :: ro) (φ (now + gap)) (φ (now + gap)) ((shredM gap vs ks (lv + 1) (shredL gap l (lv + 1) (now + gap)).2).1.map (stE φ) ++ rest)
      ⟨closeTo_same _ (by simp only [List.length_cons]; omega), by simp only [List.length_cons]; omega, by simp only [List.length_cons]; omega⟩ (by omega) (Nat.succ_pos k) (by omega) (Int.le_refl _)
    obtain ⟨ro2, last3, last4, hA2, hl4, he2⟩ := nestM vs ks (lv + 1) (shredL gap l (lv + 1) (now + gap)).2 (k + 1 + (shredL gap l (lv + 1) (now + gap)).1.length) ro1 (r0 :: ro) last1 last2 rest hA1 (by omega) (by omega) (by omega) hl2
    refine ⟨ro2, last3, ⟨?_, hlen, by have := hA2.le; omega⟩, ?_⟩
    · obtain ⟨x, hx⟩ := closeTo_suffix _ _ _ _ hA2.cl
      have hx : ro2 = x ++ (r0 :: ro) := hx
      have hlr : (((r0 :: ro).length : Nat) : Int) = lv + 1 := hA2.len
      have hcl := hA2.cl
      rw [← hlr, hx] at hcl
      rw [hx, closeTo_trans x (r0 :: ro) last3 last4 hcl lv (by omega), closeTo, if_pos (by omega), if_neg, hen]
      · exact closeTo_same _ hlen
      · rw [hen]
        have := hφ (shredM gap vs ks (lv + 1) (shredL gap l (lv + 1) (now + gap)).2).2 ((shredM gap vs ks (lv + 1) (shredL gap l (lv + 1) (now + gap)).2).2 + gap) (by omega) (by omega)
        omega
    · rw [he1, he2]
      congr 1
      omega
theorem nestL : ∀ (gs : List GVal) (lv : Int) (now : Int) (k : Nat) (ro0 ro : List GRec) (last0 last : Int) (rest : List GRec), AtN lv ro0 last0 ro last → 1 ≤ lv → 0 < k → 0 ≤ now → last ≤ φ now →
    ∃ ro1 last1 last2, AtN lv ro1 last1 ro last2 ∧ last2 ≤ φ (shredL gap gs lv now).2 ∧ nestFrom k ro0 last0 ((shredL gap gs lv now).1.map (stE φ) ++ rest) = nestFrom (k + (shredL gap gs lv now).1.length) ro1 last1 rest
  | [], lv, now, k, ro0, ro, last0, last, rest, hA, h0, hk, hn, hl => ⟨ro0, last0, last, hA, hl, rfl⟩
  | g :: gs, lv, now, k, ro0, ro, last0, last, rest, hA, h0, hk, hn, hl => by
    simp only [shredL, List.map_append, List.append_assoc, List.length_append]
    have hinc := hφ now (now + gap) hn (by omega)
    obtain ⟨h1, h1'⟩ := shredV_len gap g lv false ⟨#[]⟩ now
    have e1 : 0 ≤ 2 * gap * ((shredV gap g lv false ⟨#[]⟩ now).1.length : Int) := Int.mul_nonneg (by omega) (by omega)
    obtain ⟨ro1, last1, hA1, he1⟩ := nestV g lv false ⟨#[]⟩ now k ro0 ro last0 last ((shredL gap gs lv (shredV gap g lv false ⟨#[]⟩ now).2).1.map (stE φ) ++ rest) hA (by omega) (by rw [decide_eq_false (by omega), decide_eq_false (by omega)]) hn (by omega)
    obtain ⟨ro2, last3, last4, hA2, hl4, he2⟩ := nestL gs lv (shredV gap g lv false ⟨#[]⟩ now).2 (k + (shredV gap g lv false ⟨#[]⟩ now).1.length) ro1 ro last1 _ rest hA1 h0 (by omega) (by omega) (Int.le_refl _)
    exact ⟨ro2, last3, last4, hA2, hl4, by rw [he1, he2, Nat.add_assoc]⟩
theorem nestM : ∀ (gs : List GVal) (ks : List ByteArray) (lv : Int) (now : Int) (k : Nat) (ro0 ro : List GRec) (last0 last : Int) (rest : List GRec), AtN lv ro0 last0 ro last → 1 ≤ lv → 0 < k → 0 ≤ now → last ≤ φ now →
    ∃ ro1 last1 last2, AtN lv ro1 last1 ro last2 ∧ last2 ≤ φ (shredM gap gs ks lv now).2 ∧ nestFrom k ro0 last0 ((shredM gap gs ks lv now).1.map (stE φ) ++ rest) = nestFrom (k + (shredM gap gs ks lv now).1.length) ro1 last1 rest
  | [], ks, lv, now, k, ro0, ro, last0, last, rest, hA, h0, hk, hn, hl => by simp only [shredM]; exact ⟨ro0, last0, last, hA, hl, rfl⟩
  | g :: gs, [], lv, now, k, ro0, ro, last0, last, rest, hA, h0, hk, hn, hl => by simp only [shredM]; exact ⟨ro0, last0, last, hA, hl, rfl⟩
  | g :: gs, nk :: ks, lv, now, k, ro0, ro, last0, last, rest, hA, h0, hk, hn, hl => by
    simp only [shredM, List.map_append, List.append_assoc, List.length_append]
    have hinc := hφ now (now + gap) hn (by omega)
    obtain ⟨h1, h1'⟩ := shredV_len gap g lv true nk now
    have e1 : 0 ≤ 2 * gap * ((shredV gap g lv true nk now).1.length : Int) := Int.mul_nonneg (by omega) (by omega)
    obtain ⟨ro1, last1, hA1, he1⟩ := nestV g lv true nk now k ro0 ro last0 last ((shredM gap gs ks lv (shredV gap g lv true nk now).2).1.map (stE φ) ++ rest) hA (by omega) (by rw [decide_eq_false (by omega), decide_eq_false (by omega)]) hn (by omega)
    obtain ⟨ro2, last3, last4, hA2, hl4, he2⟩ := nestM gs ks lv (shredV gap g lv true nk now).2 (k + (shredV gap g lv true nk now).1.length) ro1 ro last1 _ rest hA1 h0 (by omega) (by omega) (Int.le_refl _)
    exact ⟨ro2, last3, last4, hA2, hl4, by rw [he1, he2, Nat.add_assoc]⟩
end

/-- A value's records are nested, however its numbers are turned, as long as their order stays. -/
theorem nested_shred (g : GVal) (nm : Bool) (name : ByteArray) (h0 : -1 < φ gap) : nestedG ((shredV gap g 0 nm name 0).1.map (stE φ)) = true := by
  unfold nestedG
  obtain ⟨ro1, last1, hA, he⟩ := nestV hφ hg g 0 nm name 0 0 [] [] (-1) (-1) [] ⟨rfl, rfl, Int.le_refl _⟩ (Int.le_refl _) rfl (Int.le_refl _) (by rw [Int.zero_add]; exact h0)
  rw [List.append_nil] at he
  rw [he, nestFrom, closeAll_of ro1 last1 _ hA.cl, Bool.true_and]
  have : 0 < (shredV gap g 0 nm name 0).1.length := by rw [shredV_eq]; simp
  simp only [List.length_map]
  exact decide_eq_true (by omega)
end

/-- In nested records each starts ahead of its end. -/
theorem closeAll_lt : ∀ (ro : List GRec) (last : Int), closeAll ro last = true → ∀ t ∈ ro, last < t.en
  | [], _, _, t, ht => by cases ht
  | x :: ro, last, h, t, ht => by
    simp only [closeAll] at h
    split at h
    · cases h
    · rcases List.mem_cons.1 ht with rfl | ht
      · omega
      · have := closeAll_lt ro x.en h t ht; omega
theorem closeTo_lt : ∀ (lv : Int) (ro : List GRec) (last : Int) (p : List GRec × Int), closeTo lv ro last = some p → last ≤ p.2 ∧ ∀ t ∈ ro, t ∈ p.1 ∨ last < t.en
  | lv, [], last, p, h => by simp only [closeTo, Option.some.injEq] at h; subst h; exact ⟨Int.le_refl _, fun t ht => by cases ht⟩
  | lv, x :: ro, last, p, h => by
    simp only [closeTo] at h
    split at h
    · split at h
      · cases h
      · obtain ⟨h1, h2⟩ := closeTo_lt lv ro x.en p h
        refine ⟨by omega, fun t ht => ?_⟩
        rcases List.mem_cons.1 ht with rfl | ht
        · exact .inr (by omega)
        · rcases h2 t ht with h3 | h3
          · exact .inl h3
          · exact .inr (by omega)
    · simp only [Option.some.injEq] at h; subst h; exact ⟨Int.le_refl _, fun t ht => .inl ht⟩
theorem nest_lt : ∀ (l : List GRec) (k : Nat) (ro : List GRec) (last : Int), nestFrom k ro last l = true → (∀ t ∈ ro, last < t.en) ∧ ∀ r ∈ l, r.st < r.en
  | [], k, ro, last, h => ⟨closeAll_lt ro last h, fun r hr => by cases hr⟩
  | x :: l, k, ro, last, h => by
    simp only [nestFrom] at h
    split at h
    · cases h
    split at h
    · cases h
    rename_i p hp
    split at h
    · cases h
    rename_i hst
    obtain ⟨h1, h2⟩ := nest_lt l _ _ _ h
    obtain ⟨h3, h4⟩ := closeTo_lt _ _ _ _ hp
    refine ⟨fun t ht => ?_, fun r hr => ?_⟩
    · rcases h4 t ht with h5 | h5
      · have := h1 t (List.mem_cons_of_mem _ h5); omega
      · exact h5
    · rcases List.mem_cons.1 hr with rfl | hr
      · exact h1 r (List.mem_cons_self ..)
      · exact h2 r hr
theorem nested_lt {l : List GRec} (h : nestedG l = true) : ∀ r ∈ l, r.st < r.en := by
  unfold nestedG at h
  simp only [Bool.and_eq_true] at h
  exact (nest_lt l _ _ _ h.1).2

/-! ### named -/

mutual
theorem namedV (φ : Int → Int) (gap : Int) : ∀ (g : GVal) (lv : Nat) (nm : Bool) (name : ByteArray) (now : Int) (op o : List Int) (rest : List GRec), kindOk g → op.take lv = o → lv ≤ op.length → nm = (o.getLast? == some 5) → (nm = false → name = ⟨#[]⟩) →
    ∃ op1, op1.take lv = o ∧ lv ≤ op1.length ∧ namedFrom op ((shredV gap g lv nm name now).1.map (stE φ) ++ rest) = namedFrom op1 rest
  | .mk kd b n s l ks vs, lv, nm, name, now, op, o, rest, hk, ho, hl, hnm, hna => by
    simp only [kindOk] at hk
    simp only [shredV, List.map_cons, List.map_append, List.cons_append, List.append_assoc, namedFrom, stE, Int.toNat_natCast, ho]
    have hc : ((nm != (o.getLast? == some 5)) || (!nm && !decide (name = ⟨#[]⟩))) = false := by
      rw [← hnm]
      cases nm with
      | true => simp
      | false => simp [hna rfl]
    rw [hc]
    simp only [Bool.false_eq_true, if_false]
    have hol : o.length = lv := by rw [← ho, List.length_take]; omega
    have hlast : (o ++ [kd]).getLast? = some kd := by simp
    have htk : (o ++ [kd]).take (lv + 1) = o ++ [kd] := List.take_of_length_le (by simp; omega)
    obtain ⟨op1, h1, h2, h3⟩ := namedL φ gap l (lv + 1) (now + gap) (o ++ [kd]) (o ++ [kd]) ((shredM gap vs ks ((lv : Int) + 1) (shredL gap l ((lv : Int) + 1) (now + gap)).2).1.map (stE φ) ++ rest) hk.2.2.1 htk (by simp; omega) (fun hne => by rw [hlast]; have := hk.1 hne; simp; exact this)
    obtain ⟨op2, h4, h5, h6⟩ := namedM φ gap vs ks (lv + 1) (shredL gap l ((lv : Int) + 1) (now + gap)).2 op1 (o ++ [kd]) rest hk.2.2.2 h1 h2 (fun hne => by rw [hlast]; have := hk.2.1 hne; simp; exact this)
    refine ⟨op2, ?_, by omega, ?_⟩
    · have : op2.take lv = (op2.take (lv + 1)).take lv := by rw [List.take_take]; congr 1; omega
      rw [this, h4, List.take_append_of_le_length (by omega), List.take_of_length_le (by omega)]
    · exact h3.trans h6
theorem namedL (φ : Int → Int) (gap : Int) : ∀ (gs : List GVal) (lv : Nat) (now : Int) (op o : List Int) (rest : List GRec), kindOks gs → op.take lv = o → lv ≤ op.length → (gs ≠ [] → (o.getLast? == some 5) = false) →
    ∃ op1, op1.take lv = o ∧ lv ≤ op1.length ∧ namedFrom op ((shredL gap gs lv now).1.map (stE φ) ++ rest) = namedFrom op1 rest
  | [], lv, now, op, o, rest, hk, ho, hl, hnm => ⟨op, ho, hl, rfl⟩
  | g :: gs, lv, now, op, o, rest, hk, ho, hl, hnm => by
    simp only [kindOks] at hk
    simp only [shredL, List.map_append, List.append_assoc]
    obtain ⟨op1, h1, h2, h3⟩ := namedV φ gap g lv false ⟨#[]⟩ now op o ((shredL gap gs lv (shredV gap g lv false ⟨#[]⟩ now).2).1.map (stE φ) ++ rest) hk.1 ho hl (hnm (by simp)).symm (fun _ => rfl)
    obtain ⟨op2, h4, h5, h6⟩ := namedL φ gap gs lv (shredV gap g lv false ⟨#[]⟩ now).2 op1 o rest hk.2 h1 h2 (fun _ => hnm (by simp))
    exact ⟨op2, h4, h5, h3.trans h6⟩
theorem namedM (φ : Int → Int) (gap : Int) : ∀ (gs : List GVal) (ks : List ByteArray) (lv : Nat) (now : Int) (op o : List Int) (rest : List GRec), kindOks gs → op.take lv = o → lv ≤ op.length → (gs ≠ [] → (o.getLast? == some 5) = true) →
    ∃ op1, op1.take lv = o ∧ lv ≤ op1.length ∧ namedFrom op ((shredM gap gs ks lv now).1.map (stE φ) ++ rest) = namedFrom op1 rest
  | [], ks, lv, now, op, o, rest, hk, ho, hl, hnm => by simp only [shredM]; exact ⟨op, ho, hl, rfl⟩
  | g :: gs, [], lv, now, op, o, rest, hk, ho, hl, hnm => by simp only [shredM]; exact ⟨op, ho, hl, rfl⟩
  | g :: gs, nk :: ks, lv, now, op, o, rest, hk, ho, hl, hnm => by
    simp only [kindOks] at hk
    simp only [shredM, List.map_append, List.append_assoc]
    obtain ⟨op1, h1, h2, h3⟩ := namedV φ gap g lv true nk now op o ((shredM gap gs ks lv (shredV gap g lv true nk now).2).1.map (stE φ) ++ rest) hk.1 ho hl (hnm (by simp)).symm (fun h => by cases h)
    obtain ⟨op2, h4, h5, h6⟩ := namedM φ gap gs ks lv (shredV gap g lv true nk now).2 op1 o rest hk.2 h1 h2 (fun _ => hnm (by simp))
    exact ⟨op2, h4, h5, h3.trans h6⟩
end

theorem named_shred (φ : Int → Int) (gap : Int) (g : GVal) (hk : kindOk g) : namedG ((shredV gap g 0 false emptyS 0).1.map (stE φ)) = true := by
  unfold namedG
  obtain ⟨op1, _, _, h⟩ := namedV φ gap g 0 false ⟨#[]⟩ 0 [] [] [] hk rfl (Nat.le_refl _) rfl (fun _ => rfl)
  rw [List.append_nil] at h
  exact h.trans rfl

/-! ### build -/

/-- What comes behind does not stand in what is at that level. -/
def behind (lv : Int) : List GRec → Prop
  | [] => True
  | r :: _ => r.lv ≤ lv

theorem behind.mono {lv lv' : Int} (h : lv ≤ lv') : ∀ {l : List GRec}, behind lv l → behind lv' l
  | [], _ => trivial
  | r :: _, hb => by simp only [behind] at hb ⊢; omega

theorem behindV (φ : Int → Int) (gap : Int) (g : GVal) (lv : Int) (nm : Bool) (name : ByteArray) (now : Int) (Y : List GRec) : behind lv ((shredV gap g lv nm name now).1.map (stE φ) ++ Y) := by
  rw [shredV_eq]
  exact Int.le_refl _
theorem behindL (φ : Int → Int) (gap : Int) (gs : List GVal) (lv : Int) (now : Int) (Y : List GRec) (h : behind lv Y) : behind lv ((shredL gap gs lv now).1.map (stE φ) ++ Y) := by
  cases gs with
  | nil => exact h
  | cons g gs =>
    simp only [shredL, List.map_append, List.append_assoc]
    exact behindV φ gap g lv _ _ now _
theorem behindM (φ : Int → Int) (gap : Int) (gs : List GVal) (ks : List ByteArray) (lv : Int) (now : Int) (Y : List GRec) (h : behind lv Y) : behind lv ((shredM gap gs ks lv now).1.map (stE φ) ++ Y) := by
  cases gs with
  | nil => simp only [shredM]; exact h
  | cons g gs =>
    cases ks with
    | nil => simp only [shredM]; exact h
    | cons k ks =>
      simp only [shredM, List.map_append, List.append_assoc]
      exact behindV φ gap g lv _ _ now _

theorem kids_step (φ : Int → Int) (gap : Int) (g : GVal) (lv : Int) (nm : Bool) (name : ByteArray) (now : Int) (n : Nat) (X : List GRec) (h : buildN n ((shredV gap g (lv + 1) nm name now).1.map (stE φ) ++ X) = (g, X)) :
    kidsN (n + 1) lv ((shredV gap g (lv + 1) nm name now).1.map (stE φ) ++ X) = if nm then ⟨(kidsN n lv X).ls, name :: (kidsN n lv X).ks, g :: (kidsN n lv X).vs, (kidsN n lv X).rest⟩ else ⟨g :: (kidsN n lv X).ls, (kidsN n lv X).ks, (kidsN n lv X).vs, (kidsN n lv X).rest⟩ := by
  rw [shredV_eq] at h ⊢
  simp only [List.map_cons, List.cons_append] at h ⊢
  rw [kidsN, h, if_pos (by simp only [stE]; omega)]
  rfl

mutual
theorem buildV (φ : Int → Int) (gap : Int) : ∀ (g : GVal) (lv : Int) (nm : Bool) (name : ByteArray) (now : Int) (n : Nat) (rest : List GRec), g.wf → behind lv rest → 2 * (shredV gap g lv nm name now).1.length ≤ n →
    buildN n ((shredV gap g lv nm name now).1.map (stE φ) ++ rest) = (g, rest)
  | .mk kd b n s l ks vs, lv, nm, name, now, m, rest, hw, hb, hm => by
    simp only [GVal.wf] at hw
    simp only [shredV, List.length_cons, List.length_append] at hm
    obtain ⟨m, rfl⟩ : ∃ m', m = m' + 1 := ⟨m - 1, by omega⟩
    simp only [shredV, List.map_cons, List.map_append, List.cons_append, List.append_assoc, buildN, stE]
    rw [kidsL φ gap l lv (now + gap) m _ ⟨[], ks, vs, rest⟩ (2 * (shredM gap vs ks (lv + 1) (shredL gap l (lv + 1) (now + gap)).2).1.length + 1) (by omega) hw.2.1 (fun m' hm' => kidsM φ gap vs ks lv (shredL gap l (lv + 1) (now + gap)).2 m' rest hw.2.2 hw.1 hb hm') (behindM φ gap vs ks (lv + 1) _ _ (hb.mono (by omega))) (by omega)]
    simp
theorem kidsL (φ : Int → Int) (gap : Int) : ∀ (gs : List GVal) (lv : Int) (now : Int) (n : Nat) (T : List GRec) (K : Kids) (c : Nat), 1 ≤ c → GVal.wfs gs → (∀ m, c ≤ m → kidsN m lv T = K) → behind (lv + 1) T →
    2 * (shredL gap gs (lv + 1) now).1.length + c ≤ n → kidsN n lv ((shredL gap gs (lv + 1) now).1.map (stE φ) ++ T) = ⟨gs ++ K.ls, K.ks, K.vs, K.rest⟩
  | [], lv, now, n, T, K, c, hc, hw, hT, hb, hn2 => by
    simp only [shredL, List.map_nil, List.nil_append, List.length_nil] at hn2 ⊢
    exact hT n (by omega)
  | g :: gs, lv, now, n, T, K, c, hc, hw, hT, hb, hn2 => by
    simp only [GVal.wfs] at hw
    simp only [shredL, List.map_append, List.append_assoc, List.length_append] at hn2 ⊢
    have hpos : 0 < (shredV gap g (lv + 1) false ⟨#[]⟩ now).1.length := by rw [shredV_eq]; simp
    obtain ⟨n, rfl⟩ : ∃ m', n = m' + 1 := ⟨n - 1, by omega⟩
    have hB := buildV φ gap g (lv + 1) false ⟨#[]⟩ now n ((shredL gap gs (lv + 1) (shredV gap g (lv + 1) false ⟨#[]⟩ now).2).1.map (stE φ) ++ T) hw.1 (behindL φ gap gs (lv + 1) _ _ hb) (by omega)
    rw [kids_step φ gap g lv false ⟨#[]⟩ now n _ hB, kidsL φ gap gs lv (shredV gap g (lv + 1) false ⟨#[]⟩ now).2 n T K c hc hw.2 hT hb (by omega)]
    rfl
theorem kidsM (φ : Int → Int) (gap : Int) : ∀ (vs : List GVal) (ks : List ByteArray) (lv : Int) (now : Int) (n : Nat) (rest : List GRec), GVal.wfs vs → ks.length = vs.length → behind lv rest → 2 * (shredM gap vs ks (lv + 1) now).1.length + 1 ≤ n →
    kidsN n lv ((shredM gap vs ks (lv + 1) now).1.map (stE φ) ++ rest) = ⟨[], ks, vs, rest⟩
  | [], ks, lv, now, n, rest, hw, hk, hb, hn => by
    have hk0 : ks = [] := List.eq_nil_of_length_eq_zero hk
    subst hk0
    simp only [shredM, List.map_nil, List.nil_append, List.length_nil] at hn ⊢
    obtain ⟨n, rfl⟩ : ∃ m', n = m' + 1 := ⟨n - 1, by omega⟩
    cases rest with
    | nil => rfl
    | cons r rest =>
      simp only [behind] at hb
      rw [kidsN, if_neg (by omega)]
  | g :: gs, [], lv, now, n, rest, hw, hk, hb, hn => by simp at hk
  | g :: gs, nk :: ks, lv, now, n, rest, hw, hk, hb, hn => by
    simp only [GVal.wfs] at hw
    simp only [shredM, List.map_append, List.append_assoc, List.length_append] at hn ⊢
    have hpos : 0 < (shredV gap g (lv + 1) true nk now).1.length := by rw [shredV_eq]; simp
    obtain ⟨n, rfl⟩ : ∃ m', n = m' + 1 := ⟨n - 1, by omega⟩
    have hB := buildV φ gap g (lv + 1) true nk now n ((shredM gap gs ks (lv + 1) (shredV gap g (lv + 1) true nk now).2).1.map (stE φ) ++ rest) hw.1 (behindM φ gap gs ks (lv + 1) _ _ (hb.mono (by omega))) (by omega)
    rw [kids_step φ gap g lv true nk now n _ hB, kidsM φ gap gs ks lv (shredV gap g (lv + 1) true nk now).2 n rest hw.2 (by simpa using hk) hb (by omega)]
    rfl
end

theorem build_shred (φ : Int → Int) (gap : Int) (g : GVal) (nm : Bool) (name : ByteArray) (now : Int) (hw : g.wf) : buildG ((shredV gap g 0 nm name now).1.map (stE φ)) = (g, []) := by
  unfold buildG
  have := buildV φ gap g 0 nm name now (enough ((shredV gap g 0 nm name now).1.map (stE φ))) [] hw trivial (by unfold enough; rw [List.length_map]; omega)
  rw [List.append_nil] at this
  exact this

/-- WHAT IS SHREDDED IS BUILT AGAIN, however the numbers are turned, as long as their order stays and they aren't too great. -/
theorem buildR_shred {φ : Int → Int} (hφ : Incr φ) {gap : Int} (hg : 1 ≤ gap) (h0 : -1 < φ gap) (g : GVal) (hw : g.wf) (hs : sane g = 0) (hl : (shredV gap g 0 false emptyS 0).1.length ≤ 4096)
    (hen : φ (shredV gap g 0 false emptyS 0).2 ≤ 1099511627776) : buildR ((shredV gap g 0 false emptyS 0).1.map (stE φ)) = (g, 0) := by
  have hk := sane_kind g 0 0 hw hs
  have hB := build_shred φ gap g false emptyS 0 hw
  have hhead : ((((shredV gap g 0 false emptyS 0).1.map (stE φ)).head?.map GRec.en).getD 0) = φ (shredV gap g 0 false emptyS 0).2 := by rw [shredV_eq]; rfl
  unfold buildR
  rw [if_neg, if_neg, hB]
  · rw [hB]; simp [hs]
  · rw [hhead, List.length_map, nested_shred hφ hg g false emptyS h0, named_shred φ gap g hk]
    rintro (h | h | h | h)
    · omega
    · cases h
    · cases h
    · omega
end Go.Sy
/- Bounds on a value's records. No program in sight. -/
namespace Go.Sy

mutual
theorem shredV_bd {gap : Int} (hg : 0 ≤ gap) : ∀ (g : GVal) (lv : Int) (nm : Bool) (name : ByteArray) (now : Int), now ≤ (shredV gap g lv nm name now).2 ∧ ∀ r ∈ (shredV gap g lv nm name now).1, now ≤ r.st ∧ r.st ≤ (shredV gap g lv nm name now).2 ∧ now ≤ r.en ∧ r.en ≤ (shredV gap g lv nm name now).2
  | .mk kd b n s l ks vs, lv, nm, name, now => by
    simp only [shredV]
    obtain ⟨h1, h2⟩ := shredL_bd hg l (lv + 1) (now + gap)
    obtain ⟨h3, h4⟩ := shredM_bd hg vs ks (lv + 1) (shredL gap l (lv + 1) (now + gap)).2
    refine ⟨by omega, fun r hr => ?_⟩
    rcases List.mem_cons.1 hr with rfl | hr
    · simp only []; omega
    · rcases List.mem_append.1 hr with hr | hr
      · have := h2 r hr; omega
      · have := h4 r hr; omega
theorem shredL_bd {gap : Int} (hg : 0 ≤ gap) : ∀ (gs : List GVal) (lv : Int) (now : Int), now ≤ (shredL gap gs lv now).2 ∧ ∀ r ∈ (shredL gap gs lv now).1, now ≤ r.st ∧ r.st ≤ (shredL gap gs lv now).2 ∧ now ≤ r.en ∧ r.en ≤ (shredL gap gs lv now).2
  | [], lv, now => ⟨Int.le_refl _, fun r hr => by cases hr⟩
  | g :: gs, lv, now => by
    simp only [shredL]
    obtain ⟨h1, h2⟩ := shredV_bd hg g lv false ⟨#[]⟩ now
    obtain ⟨h3, h4⟩ := shredL_bd hg gs lv (shredV gap g lv false ⟨#[]⟩ now).2
    refine ⟨by omega, fun r hr => ?_⟩
    rcases List.mem_append.1 hr with hr | hr
    · have := h2 r hr; omega
    · have := h4 r hr; omega
theorem shredM_bd {gap : Int} (hg : 0 ≤ gap) : ∀ (gs : List GVal) (ks : List ByteArray) (lv : Int) (now : Int), now ≤ (shredM gap gs ks lv now).2 ∧ ∀ r ∈ (shredM gap gs ks lv now).1, now ≤ r.st ∧ r.st ≤ (shredM gap gs ks lv now).2 ∧ now ≤ r.en ∧ r.en ≤ (shredM gap gs ks lv now).2
  | [], ks, lv, now => by simp only [shredM]; exact ⟨Int.le_refl _, fun r hr => by cases hr⟩
  | g :: gs, [], lv, now => by simp only [shredM]; exact ⟨Int.le_refl _, fun r hr => by cases hr⟩
  | g :: gs, nk :: ks, lv, now => by
    simp only [shredM]
    obtain ⟨h1, h2⟩ := shredV_bd hg g lv true nk now
    obtain ⟨h3, h4⟩ := shredM_bd hg gs ks lv (shredV gap g lv true nk now).2
    refine ⟨by omega, fun r hr => ?_⟩
    rcases List.mem_append.1 hr with hr | hr
    · have := h2 r hr; omega
    · have := h4 r hr; omega
end

mutual
theorem shredV_fit {σ : Snap} (gap : Int) : ∀ (g : GVal) (r : List AT) (lv : Int) (nm : Bool) (name : ByteArray) (now : Int), RepV σ g r → name.size ≤ mostLen → RecsFit (shredV gap g lv nm name now).1
  | .mk kd b n s l ks vs, r, lv, nm, name, now, h, hn => by
    simp only [RepV] at h
    obtain ⟨_, _, _, _, _, _, _, _, h3, h4, _, h6, h7, h8, _, _, h9⟩ := h
    simp only [shredV]
    intro x hx
    rcases List.mem_cons.1 hx with rfl | hx
    · exact ⟨h7, h8, hn⟩
    · rcases List.mem_append.1 hx with hx | hx
      · exact shredL_fit gap l _ _ _ h3 x hx
      · exact shredM_fit gap vs _ ks _ _ h6 h9 x hx
theorem shredL_fit {σ : Snap} (gap : Int) : ∀ (gs : List GVal) (rs : List (List AT)) (lv : Int) (now : Int), RepL σ gs rs → RecsFit (shredL gap gs lv now).1
  | [], _, _, _, _ => fun x hx => by cases hx
  | g :: gs, rs, lv, now, h => by
    simp only [RepL] at h
    obtain ⟨r, rs', _, h2, h3⟩ := h
    simp only [shredL]
    intro x hx
    rcases List.mem_append.1 hx with hx | hx
    · exact shredV_fit gap g r _ _ _ _ h2 (by simp [mostLen, ByteArray.size]) x hx
    · exact shredL_fit gap gs rs' _ _ h3 x hx
theorem shredM_fit {σ : Snap} (gap : Int) : ∀ (gs : List GVal) (rs : List (List AT)) (ks : List ByteArray) (lv : Int) (now : Int), RepL σ gs rs → (∀ k ∈ ks, k.size ≤ mostLen) → RecsFit (shredM gap gs ks lv now).1
  | [], _, ks, _, _, _, _ => by simp only [shredM]; exact fun x hx => by cases hx
  | g :: gs, _, [], _, _, _, _ => by simp only [shredM]; exact fun x hx => by cases hx
  | g :: gs, rs, nk :: ks, lv, now, h, hk => by
    simp only [RepL] at h
    obtain ⟨r, rs', _, h2, h3⟩ := h
    simp only [shredM]
    intro x hx
    rcases List.mem_append.1 hx with hx | hx
    · exact shredV_fit gap g r _ _ _ _ h2 (hk nk (List.mem_cons_self ..)) x hx
    · exact shredM_fit gap gs rs' ks _ _ h3 (fun k hk' => hk k (List.mem_cons_of_mem _ hk')) x hx
end

theorem RecsFit.map {L : List GRec} (h : RecsFit L) (φ : Int → Int) : RecsFit (L.map (stE φ)) := by
  intro r hr
  obtain ⟨x, hx, rfl⟩ := List.mem_map.1 hr
  exact h x hx

/-- 'x & m', m a small number. -/
theorem bAnd_le (x m : Int) (h0 : 0 ≤ m) (h1 : m ≤ 1000000000) : 0 ≤ bAnd .i64 x m ∧ bAnd .i64 x m ≤ m := by
  have hm : (BitVec.ofInt 64 m).toNat = m.toNat := by
    rw [BitVec.toNat_ofInt]
    have : m % ((2 ^ 64 : Nat) : Int) = m := Int.emod_eq_of_lt h0 (by omega)
    rw [this]
  have hle : (BitVec.ofInt 64 x &&& BitVec.ofInt 64 m).toNat ≤ m.toNat := by
    rw [BitVec.toNat_and, ← hm]
    exact Nat.and_le_right
  have hw : bAnd .i64 x m = ((BitVec.ofInt 64 x &&& BitVec.ofInt 64 m).toNat : Int) := by
    unfold bAnd
    refine IntWalk.i64_in _ ?_
    have hle' : (BitVec.ofInt IntKind.i64.bits x &&& BitVec.ofInt IntKind.i64.bits m).toNat ≤ m.toNat := hle
    generalize (BitVec.ofInt IntKind.i64.bits x &&& BitVec.ofInt IntKind.i64.bits m).toNat = q at hle'
    omega
  rw [hw]
  omega
end Go.Sy
namespace Go.Sy
open Go.Proofs

/-! ### ShredMoves -/

theorem shredG_ok {g : GVal} {gap : Int} (h1 : 1 ≤ gap) (h2 : gap ≤ 1000) (hs : sane g = 0) : shredG g gap = ((shredV gap g 0 false emptyS 0).1, 0) := by
  unfold shredG
  rw [if_neg (by omega), if_neg (by simp [hs])]

theorem incr_lin (c : Int) : Incr (fun x => 2 * x + c) := fun a b _ h => by dsimp only; omega

/-- The first k records turned. -/
def mkK (f : GRec → GRec) (L : List GRec) (k : Nat) : List GRec := (L.take k).map f ++ L.drop k
theorem mkK_get (f : GRec → GRec) (L : List GRec) (k : Nat) (h : k < L.length) : (mkK f L k)[k]? = some L[k] := by
  unfold mkK
  rw [List.getElem?_append_right (by simp; omega)]
  simp
  rw [Nat.min_eq_left (by omega)]
  simp [h]
theorem mkK_succ (f : GRec → GRec) (L : List GRec) (k : Nat) (h : k < L.length) : (mkK f L k).set k (f L[k]) = mkK f L (k + 1) := by
  unfold mkK
  have hl : ((L.take k).map f).length = k := by simp; omega
  rw [List.set_append_right _ _ (by omega), hl, Nat.sub_self, List.take_succ_eq_append_getElem h, List.drop_eq_getElem_cons h, List.set_cons_zero, List.map_append]
  simp
theorem mkK_len (f : GRec → GRec) (L : List GRec) (k : Nat) (h : k ≤ L.length) : (mkK f L k).length = L.length := by
  unfold mkK
  simp
  omega

set_option maxRecDepth 100000 in
set_option maxHeartbeats 4000000 in
theorem ShredMoves_c (σ : Snap) (g : GVal) (r : List AT) (by_ i : Int) (hr : RepV σ g r) :
    PlainS Tryd.prog 3 [.agg r, .a (.v (.int .i64 by_)), .a (.v (.int .i64 i))] σ (fun v => v = .bool true) := by
  obtain ⟨la, lc, lrows, ma, mc, vrows, rfl, V⟩ := hr.open
  refine enter_p Tryd.func3 rfl rfl (by (repeat' (first | exact trivial | exact vCells_lt _ _ _ _ _ _ | constructor))) fun w => ?_
  (repeat (first | refine cj_seq ?_ | (refine cj_region ?_; refine oj_run TT rfl ?_) | refine oj_then ?_))
  refine oj_callP rfl rfl rfl rfl rfl Tryd.call18 (by (repeat' exact trivial)) (awake11_c σ) fun v hv => ⟨.a .tt, trivial, hv.symm, ?_⟩
  refine oj_run TT rfl ?_
  (repeat (first | refine cj_seq ?_ | (refine cj_region ?_; refine oj_run TT rfl ?_) | refine oj_then ?_))
  refine oj_callP rfl rfl rfl rfl rfl Tryd.call19 (by (repeat' (first | exact trivial | exact vCells_lt _ _ _ _ _ _ | constructor))) (Few_c σ g _ 800 V.rep (by omega) (by omega)) fun v ⟨fb, hv, hfew⟩ => ⟨.a (.b fb), trivial, hv.symm, ?_⟩
  refine oj_run TT rfl ?_
  refine oj_split 20 rfl (fun h => ?_) (fun h => ?_)
  · refine oj_run TT rfl ?_
    (repeat (first | refine cj_seq ?_ | (refine cj_region ?_; refine oj_run TT rfl ?_) | refine oj_then ?_ | refine cj_if_t rfl ?_ | refine cj_ret ?_ | refine nj_then_ret ?_))
    refine nj_ret TT rfl fun β w' _ _ => ?_
    rfl
  have hw : g.weight ≤ 800 := by
    have := hfew (by simpa using h)
    omega
  refine oj_run TT rfl ?_
  refine oj_callP rfl rfl rfl rfl rfl Tryd.call20 (by (repeat' (first | exact trivial | exact vCells_lt _ _ _ _ _ _ | constructor))) (Sane_c σ g _ V.rep (by omega)) fun v hv => ⟨.a (.v (.int .i64 (sane g))), trivial, hv.symm, ?_⟩
  refine oj_run TT rfl ?_
  (repeat refine oj_then ?_)
  refine cj_if rfl (fun h => ?_) (fun h => ?_)
  · (repeat (first | refine cj_seq ?_ | (refine cj_region ?_; refine oj_run TT rfl ?_) | refine oj_then ?_ | refine cj_ret ?_ | refine nj_then_ret ?_))
    refine nj_ret TT rfl fun β w' _ _ => ?_
    rfl
  have hs : sane g = 0 := by simpa using h
  have hG := shredG_ok (g := g) (gap := 1) (by omega) (by omega) hs
  obtain ⟨hlen1, hlen2⟩ := shredV_len 1 g 0 false emptyS 0
  have hbd := (shredV_bd (gap := 1) (by omega) g 0 false emptyS 0).2
  have hfit := shredV_fit 1 g _ 0 false emptyS 0 V.rep (by decide)
  have hposL : 0 < (shredV 1 g 0 false emptyS 0).1.length := by rw [shredV_eq]; simp
  have hB : ∀ c : Int, 0 ≤ c → c ≤ 1023 → buildR ((shredV 1 g 0 false emptyS 0).1.map (stE fun x => 2 * x + c)) = (g, 0) := fun c h0 h1 =>
    buildR_shred (incr_lin c) (by omega) (by omega) g V.rep.wf hs (by omega) (by rw [hlen2]; omega)
  have hBG : ∀ c : Int, buildG ((shredV 1 g 0 false emptyS 0).1.map (stE fun x => 2 * x + c)) = (g, []) := fun c => build_shred _ 1 g false emptyS 0 V.rep.wf
  have hnl : ∀ r ∈ (shredV 1 g 0 false emptyS 0).1, r.st < r.en := by
    have := nested_shred (φ := fun x => x) (fun a b _ h => h) (gap := 1) (by omega) g false emptyS (by omega)
    rw [stE_id, List.map_id] at this
    exact nested_lt this
  (repeat (first | refine cj_seq ?_ | (refine cj_region ?_; refine oj_run TT rfl ?_) | refine cj_skip ?_ | refine nj_then ?_))
  refine oj_callS rfl rfl rfl rfl rfl Tryd.call21 ⟨vCells_lt _ _ _ _ _ _, trivial, trivial⟩ (Shred_s σ g _ 1 V.rep (by omega)) fun v σ1 hle1 ⟨ao, cap, hv, H⟩ => ⟨.tup [.a (.v (.slice ao (shredG g 1).1.length cap)), .a (.v (.int .i64 (shredG g 1).2))], (by (repeat' (first | exact trivial | refine SV.lt_tup ?_ | constructor))), hv.symm, ?_⟩
  rw [hG] at H ⊢
  dsimp only at H ⊢
  generalize (shredV 1 g 0 false emptyS 0).1 = L at *
  have hLw : L.length ≤ 800 := by omega
  refine oj_run TT rfl ?_
  (repeat (first | refine cj_seq ?_ | (refine cj_region ?_; refine oj_run TT rfl ?_) | refine oj_then ?_))
  refine oj_split 33 rfl (fun h => absurd h (by decide)) (fun h => ?_)
  refine oj_run TT rfl ?_
  (repeat refine oj_then ?_)
  refine cj_if rfl (fun h => ?_) (fun h => ?_)
  · have := of_decide_eq_true h
    omega
  have hb2 : ∀ r ∈ L, 0 ≤ r.st ∧ r.st ≤ 1600 ∧ 0 ≤ r.en ∧ r.en ≤ 1600 := fun r hr => by
    have := hbd r hr
    rw [hlen2] at this
    omega
  (repeat (first | refine cj_seq ?_ | (refine cj_region ?_; refine oj_run TT rfl ?_) | refine cj_skip ?_ | refine nj_then ?_))
  refine oj_own 1 0 11 rfl (by (repeat' (first | exact trivial | refine AllLt.of ?_))) rfl (by decide) fun g0 => ?_
  refine oj_append_sl TT 0 rfl rfl rfl rfl rfl rfl rfl H rfl rfl rfl rfl rfl rfl rfl rfl rfl (fun r hr => (recRows_all _ r hr).2.2) (by omega) (by show (0 + L.length) * 112 ≤ _; omega) fun aoM capM hcapM => ?_
  rw [Nat.zero_add L.length] at hcapM ⊢
  refine oj_run TT rfl ?_
  (repeat (first | refine cj_seq ?_ | (refine cj_region ?_; refine oj_run TT rfl ?_) | refine oj_then ?_))
  refine oj_own 2 0 11 rfl (by (repeat' (first | exact trivial | refine AllLt.of ?_))) rfl (by decide) fun g0' => ?_
  refine oj_append_sl TT 1 rfl rfl rfl rfl rfl rfl rfl H rfl rfl rfl rfl rfl rfl rfl rfl rfl (fun r hr => (recRows_all _ r hr).2.2) (by omega) (by show (0 + L.length) * 112 ≤ _; omega) fun aoN capN hcapN => ?_
  rw [Nat.zero_add L.length] at hcapN ⊢
  refine oj_run TT rfl ?_
  refine oj_arrAt 0 (E := rE aoM L.length capM L) rfl hposL fun gm hgm => ?_
  have hgm : aoM = some ⟨gm, 0, none⟩ := hgm
  subst hgm
  refine oj_arrAt 1 (E := rE aoN L.length capN L) rfl hposL fun gn hgn => ?_
  have hgn : aoN = some ⟨gn, 0, none⟩ := hgn
  subst hgn
  (repeat (first | refine cj_seq ?_ | (refine cj_region ?_; refine oj_run TT rfl ?_) | refine oj_then ?_ | refine cj_block ?_))
  have hc := bAnd_le by_ 1023 (by omega) (by omega)
  generalize hcc : bAnd .i64 by_ 1023 = c at hc
  refine cj_cutB (α := Unit) (fun _ => σ1) (fun _ => [(2, .a (.v (.int .i64 i))), (3, .a (.p 0 0)), (7, .a .tt), (8, .a (.v (.slice ao L.length cap))), (10, .a (.v (.slice (some ⟨gm, 0, none⟩) L.length capM))), (11, .a (.v (.slice (some ⟨gn, 0, none⟩) L.length capN)))])
    (fun _ => [(0, .loc 27, vCells g la lc ma mc)]) (fun _ => [rE (some ⟨gm, 0, none⟩) L.length capM (L.map (stE fun x => 2 * x + c)), rE (some ⟨gn, 0, none⟩) L.length capN L]) 1 (fun _ => True) ?_ (fun _ _ => ?_)
  · refine cj_loop (fun (_ : Nat) => σ1) (fun k => [(1, .a (.v (.int .i64 by_))), (2, .a (.v (.int .i64 i))), (3, .a (.p 0 0)), (7, .a .tt), (8, .a (.v (.slice ao L.length cap))), (10, .a (.v (.slice (some ⟨gm, 0, none⟩) L.length capM))), (11, .a (.v (.slice (some ⟨gn, 0, none⟩) L.length capN))), (12, .a (.v (.int .i64 k)))])
      (fun _ => [(0, .loc 27, vCells g la lc ma mc)]) (fun k => [rE (some ⟨gm, 0, none⟩) L.length capM (mkK (stE fun x => 2 * x + c) L k), rE (some ⟨gn, 0, none⟩) L.length capN L]) 1 (fun k => k ≤ L.length) (fun k => L.length - k) 0 (Nat.zero_le _) rfl (by (repeat (first | exact trivial | refine And.intro rfl ?_))) (by (repeat (first | exact trivial | refine And.intro rfl ?_))) rfl (by (repeat' (first | exact trivial | exact Nat.le_of_ble_eq_true rfl | constructor))) (by (repeat' (first | exact trivial | exact Nat.le_of_ble_eq_true rfl | exact vCells_lt _ _ _ _ _ _ | constructor))) fun k hk => ?_
    (repeat (first | refine cj_seq ?_ | (refine cj_region ?_; refine oj_run TT rfl ?_) | refine oj_then ?_))
    refine cj_if rfl (fun h => ?_) (fun h => ?_)
    rotate_left
    · have hk0 : k = L.length := by have := of_decide_eq_false h; omega
      subst hk0
      (repeat (first | refine cj_exit ?_ | refine nj_then_exit ?_ | refine nj_block_out ?_))
      refine nj_again () trivial Nat.zero_lt_one rfl (by (repeat (first | exact trivial | refine And.intro rfl ?_))) (by (repeat (first | exact trivial | refine And.intro rfl ?_))) ?_ (by (repeat' (first | exact trivial | exact Nat.le_of_ble_eq_true rfl | constructor))) (by (repeat' (first | exact trivial | exact Nat.le_of_ble_eq_true rfl | exact vCells_lt _ _ _ _ _ _ | constructor)))
      simp [mkK]
    have hkl : k < L.length := by have := of_decide_eq_true h; omega
    have hb := hb2 L[k] (List.getElem_mem hkl)
    have hM0 := mkK_get (stE fun x => 2 * x + c) L k hkl
    have hS := mkK_succ (stE fun x => 2 * x + c) L k hkl
    have hlenM := mkK_len (stE fun x => 2 * x + c) L k hk
    generalize hx : L[k] = x at *
    let x1 : GRec := ⟨2 * x.st + c, x.en, x.lv, x.kd, x.nm, x.name, x.b, x.n, x.s⟩
    have hM1 : ((mkK (stE fun x => 2 * x + c) L k).set k x1)[k]? = some x1 := by rw [List.getElem?_set_self (by omega)]
    have hS1 : ((mkK (stE fun x => 2 * x + c) L k).set k x1).set k (stE (fun x => 2 * x + c) x) = mkK (stE fun x => 2 * x + c) L (k + 1) := by rw [List.set_set]; exact hS
    have hoff : ∀ j, j < 11 → k * 11 + j < L.length * 11 := fun j hj => by omega
    have had : ∀ j, some (SV.a (AT.v (.pointer (some (Addr.add (Addr.add ⟨gm, 0, none⟩ ((k : Int).toNat * 11)) j))))) = some (SV.a (AT.v (.pointer (some ⟨gm, k * 11 + j, none⟩)))) := fun j => by rw [add0, Addr.add_lit]; rfl
    (repeat (first | refine cj_seq ?_ | (refine cj_region ?_; refine oj_run TT rfl ?_) | refine cj_skip ?_ | refine cj_block ?_ | refine nj_then ?_))
    refine oj_indexAddr TT rfl rfl rfl rfl rfl rfl rfl rfl rfl ⟨by omega, by omega⟩ (oj_run TT rfl ?_)
    refine oj_ldA 0 (off := k * 11 + 0) (c := .v (.int .i64 x.st)) TT rfl rfl rfl rfl rfl (had 0) rfl rfl rfl rfl (recXs_get hM0 rfl) trivial (oj_run TT rfl ?_)
    refine oj_mul rfl rfl rfl rfl rfl rfl (by omega) (oj_run TT rfl ?_)
    refine oj_band rfl rfl rfl rfl rfl rfl ?_
    rw [hcc]
    refine oj_run TT rfl ?_
    refine oj_add rfl rfl rfl rfl rfl rfl (by omega) (oj_run TT rfl ?_)
    refine oj_indexAddr TT rfl rfl rfl rfl rfl rfl rfl rfl rfl ⟨by omega, by omega⟩ (oj_run TT rfl ?_)
    refine oj_stA 0 (off := k * 11 + 0) (A' := [rE (some ⟨gm, 0, none⟩) L.length capM ((mkK (stE fun x => 2 * x + c) L k).set k x1), rE (some ⟨gn, 0, none⟩) L.length capN L]) TT rfl rfl rfl rfl (had 0) rfl rfl rfl rfl rfl (hoff 0 (by omega)) trivial rfl ?_ (oj_run TT rfl ?_)
    · show [_, _] = [_, _]
      congr 1
      unfold rE
      congr 1
      exact recXs_set (r' := x1) (.v (.int .i64 (2 * x.st + c))) hM0 (by omega) rfl
    (repeat (first | (refine cj_region ?_; refine oj_run TT rfl ?_) | refine oj_then ?_))
    refine oj_indexAddr TT rfl rfl rfl rfl rfl rfl rfl rfl rfl ⟨by omega, by omega⟩ (oj_run TT rfl ?_)
    refine oj_ldA 0 (off := k * 11 + 1) (c := .v (.int .i64 x.en)) TT rfl rfl rfl rfl rfl (had 1) rfl rfl rfl rfl (recXs_get hM1 rfl) trivial (oj_run TT rfl ?_)
    refine oj_mul rfl rfl rfl rfl rfl rfl (by omega) (oj_run TT rfl ?_)
    refine oj_band rfl rfl rfl rfl rfl rfl ?_
    rw [hcc]
    refine oj_run TT rfl ?_
    refine oj_add rfl rfl rfl rfl rfl rfl (by omega) (oj_run TT rfl ?_)
    refine oj_indexAddr TT rfl rfl rfl rfl rfl rfl rfl rfl rfl ⟨by omega, by omega⟩ (oj_run TT rfl ?_)
    refine oj_stA 0 (off := k * 11 + 1) (A' := [rE (some ⟨gm, 0, none⟩) L.length capM (mkK (stE fun x => 2 * x + c) L (k + 1)), rE (some ⟨gn, 0, none⟩) L.length capN L]) TT rfl rfl rfl rfl (had 1) rfl rfl rfl rfl rfl (hoff 1 (by omega)) trivial rfl ?_ (oj_run TT rfl ?_)
    · show [_, _] = [_, _]
      congr 1
      unfold rE
      congr 1
      rw [← hS1]
      exact recXs_set (r' := stE (fun x => 2 * x + c) x) (.v (.int .i64 (2 * x.en + c))) hM1 (by omega) rfl
    (repeat (first | (refine cj_region ?_; refine oj_run TT rfl ?_) | refine oj_nil ?_ | refine nj_then ?_ | refine nj_block ?_ | (refine oj_add rfl rfl rfl rfl rfl rfl (by omega) ?_; refine oj_run TT rfl ?_)))
    refine nj_again (k + 1) hkl (by omega) rfl (by (repeat (first | exact trivial | refine And.intro rfl ?_))) (by (repeat (first | exact trivial | refine And.intro rfl ?_))) rfl (by (repeat' (first | exact trivial | exact Nat.le_of_ble_eq_true rfl | constructor))) (by (repeat' (first | exact trivial | exact Nat.le_of_ble_eq_true rfl | exact vCells_lt _ _ _ _ _ _ | constructor)))
  have hmask := bAnd_le i 65535 (by omega) (by omega)
  (repeat (first | refine cj_seq ?_ | (refine cj_region ?_; refine oj_run TT rfl ?_) | (refine oj_band rfl rfl rfl rfl rfl rfl ?_; refine oj_run TT rfl ?_)))
  generalize bAnd .i64 i 65535 = m at hmask ⊢
  refine oj_rem rfl rfl rfl rfl rfl rfl (by omega) ?_
  obtain ⟨j, hj⟩ : ∃ j : Nat, m.tmod L.length = j := ⟨(m.tmod L.length).toNat, by
    have := Int.tmod_nonneg (L.length : Int) hmask.1
    omega⟩
  have hjl : j < L.length := by
    have := Int.tmod_lt_of_pos m (show (0 : Int) < L.length by omega)
    omega
  rw [hj]
  refine oj_run TT rfl ?_
  have hrow := recRows_get (List.getElem?_eq_getElem hjl)
  have hM0 : L[j]? = some L[j] := List.getElem?_eq_getElem hjl
  have hlt := hnl L[j] (List.getElem_mem hjl)
  have hfitx := hfit L[j] (List.getElem_mem hjl)
  generalize hx : L[j] = x at *
  let x1 : GRec := ⟨x.en, x.en, x.lv, x.kd, x.nm, x.name, x.b, x.n, x.s⟩
  let x2 : GRec := ⟨x.en, x.st, x.lv, x.kd, x.nm, x.name, x.b, x.n, x.s⟩
  have hM1 : (L.set j x1)[j]? = some x1 := by rw [List.getElem?_set_self hjl]
  have hoff : ∀ q, q < 11 → j * 11 + q < L.length * 11 := fun q hq => by omega
  have had : ∀ q, some (SV.a (AT.v (.pointer (some (Addr.add (Addr.add ⟨gn, 0, none⟩ ((j : Int).toNat * 11)) q))))) = some (SV.a (AT.v (.pointer (some ⟨gn, j * 11 + q, none⟩)))) := fun q => by rw [add0, Addr.add_lit]; rfl
  (repeat (first | refine cj_seq ?_ | (refine cj_region ?_; refine oj_run TT rfl ?_) | refine oj_then ?_))
  refine oj_idx TT rfl rfl rfl rfl rfl rfl rfl rfl rfl H (by omega) hrow (oj_run TT rfl ?_)
  refine oj_indexAddr TT rfl rfl rfl rfl rfl rfl rfl rfl rfl ⟨by omega, by omega⟩ (oj_run TT rfl ?_)
  refine oj_stA 1 (off := j * 11 + 0) (A' := [rE (some ⟨gm, 0, none⟩) L.length capM (L.map (stE fun x => 2 * x + c)), rE (some ⟨gn, 0, none⟩) L.length capN (L.set j x1)]) TT rfl rfl rfl rfl (had 0) rfl rfl rfl rfl rfl (hoff 0 (by omega)) trivial rfl ?_ (oj_run TT rfl ?_)
  · show [_, _] = [_, _]
    congr 1
    congr 1
    unfold rE
    congr 1
    exact recXs_set (r' := x1) (.v (.int .i64 x.en)) hM0 (by omega) rfl
  (repeat (first | refine cj_seq ?_ | (refine cj_region ?_; refine oj_run TT rfl ?_) | refine oj_then ?_))
  refine oj_idx TT rfl rfl rfl rfl rfl rfl rfl rfl rfl H (by omega) hrow (oj_run TT rfl ?_)
  refine oj_indexAddr TT rfl rfl rfl rfl rfl rfl rfl rfl rfl ⟨by omega, by omega⟩ (oj_run TT rfl ?_)
  have hset : (L.set j x1).set j x2 = L.set j x2 := List.set_set ..
  refine oj_stA 1 (off := j * 11 + 1) (A' := [rE (some ⟨gm, 0, none⟩) L.length capM (L.map (stE fun x => 2 * x + c)), rE (some ⟨gn, 0, none⟩) L.length capN (L.set j x2)]) TT rfl rfl rfl rfl (had 1) rfl rfl rfl rfl rfl (hoff 1 (by omega)) trivial rfl ?_ (oj_run TT rfl ?_)
  · show [_, _] = [_, _]
    congr 1
    congr 1
    unfold rE
    congr 1
    rw [← hset]
    exact recXs_set (r' := x2) (.v (.int .i64 x.st)) hM1 (by omega) rfl
  refine oj_seal 0 rfl rfl rfl fun σ2 hle2 hS1 => ?_
  refine oj_seal 0 rfl rfl rfl fun σ3 hle3 hS2 => ?_
  have hlM : (L.map (stE fun x => 2 * x + c)).length = L.length := List.length_map ..
  have hlN : (L.set j x2).length = L.length := List.length_set ..
  have H1 : SlAt σ3 (some ⟨gm, 0, none⟩) (L.map (stE fun x => 2 * x + c)).length capM 11 (recRows (L.map (stE fun x => 2 * x + c))) := (rE_sealed (by rw [hlM]; exact hS1) (by omega)).mono hle3
  have H2 : SlAt σ3 (some ⟨gn, 0, none⟩) (L.set j x2).length capN 11 (recRows (L.set j x2)) := rE_sealed (by rw [hlN]; exact hS2) (by omega)
  have hnN : nestedG (L.set j x2) = false := by
    cases hh : nestedG (L.set j x2) with
    | false => rfl
    | true =>
      have := nested_lt hh x2 (by rw [List.mem_iff_getElem?]; exact ⟨j, by rw [List.getElem?_set_self hjl]⟩)
      have : x.en < x.st := this
      omega
  have hsN : soundG (L.set j x2) = false := by
    unfold soundG buildR
    rw [if_pos (.inr (.inl hnN))]
    rfl
  have hfN : RecsFit (L.set j x2) := by
    intro y hy
    rcases List.mem_or_eq_of_mem_set hy with hy | rfl
    · exact hfit y hy
    · exact hfitx
  have hml : (1000 : Nat) ≤ mostLen := by decide
  refine oj_set 10 (.a (.v (.slice (some ⟨gm, 0, none⟩) (L.map (stE fun x => 2 * x + c)).length capM))) rfl trivial (fun _ => by rw [hlM]) ?_
  refine oj_set 11 (.a (.v (.slice (some ⟨gn, 0, none⟩) (L.set j x2).length capN))) rfl trivial (fun _ => by rw [hlN]) ?_
  (repeat (first | refine cj_seq ?_ | (refine cj_region ?_; refine oj_run TT rfl ?_) | refine oj_then ?_))
  refine oj_callS rfl rfl rfl rfl rfl Tryd.call22 ⟨trivial, trivial⟩ (Build_c σ3 _ (by omega) (hfit.map _) (fun _ => by rw [hBG c]; show g.weight ≤ _; omega) _ capM H1) fun v σ4 hle4 ⟨rr, hv, hrep⟩ => ⟨.tup [.agg rr, .a (.v (.int .i64 0))], SV.lt_tup ⟨hrep.clo, trivial, trivial⟩, (by rw [hv, hB c hc.1 hc.2]), ?_⟩
  rw [hB c hc.1 hc.2] at hrep
  dsimp only at hrep
  obtain ⟨xla, xlc, xlrows, xma, xmc, xvrows, rfl, XV⟩ := hrep.open
  refine oj_run TT rfl ?_
  (repeat (first | refine cj_seq ?_ | (refine cj_region ?_; refine oj_run TT rfl ?_) | refine oj_then ?_))
  refine oj_split 109 rfl (fun h => ?_) (fun h => absurd h (by decide))
  refine oj_run TT rfl ?_
  have hle : σ.le σ4 := Snap.le_trans hle1 (Snap.le_trans hle2 (Snap.le_trans hle3 hle4))
  refine oj_callP rfl rfl rfl rfl rfl Tryd.call23 (by (repeat' (first | exact trivial | exact vCells_lt _ _ _ _ _ _ | constructor))) (Exact_c g σ4 g _ _ (V.rep.mono hle) XV.rep) fun v hv => ⟨.a .tt, trivial, (by rw [hv, exactG_self g V.rep.wf]; rfl), ?_⟩
  refine oj_run TT rfl ?_
  refine oj_callP rfl rfl rfl rfl rfl Tryd.call24 (by (repeat' (first | exact trivial | constructor))) (Sound_c σ4 _ (by omega) hfN (fun h => by rw [hnN] at h; cases h) _ capN (H2.mono hle4)) fun v hv => ⟨.a .ff, trivial, (by rw [hv, hsN]; rfl), ?_⟩
  refine oj_run TT rfl ?_
  (repeat (first | refine oj_then ?_ | refine cj_ret ?_))
  refine nj_ret TT rfl fun β w' _ _ => ?_
  rfl
end Go.Sy
namespace Go.Sy
open Go.Proofs

/-! ### value.Count -/

mutual
/-- How many values. -/
def cntV : GVal → Nat
  | .mk _ _ _ _ l _ vs => 1 + (cntL l + cntL vs)
def cntL : List GVal → Nat
  | [] => 0
  | g :: gs => cntV g + cntL gs
end

theorem cntV_eq (g : GVal) : cntV g = 1 + (cntL g.l + cntL g.vs) := by cases g; rw [cntV]; rfl

theorem cntL_append : ∀ a b : List GVal, cntL (a ++ b) = cntL a + cntL b
  | [], b => by simp [cntL]
  | g :: a, b => by simp only [List.cons_append, cntL, cntL_append a b]; omega

theorem cntL_take {gs : List GVal} {k : Nat} {g : GVal} (h : gs[k]? = some g) : cntL (gs.take (k + 1)) = cntL (gs.take k) + cntV g := by
  rw [List.take_add_one, h, cntL_append]
  simp [cntL]

mutual
theorem cntV_le : ∀ g : GVal, cntV g ≤ g.weight
  | .mk k b n s l ks vs => by
    simp only [cntV, GVal.weight]
    have := cntL_le l
    have := cntL_le vs
    omega
theorem cntL_le : ∀ gs : List GVal, cntL gs ≤ GVal.weights gs
  | [] => by simp [cntL]
  | g :: gs => by
    simp only [cntL, GVal.weights]
    have := cntV_le g
    have := cntL_le gs
    omega
end

theorem cntL_take_le (gs : List GVal) (k : Nat) : cntL (gs.take k) ≤ cntL gs := by
  have := cntL_append (gs.take k) (gs.drop k)
  rw [List.take_append_drop] at this
  omega

mutual
/-- As many as the records. -/
theorem shredV_cnt (gap : Int) : ∀ (g : GVal) (lv : Int) (nm : Bool) (name : ByteArray) (now : Int), g.wf → (shredV gap g lv nm name now).1.length = cntV g
  | .mk k b n s l ks vs, lv, nm, name, now, h => by
    simp only [GVal.wf] at h
    simp only [shredV, List.length_cons, List.length_append, cntV, shredL_cnt gap l _ _ h.2.1, shredM_cnt gap vs ks _ _ h.1 h.2.2]
    omega
theorem shredL_cnt (gap : Int) : ∀ (gs : List GVal) (lv now : Int), GVal.wfs gs → (shredL gap gs lv now).1.length = cntL gs
  | [], lv, now, _ => by simp [shredL, cntL]
  | g :: gs, lv, now, h => by
    simp only [GVal.wfs] at h
    simp only [shredL, List.length_append, cntL, shredV_cnt gap g _ _ _ _ h.1, shredL_cnt gap gs _ _ h.2]
theorem shredM_cnt (gap : Int) : ∀ (gs : List GVal) (ks : List ByteArray) (lv now : Int), ks.length = gs.length → GVal.wfs gs → (shredM gap gs ks lv now).1.length = cntL gs
  | [], ks, lv, now, _, _ => by simp [shredM, cntL]
  | g :: gs, [], lv, now, h, _ => by simp at h
  | g :: gs, k :: ks, lv, now, h, h' => by
    simp only [GVal.wfs] at h'
    simp only [shredM, List.length_append, cntL, shredV_cnt gap g _ _ _ _ h'.1, shredM_cnt gap gs ks _ _ (by simpa using h) h'.2]
end

set_option maxRecDepth 100000 in
set_option maxHeartbeats 1000000 in
theorem Count_c (g : GVal) : ∀ (σ : Snap) (r : List AT), RepV σ g r → g.weight ≤ 1000000 → PlainS Tryd.prog 25 [.agg r] σ (fun v => v = .int .i64 (cntV g)) := by
  induction g using GVal.byWeight with | _ g ih => ?_
  intro σ r hr hw
  obtain ⟨la, lc, lrows, ma, mc, vrows, rfl, V⟩ := hr.open
  have hil := in_len g
  have hkv := V.kv
  have hle0 := cntV_le g
  have hlen : (g.l ++ g.vs).length = g.l.length + g.ks.length := by rw [List.length_append, hkv]
  have htot : cntL (g.l ++ g.vs) + 1 = cntV g := by rw [cntV_eq, cntL_append]; omega
  refine enter_p Tryd.func25 rfl rfl (by (repeat' (first | exact trivial | exact vCells_lt _ _ _ _ _ _ | constructor))) fun w => ?_
  (repeat (first | refine cj_seq ?_ | (refine cj_region ?_; refine oj_run TT rfl ?_) | refine oj_then ?_))
  refine oj_callS rfl rfl rfl rfl rfl Tryd.call75 (by (repeat' (first | exact trivial | exact vCells_lt _ _ _ _ _ _ | constructor))) (inside_c σ g la lc lrows ma mc vrows V (by omega)) fun v σ' hle ⟨ao, cap, hv, H⟩ => ⟨.a (.v (.slice ao (g.l.length + g.ks.length) cap)), trivial, hv.symm, ?_⟩
  have R : RepL σ' (g.l ++ g.vs) (lrows ++ vrows) := RepL.append (V.l.mono hle) (V.v.mono hle)
  refine oj_run TT rfl ?_
  (repeat (first | refine oj_then ?_ | refine cj_block ?_))
  refine cj_loop (fun (_ : Nat) => σ') (fun k => [(3, .a (.v (.int .i64 (1 + cntL ((g.l ++ g.vs).take k) : Nat)))), (7, .a (.v (.slice ao (g.l.length + g.ks.length) cap))), (8, .a (.v (.int .i64 (g.l.length + g.ks.length : Nat)))), (9, .a (.v (.int .i64 k)))])
    (fun _ => []) (fun _ => []) 0 (fun k => k ≤ g.l.length + g.ks.length) (fun k => g.l.length + g.ks.length - k) 0 (Nat.zero_le _) rfl (by (repeat (first | exact trivial | refine And.intro rfl ?_))) (by (repeat (first | exact trivial | refine And.intro rfl ?_))) rfl (by (repeat' (first | exact trivial | constructor))) (by (repeat' exact trivial)) fun k hk => ?_
  have hcb := cntL_take_le (g.l ++ g.vs) k
  (repeat (first | refine cj_seq ?_ | (refine cj_region ?_; refine oj_run TT rfl ?_) | refine oj_then ?_))
  refine cj_if rfl (fun h => ?_) (fun h => ?_)
  · have hkl : k < g.l.length + g.ks.length := by have := of_decide_eq_true h; omega
    have hkl' : k < (g.l ++ g.vs).length := by omega
    have hget := List.getElem?_eq_getElem hkl'
    obtain ⟨r, hr1, hr2⟩ := R.get hget
    obtain ⟨la', lc', lrows', ma', mc', vrows', rfl, V'⟩ := hr2.open
    have hwx := in_weight (List.getElem_mem hkl')
    have hcx := cntV_le (g.l ++ g.vs)[k]
    (repeat (first | refine cj_seq ?_ | (refine cj_region ?_; refine oj_run TT rfl ?_) | refine cj_skip ?_ | refine cj_block ?_ | refine nj_then ?_))
    refine oj_idx TT rfl rfl rfl rfl rfl rfl rfl rfl rfl H (by omega) hr1 (oj_run TT rfl ?_)
    (repeat (first | (refine cj_region ?_; refine oj_run TT rfl ?_) | refine oj_then ?_))
    refine oj_callP rfl rfl rfl rfl rfl Tryd.call25 (by (repeat' (first | exact trivial | exact vCells_lt _ _ _ _ _ _ | constructor))) (ih _ hwx σ' _ V'.rep (by omega)) fun v hv => ⟨.a (.v (.int .i64 (cntV (g.l ++ g.vs)[k]))), trivial, hv.symm, ?_⟩
    refine oj_run TT rfl ?_
    (repeat (first | (refine cj_region ?_; refine oj_run TT rfl ?_) | refine oj_nil ?_ | refine nj_then ?_ | refine nj_block ?_ | (refine oj_add rfl rfl rfl rfl rfl rfl (by omega) ?_; refine oj_run TT rfl ?_)))
    have e : ((1 + cntL ((g.l ++ g.vs).take (k + 1)) : Nat) : Int) = ((1 + cntL ((g.l ++ g.vs).take k) : Nat) : Int) + (cntV (g.l ++ g.vs)[k] : Nat) := by
      rw [cntL_take hget]
      omega
    refine nj_again (k + 1) hkl (by omega) rfl (by rw [e]; (repeat (first | exact trivial | refine And.intro rfl ?_))) (by (repeat (first | exact trivial | refine And.intro rfl ?_))) rfl (by (repeat' (first | exact trivial | constructor))) (by (repeat' exact trivial))
  · have hk0 : k = (g.l ++ g.vs).length := by have := of_decide_eq_false h; omega
    subst hk0
    rw [List.take_length]
    have e : 1 + cntL (g.l ++ g.vs) = cntV g := by omega
    rw [e]
    (repeat (first | refine cj_seq ?_ | (refine cj_region ?_; refine oj_run TT rfl ?_) | refine oj_then ?_ | refine cj_exit ?_ | refine cj_ret ?_ | refine nj_then ?_ | refine nj_then_exit ?_ | refine nj_block_out ?_))
    refine nj_ret TT rfl fun β w' _ _ => ?_
    rfl

/-! ### ShredBack -/

theorem shredG_k {g : GVal} {gap : Int} (h1 : 1 ≤ gap) (h2 : gap ≤ 1000) : shredG g gap = if sane g ≠ 0 then ([], sane g) else ((shredV gap g 0 false emptyS 0).1, 0) := by
  unfold shredG
  rw [if_neg (by omega)]

set_option maxRecDepth 100000 in
set_option maxHeartbeats 1000000 in
theorem ShredBack_c (σ : Snap) (g : GVal) (r : List AT) (gap : Int) (hr : RepV σ g r) :
    PlainS Tryd.prog 4 [.agg r, .a (.v (.int .i64 gap))] σ (fun v => v = .bool true) := by
  obtain ⟨la, lc, lrows, ma, mc, vrows, rfl, V⟩ := hr.open
  refine enter_p Tryd.func4 rfl rfl (by (repeat' (first | exact trivial | exact vCells_lt _ _ _ _ _ _ | constructor))) fun w => ?_
  (repeat (first | refine cj_seq ?_ | (refine cj_region ?_; refine oj_run TT rfl ?_) | refine oj_then ?_))
  refine oj_callP rfl rfl rfl rfl rfl Tryd.call18 (by (repeat' exact trivial)) (awake11_c σ) fun v hv => ⟨.a .tt, trivial, hv.symm, ?_⟩
  refine oj_run TT rfl ?_
  (repeat (first | refine cj_seq ?_ | (refine cj_region ?_; refine oj_run TT rfl ?_) | refine oj_then ?_))
  refine oj_callP rfl rfl rfl rfl rfl Tryd.call19 (by (repeat' (first | exact trivial | exact vCells_lt _ _ _ _ _ _ | constructor))) (Few_c σ g _ 1500 V.rep (by omega) (by omega)) fun v ⟨fb, hv, hfew⟩ => ⟨.a (.b fb), trivial, hv.symm, ?_⟩
  refine oj_run TT rfl ?_
  (repeat refine oj_then ?_)
  refine cj_if rfl (fun h => ?_) (fun h => ?_)
  · (repeat (first | refine cj_seq ?_ | (refine cj_region ?_; refine oj_run TT rfl ?_) | refine oj_then ?_ | refine cj_ret ?_ | refine nj_then_ret ?_))
    refine nj_ret TT rfl fun β w' _ _ => ?_
    rfl
  have hw : g.weight ≤ 1500 := by
    have := hfew (by simpa using h)
    omega
  have hmask := bAnd_le gap 65535 (by omega) (by omega)
  (repeat (first | refine cj_seq ?_ | (refine cj_region ?_; refine oj_run TT rfl ?_) | refine cj_skip ?_ | refine nj_then ?_ | (refine oj_band rfl rfl rfl rfl rfl rfl ?_; refine oj_run TT rfl ?_)))
  generalize bAnd .i64 gap 65535 = m at hmask ⊢
  refine oj_rem rfl rfl rfl rfl rfl rfl (by omega) ?_
  have hm1 : 0 ≤ m.tmod 1000 := Int.tmod_nonneg _ hmask.1
  have hm2 : m.tmod 1000 < 1000 := Int.tmod_lt_of_pos _ (by omega)
  generalize m.tmod 1000 = j at hm1 hm2 ⊢
  refine oj_run TT rfl ?_
  (repeat (first | refine cj_seq ?_ | (refine cj_region ?_; refine oj_run TT rfl ?_) | refine oj_then ?_ | (refine oj_add rfl rfl rfl rfl rfl rfl (by omega) ?_; refine oj_run TT rfl ?_)))
  refine oj_callS rfl rfl rfl rfl rfl Tryd.call21 ⟨vCells_lt _ _ _ _ _ _, trivial, trivial⟩ (Shred_s σ g _ (1 + j) V.rep (by omega)) fun v σ1 hle1 ⟨ao, cap, hv, H⟩ => ⟨.tup [.a (.v (.slice ao (shredG g (1 + j)).1.length cap)), .a (.v (.int .i64 (shredG g (1 + j)).2))], (by (repeat' (first | exact trivial | refine SV.lt_tup ?_ | constructor))), hv.symm, ?_⟩
  rw [shredG_k (by omega) (by omega)] at H ⊢
  have V := V.monoC hle1.cle
  by_cases hs : sane g ≠ 0
  · rw [if_pos hs] at H ⊢
    dsimp only at H ⊢
    refine oj_run TT rfl ?_
    (repeat (first | refine cj_seq ?_ | (refine cj_region ?_; refine oj_run TT rfl ?_) | refine oj_then ?_))
    refine cj_if rfl (fun h => ?_) (fun h => ?_)
    rotate_left
    · exact absurd (by simpa using h) hs
    (repeat (first | refine cj_seq ?_ | (refine cj_region ?_; refine oj_run TT rfl ?_)))
    refine oj_callP rfl rfl rfl rfl rfl Tryd.call20 (by (repeat' (first | exact trivial | exact vCells_lt _ _ _ _ _ _ | constructor))) (Sane_c σ1 g _ V.rep (by omega)) fun v hv => ⟨.a (.v (.int .i64 (sane g))), trivial, hv.symm, ?_⟩
    refine oj_run TT rfl ?_
    skip
    refine oj_split 35 rfl (fun h => ?_) (fun h => absurd h (by simp))
    refine oj_run TT rfl ?_
    (repeat (first | refine oj_then ?_ | refine cj_ret ?_ | refine nj_then_ret ?_))
    refine nj_ret TT rfl fun β w' _ _ => ?_
    rfl
  have hs : sane g = 0 := by simpa using hs
  rw [if_neg (by simp [hs])] at H ⊢
  dsimp only at H ⊢
  obtain ⟨hlen1, hlen2⟩ := shredV_len (1 + j) g 0 false emptyS 0
  have hcnt := shredV_cnt (1 + j) g 0 false emptyS 0 V.rep.wf
  have hfit := shredV_fit (1 + j) g _ 0 false emptyS 0 V.rep (by decide)
  have hkk : (1 + j) * (cntV g : Int) ≤ 1000 * 1500 := Int.mul_le_mul (by omega) (by omega) (by omega) (by omega)
  have hbd : buildR (shredV (1 + j) g 0 false emptyS 0).1 = (g, 0) := by
    have := buildR_shred (φ := fun x => x) (fun a b _ h => h) (gap := 1 + j) (by omega) (by omega) g V.rep.wf hs (by omega) (by rw [hlen2, hcnt, Int.mul_assoc]; omega)
    rw [stE_id, List.map_id] at this
    exact this
  have hBG : buildG (shredV (1 + j) g 0 false emptyS 0).1 = (g, []) := by
    have := build_shred (fun x => x) (1 + j) g false emptyS 0 V.rep.wf
    rw [stE_id, List.map_id] at this
    exact this
  have hsound : soundG (shredV (1 + j) g 0 false emptyS 0).1 = true := by
    unfold soundG
    rw [hbd]
    rfl
  have hhd : ∃ x, (shredV (1 + j) g 0 false emptyS 0).1[0]? = some x ∧ x.st = 1 + j ∧ x.en = (shredV (1 + j) g 0 false emptyS 0).2 := by rw [shredV_eq]; exact ⟨_, rfl, by simp, rfl⟩
  generalize hL : (shredV (1 + j) g 0 false emptyS 0).1 = L at *
  refine oj_run TT rfl ?_
  (repeat (first | refine cj_seq ?_ | (refine cj_region ?_; refine oj_run TT rfl ?_) | refine oj_then ?_))
  refine cj_if rfl (fun h => ?_) (fun h => ?_)
  · exact absurd h (by decide)
  (repeat (first | refine cj_seq ?_ | (refine cj_region ?_; refine oj_run TT rfl ?_) | refine cj_skip ?_ | refine nj_then ?_))
  refine oj_callS rfl rfl rfl rfl rfl Tryd.call22 ⟨trivial, trivial⟩ (Build_c σ1 L (by simp only [mostLen]; omega) hfit (fun _ => by rw [hBG]; show g.weight ≤ _; omega) ao cap H) fun v σ2 hle2 ⟨rb, hv, hrep⟩ => ⟨.tup [.agg rb, .a (.v (.int .i64 (buildR L).2))], SV.lt_tup ⟨hrep.clo, trivial, trivial⟩, hv.symm, ?_⟩
  rw [hbd] at hrep ⊢
  dsimp only at hrep ⊢
  have V := V.monoC hle2.cle
  have H := H.mono hle2
  obtain ⟨xla, xlc, xlrows, xma, xmc, xvrows, rfl, XV⟩ := hrep.open
  refine oj_run TT rfl ?_
  (repeat (first | refine cj_seq ?_ | (refine cj_region ?_; refine oj_run TT rfl ?_) | refine oj_then ?_))
  refine oj_split 50 rfl (fun h => ?_) (fun h => absurd h (by decide))
  refine oj_run TT rfl ?_
  skip
  refine oj_callP rfl rfl rfl rfl rfl Tryd.call23 (by (repeat' (first | exact trivial | exact vCells_lt _ _ _ _ _ _ | constructor))) (Exact_c g σ2 g _ _ V.rep XV.rep) fun v hv => ⟨.a .tt, trivial, by rw [hv, exactG_self g V.rep.wf]; rfl, ?_⟩
  refine oj_run TT rfl ?_
  skip
  refine oj_callP rfl rfl rfl rfl rfl Tryd.call25 (by (repeat' (first | exact trivial | exact vCells_lt _ _ _ _ _ _ | constructor))) (Count_c g σ2 _ V.rep (by omega)) fun v hv => ⟨.a (.v (.int .i64 (cntV g))), trivial, hv.symm, ?_⟩
  refine oj_run TT rfl ?_
  skip
  refine oj_split 62 rfl (fun h => ?_) (fun h => absurd h (by simp [hcnt]))
  refine oj_run TT rfl ?_
  skip
  obtain ⟨x, hx, hx1, hx2⟩ := hhd
  have hrow := recRows_get hx
  have hL0 : 0 < L.length := (List.getElem?_eq_some_iff.1 hx).1
  have hoff : ∀ y : Int, y = 1 + j → (decide (y = 1 + j)) = true := fun y hy => decide_eq_true hy
  refine oj_idx TT rfl rfl rfl rfl rfl rfl rfl rfl rfl H (by omega) hrow (oj_run TT rfl ?_)
  skip
  refine oj_split 70 rfl (fun h => ?_) (fun h => absurd (hoff _ hx1) (by rw [h]; decide))
  refine oj_run TT rfl ?_
  skip
  refine oj_idx TT rfl rfl rfl rfl rfl rfl rfl rfl rfl H (by omega) hrow (oj_run TT rfl ?_)
  skip
  refine oj_mul rfl rfl rfl rfl rfl rfl (by omega) (oj_run TT rfl ?_)
  skip
  refine oj_mul rfl rfl rfl rfl rfl rfl ?_ (oj_run TT rfl ?_)
  · have hk0 : 0 ≤ (1 + j) * (cntV g : Int) := Int.mul_nonneg (by omega) (by omega)
    rw [hcnt, Int.mul_assoc]
    omega
  skip
  refine oj_split 82 rfl (fun h => ?_) (fun h => absurd (show (decide (x.en = 2 * (1 + j) * (L.length : Int))) = true from decide_eq_true (by rw [hx2, hlen2]; omega)) (by rw [h]; decide))
  refine oj_run TT rfl ?_
  skip
  refine oj_callP rfl rfl rfl rfl rfl Tryd.call24 (by (repeat' (first | exact trivial | constructor))) (Sound_c σ2 L (by simp only [mostLen]; omega) hfit (fun _ => by rw [hBG]; show g.weight ≤ _; omega) ao cap H) fun v hv => ⟨.a .tt, trivial, by rw [hv, hsound]; rfl, ?_⟩
  refine oj_run TT rfl ?_
  (repeat (first | refine oj_then ?_ | refine cj_ret ?_))
  refine nj_ret TT rfl fun β w' _ _ => ?_
  rfl
end Go.Sy
namespace Go.Sy
open Go.Proofs

/-! ### last, kids -/

/-- How many records at the front begin before 'en'. -/
def runL (en : Int) : List GRec → Nat
  | [] => 0
  | r :: l => if r.st < en then runL en l + 1 else 0
def runK (L : List GRec) (en : Int) (k : Nat) : Nat := k + runL en (L.drop k)

theorem runL_le (en : Int) : ∀ l : List GRec, runL en l ≤ l.length
  | [] => Nat.le_refl _
  | r :: l => by
    have := runL_le en l
    simp only [runL, List.length_cons]
    split <;> omega
theorem runK_le (L : List GRec) (en : Int) {k : Nat} (h : k ≤ L.length) : runK L en k ≤ L.length := by
  unfold runK
  have := runL_le en (L.drop k)
  rw [List.length_drop] at this
  omega
theorem runK_ge (L : List GRec) (en : Int) (k : Nat) : k ≤ runK L en k := Nat.le_add_right _ _
theorem runK_end (L : List GRec) (en : Int) : runK L en L.length = L.length := by unfold runK; rw [List.drop_length]; rfl
theorem runK_step (L : List GRec) (en : Int) {k : Nat} (h : k < L.length) : runK L en k = if L[k].st < en then runK L en (k + 1) else k := by
  unfold runK
  rw [List.drop_eq_getElem_cons h, runL]
  split <;> omega

/-- The children that stand from k on, under what ends at en. -/
def kidsF (L : List GRec) (en : Int) : Nat → Nat → List Nat
  | 0, _ => []
  | n + 1, k => if h : k < L.length then (if L[k].st < en then k :: kidsF L en n (runK L L[k].en (k + 1)) else []) else []
def kidsG (L : List GRec) (i : Nat) : List Nat := kidsF L ((L[i]?.map GRec.en).getD 0) L.length (i + 1)

theorem kidsF_len (L : List GRec) (en : Int) : ∀ n k, (kidsF L en n k).length ≤ L.length - k
  | 0, _ => by simp [kidsF]
  | n + 1, k => by
    unfold kidsF
    split
    · rename_i h
      split
      · have := kidsF_len L en n (runK L L[k].en (k + 1))
        have := runK_ge L L[k].en (k + 1)
        rw [List.length_cons]
        omega
      · simp
    · simp

set_option maxRecDepth 100000 in
set_option maxHeartbeats 1000000 in
theorem last_c (σ : Snap) (L : List GRec) (hL : L.length ≤ mostLen) (ao : Option Addr) (cap : Nat) (H : SlAt σ ao L.length cap 11 (recRows L)) (i : Nat) (hi : i < L.length) :
    PlainS Tryd.prog 88 [.a (.v (.slice ao L.length cap)), .a (.v (.int .i64 i))] σ (fun v => v = .int .i64 ((runK L L[i].en (i + 1) : Nat) - 1)) := by
  simp only [mostLen] at hL
  have hrow := recRows_get (List.getElem?_eq_getElem hi)
  generalize L[i] = x at *
  refine enter_p Tryd.func88 rfl rfl (by (repeat' (first | exact trivial | constructor))) fun w => ?_
  (repeat (first | refine cj_seq ?_ | (refine cj_region ?_; refine oj_run TT rfl ?_) | refine oj_then ?_ | refine cj_block ?_ | (refine oj_add rfl rfl rfl rfl rfl rfl (by omega) ?_; refine oj_run TT rfl ?_)))
  refine cj_loop (fun _ => σ) (fun (k : Nat) => [(0, .a (.v (.slice ao L.length cap))), (1, .a (.v (.int .i64 i))), (5, .a (.v (.int .i64 (k : Int))))]) (fun _ => []) (fun _ => []) 0
    (fun k => k ≤ L.length ∧ runK L x.en k = runK L x.en (i + 1)) (fun k => L.length - k) (i + 1) ⟨hi, rfl⟩ rfl (by (repeat (first | exact trivial | refine And.intro rfl ?_))) (by (repeat (first | exact trivial | refine And.intro rfl ?_))) rfl (by (repeat' (first | exact trivial | constructor))) (by (repeat' exact trivial)) fun k ⟨hk, hp⟩ => ?_
  (repeat refine cj_seq ?_)
  refine cj_draw [(0,.pure),(1,.pure),(2,.pure),(3,.pure),(4,.pure),(5,.pure),(6,.pure),(7,.pure),(8,.pure),(9,.quiet),(10,.pure),(11,.pure),(12,.pure),(13,.pure),(14,.quiet),(15,.pure),(16,.pure)] mixed (by kernel_rfl) (oj_run TT rfl ?_)
  refine oj_split 12 rfl (fun h => ?_) (fun h => ?_)
  rotate_left
  · have hk0 : k = L.length := by have := of_decide_eq_false h; omega
    subst hk0
    rw [runK_end] at hp
    refine oj_run TT rfl ?_
    (repeat (first | refine cj_seq ?_ | (refine cj_region ?_; refine oj_run TT rfl ?_) | refine oj_then ?_ | refine cj_if_f rfl ?_ | refine cj_exit ?_ | refine cj_ret ?_ | refine nj_then ?_ | refine nj_then_exit ?_ | refine nj_block_out ?_ | (refine oj_minus rfl rfl rfl rfl rfl rfl (by omega) ?_; refine oj_run TT rfl ?_)))
    refine nj_ret TT rfl fun β w' _ _ => ?_
    rw [← hp]
    rfl
  have hkl : k < L.length := by have := of_decide_eq_true h; omega
  have hrow1 := recRows_get (List.getElem?_eq_getElem hkl)
  rw [runK_step L x.en hkl] at hp
  generalize L[k] = y at *
  refine oj_run TT rfl ?_
  refine oj_idx TT rfl rfl rfl rfl rfl rfl rfl rfl rfl H (by omega) hrow1 (oj_run TT rfl ?_)
  refine oj_idx TT rfl rfl rfl rfl rfl rfl rfl rfl rfl H (by omega) hrow (oj_run TT rfl ?_)
  (repeat refine oj_then ?_)
  refine cj_if rfl (fun h => ?_) (fun h => ?_)
  · rw [if_pos (of_decide_eq_true h)] at hp
    (repeat (first | (refine cj_region ?_; refine oj_run TT rfl ?_) | refine oj_nil ?_ | refine cj_skip ?_ | refine cj_block ?_ | refine nj_then ?_ | refine nj_block ?_ | (refine oj_add rfl rfl rfl rfl rfl rfl (by omega) ?_; refine oj_run TT rfl ?_)))
    refine nj_again (k + 1) ⟨hkl, hp⟩ (by omega) rfl (by (repeat (first | exact trivial | refine And.intro rfl ?_))) (by (repeat (first | exact trivial | refine And.intro rfl ?_))) rfl (by (repeat' (first | exact trivial | constructor))) (by (repeat' exact trivial))
  · rw [if_neg (of_decide_eq_false h)] at hp
    (repeat (first | refine cj_seq ?_ | (refine cj_region ?_; refine oj_run TT rfl ?_) | refine oj_then ?_ | refine cj_exit ?_ | refine cj_ret ?_ | refine nj_then ?_ | refine nj_then_exit ?_ | refine nj_block_out ?_ | (refine oj_minus rfl rfl rfl rfl rfl rfl (by omega) ?_; refine oj_run TT rfl ?_)))
    refine nj_ret TT rfl fun β w' _ _ => ?_
    rw [← hp]
    rfl

def intVs' (o : List Nat) : List Value := o.map fun (k : Nat) => Value.int .i64 k
def kidRows (o : List Nat) : List (List AT) := o.map fun (k : Nat) => [.v (.int .i64 k)]
def kdE (oo : Option Addr) (oc : Nat) (o : List Nat) : AE := ⟨oo, o.length, oc, 3, 1, intVs' o⟩

theorem kidRows_flat : ∀ o : List Nat, intVs' o = (kidRows o).flatten.map AT.val
  | [] => rfl
  | k :: o => by
    show Value.int .i64 k :: intVs' o = _
    rw [kidRows_flat o]
    rfl

structure KdS where
  k : Nat
  n : Nat
  o : List Nat
  oo : Option Addr
  oc : Nat

theorem kd_sealed {σ : Snap} {oo : Option Addr} {oc : Nat} {o : List Nat} (h : ArrSealed σ (kdE oo oc o)) (hc : o.length ≤ oc) : SlAt σ oo o.length oc 1 (kidRows o) :=
  h.sl (E := kdE oo oc o) (kidRows_flat o) (fun r hr => by
    obtain ⟨k, _, rfl⟩ := List.mem_map.1 hr
    exact ⟨rfl, fun c hc => by cases hc with | head => trivial | tail _ h => cases h⟩) (by simp [kidRows]) rfl hc

set_option maxRecDepth 100000 in
set_option maxHeartbeats 1000000 in
theorem kids_c (σ : Snap) (L : List GRec) (hL : L.length ≤ 100000) (ao : Option Addr) (cap : Nat) (H : SlAt σ ao L.length cap 11 (recRows L)) (i : Nat) (hi : i < L.length) :
    PureS Tryd.prog 77 [.a (.v (.slice ao L.length cap)), .a (.v (.int .i64 i))] σ (fun v σ' => ∃ oo oc, v = .slice oo (kidsG L i).length oc ∧ SlAt σ' oo (kidsG L i).length oc 1 (kidRows (kidsG L i))) := by
  have hrow := recRows_get (List.getElem?_eq_getElem hi)
  have hG : kidsG L i = kidsF L L[i].en L.length (i + 1) := by unfold kidsG; rw [List.getElem?_eq_getElem hi]; rfl
  rw [hG]
  generalize L[i] = x at *
  refine enter_s Tryd.func77 rfl rfl (by (repeat' (first | exact trivial | constructor))) fun w => ?_
  (repeat (first | refine cj_seq ?_ | (refine cj_region ?_; refine oj_run TT rfl ?_) | refine oj_then ?_ | refine cj_block ?_ | (refine oj_add rfl rfl rfl rfl rfl rfl (by omega) ?_; refine oj_run TT rfl ?_)))
  refine cj_nilarr 3 1 ?_
  skip
  refine cj_loop (fun _ => σ) (fun (s : KdS) => [(0, .a (.v (.slice ao L.length cap))), (1, .a (.v (.int .i64 i))), (5, .a (.v (.slice s.oo s.o.length s.oc))), (6, .a (.v (.int .i64 (s.k : Int))))]) (fun _ => []) (fun s => [kdE s.oo s.oc s.o]) 0
    (fun s => s.k ≤ L.length ∧ L.length < s.k + s.n ∧ s.o ++ kidsF L x.en s.n s.k = kidsF L x.en L.length (i + 1) ∧ s.o.length ≤ s.oc ∧ s.o.length ≤ s.k) (fun s => L.length - s.k) ⟨i + 1, L.length, [], none, 0⟩ ⟨hi, by dsimp only; omega, rfl, Nat.le_refl _, Nat.zero_le _⟩ rfl (by (repeat (first | exact trivial | refine And.intro rfl ?_))) (by (repeat (first | exact trivial | refine And.intro rfl ?_))) rfl (by (repeat' (first | exact trivial | constructor))) (by (repeat' exact trivial)) fun ⟨k, n, o, oo, oc⟩ ⟨hk, hkn, hp, hoc, hok⟩ => ?_
  dsimp only at hk hkn hp hoc hok ⊢
  obtain ⟨n, rfl⟩ : ∃ m, n = m + 1 := ⟨n - 1, by omega⟩
  (repeat refine cj_seq ?_)
  refine cj_draw [(0,.pure),(1,.pure),(2,.pure),(3,.pure),(4,.pure),(5,.pure),(6,.pure),(7,.pure),(8,.pure),(9,.quiet),(10,.pure),(11,.pure),(12,.pure),(13,.pure),(14,.quiet),(15,.pure),(16,.pure)] mixed (by kernel_rfl) (oj_run TT rfl ?_)
  have stop : ∀ e : kidsF L x.en (n + 1) k = [], o = kidsF L x.en L.length (i + 1) := fun e => by rw [e, List.append_nil] at hp; exact hp
  refine oj_split 13 rfl (fun h => ?_) (fun h => ?_)
  rotate_left
  · have hk0 : ¬ k < L.length := by have := of_decide_eq_false h; omega
    have e := stop (by rw [kidsF, dif_neg hk0])
    refine oj_run TT rfl ?_
    (repeat (first | refine cj_seq ?_ | (refine cj_region ?_; refine oj_run TT rfl ?_) | refine oj_then ?_ | refine cj_if_f rfl ?_ | refine cj_exit ?_ | refine cj_ret ?_ | refine nj_then ?_ | refine nj_then_exit ?_ | refine nj_block_out ?_))
    refine nj_seal 0 rfl rfl fun σ' hle' hS => ?_
    refine nj_ret TT rfl fun β w' _ _ => ?_
    rw [← e]
    exact ⟨oo, oc, rfl, kd_sealed hS hoc⟩
  have hkl : k < L.length := by have := of_decide_eq_true h; omega
  have hrow1 := recRows_get (List.getElem?_eq_getElem hkl)
  have hlast := last_c σ L (by simp only [mostLen]; omega) ao cap H k hkl
  rw [kidsF, dif_pos hkl] at hp stop
  generalize L[k] = y at *
  refine oj_run TT rfl ?_
  refine oj_idx TT rfl rfl rfl rfl rfl rfl rfl rfl rfl H (by omega) hrow1 (oj_run TT rfl ?_)
  refine oj_idx TT rfl rfl rfl rfl rfl rfl rfl rfl rfl H (by omega) hrow (oj_run TT rfl ?_)
  (repeat refine oj_then ?_)
  refine cj_if rfl (fun h => ?_) (fun h => ?_)
  rotate_left
  · have e := stop (if_neg (of_decide_eq_false h))
    (repeat (first | refine cj_seq ?_ | (refine cj_region ?_; refine oj_run TT rfl ?_) | refine oj_then ?_ | refine cj_exit ?_ | refine cj_ret ?_ | refine nj_then ?_ | refine nj_then_exit ?_ | refine nj_block_out ?_))
    refine nj_seal 0 rfl rfl fun σ' hle' hS => ?_
    refine nj_ret TT rfl fun β w' _ _ => ?_
    rw [← e]
    exact ⟨oo, oc, rfl, kd_sealed hS hoc⟩
  rw [if_pos (of_decide_eq_true h)] at hp
  have hr1 := runK_ge L y.en (k + 1)
  have hr2 := runK_le L y.en (k := k + 1) hkl
  (repeat (first | refine cj_seq ?_ | (refine cj_region ?_; refine oj_run TT rfl ?_) | refine cj_skip ?_ | refine cj_block ?_ | refine nj_then ?_))
  refine oj_append_lit TT 0 rfl rfl rfl rfl rfl rfl rfl rfl rfl rfl rfl rfl rfl rfl rfl rfl rfl rfl (by (repeat' (first | exact trivial | refine AllLt.of ?_ | constructor))) rfl (by omega) (by show (o.length + 1) * 8 ≤ _; omega) fun ao' cap' hcap' => oj_run TT rfl ?_
  obtain ⟨q, hq⟩ : ∃ q, runK L y.en (k + 1) = q + 1 := ⟨runK L y.en (k + 1) - 1, by omega⟩
  rw [hq] at hlast hp hr1 hr2
  have hq' : ((q + 1 : Nat) : Int) - 1 = q := by omega
  rw [hq'] at hlast
  (repeat (first | (refine cj_region ?_; refine oj_run TT rfl ?_) | refine oj_nil ?_ | refine nj_then ?_ | refine nj_block ?_))
  refine oj_callP rfl rfl rfl rfl rfl Tryd.call88 (by (repeat' (first | exact trivial | constructor))) hlast fun v hv => ⟨.a (.v (.int .i64 q)), trivial, hv.symm, ?_⟩
  refine oj_run TT rfl ?_
  (repeat (first | refine oj_nil ?_ | (refine oj_add rfl rfl rfl rfl rfl rfl (by omega) ?_; refine oj_run TT rfl ?_)))
  refine nj_again ⟨q + 1, n, o ++ [k], ao', cap'⟩ ⟨hr2, by dsimp only; omega, by dsimp only; rw [List.append_assoc]; exact hp, by dsimp only; rw [List.length_append]; exact hcap', by dsimp only; rw [List.length_append, List.length_singleton]; omega⟩ (by dsimp only; omega) rfl ?_ (by (repeat (first | exact trivial | refine And.intro rfl ?_))) ?_ (by (repeat' (first | exact trivial | constructor))) (by (repeat' exact trivial))
  · refine ⟨rfl, rfl, ?_, rfl, trivial⟩
    dsimp only
    rw [List.length_append]
    rfl
  · unfold kdE
    dsimp only
    rw [List.length_append]
    simp only [intVs', List.map_append]
    rfl

set_option maxRecDepth 100000 in
set_option maxHeartbeats 1000000 in
theorem Kids_c (σ : Snap) (L : List GRec) (R : RecsOk L) (ao : Option Addr) (cap : Nat) (H : SlAt σ ao L.length cap 11 (recRows L)) (i : Nat) (hi : i < L.length) (hs : soundG L = true) (hL : L.length ≤ 100000) :
    PureS Tryd.prog 26 [.a (.v (.slice ao L.length cap)), .a (.v (.int .i64 i))] σ (fun v σ' => ∃ oo oc, v = .slice oo (kidsG L i).length oc ∧ SlAt σ' oo (kidsG L i).length oc 1 (kidRows (kidsG L i))) := by
  have hat : atG L i = true := by
    unfold atG
    rw [hs]
    simp
    omega
  refine enter_s Tryd.func26 rfl rfl (by (repeat' (first | exact trivial | constructor))) fun w => ?_
  (repeat (first | refine cj_seq ?_ | (refine cj_region ?_; refine oj_run TT rfl ?_) | refine oj_then ?_))
  refine oj_callP rfl rfl rfl rfl rfl Tryd.call76 (by (repeat' (first | exact trivial | constructor))) (at_c σ L R ao cap H i) fun v hv => ⟨.a .tt, trivial, by rw [hv, hat]; rfl, ?_⟩
  refine oj_run TT rfl ?_
  (repeat (first | refine cj_seq ?_ | (refine cj_region ?_; refine oj_run TT rfl ?_) | refine oj_then ?_ | refine cj_if_f rfl ?_ | refine cj_skip ?_ | refine nj_then ?_))
  refine oj_callS rfl rfl rfl rfl rfl Tryd.call77 ⟨trivial, trivial, trivial⟩ (kids_c σ L hL ao cap H i hi) fun v σ1 hle ⟨oo, oc, hv, hS⟩ => ⟨.a (.v (.slice oo (kidsG L i).length oc)), trivial, hv.symm, ?_⟩
  refine oj_run TT rfl ?_
  (repeat (first | refine oj_then ?_ | refine cj_ret ?_))
  refine nj_ret TT rfl fun β w' _ _ => ?_
  exact ⟨oo, oc, rfl, hS⟩
end Go.Sy
/- Plain laws about the shred as a list: whose records stand under whose. -/
namespace Go.Sy

def se (r : GRec) : Int × Int := (r.st, r.en)
abbrev Sk := List (Int × Int)
def runP (en : Int) : Sk → Nat
  | [] => 0
  | x :: l => if x.1 < en then runP en l + 1 else 0
def kidsP (S : Sk) (en : Int) : Nat → Nat → List Nat
  | 0, _ => []
  | n + 1, k => match S[k]? with
    | none => []
    | some x => if x.1 < en then k :: kidsP S en n (k + 1 + runP x.2 (S.drop (k + 1))) else []
def kidsAt (S : Sk) (i : Nat) : List Nat := kidsP S ((S[i]?.map (·.2)).getD 0) S.length (i + 1)

theorem runL_se (en : Int) : ∀ l : List GRec, runL en l = runP en (l.map se)
  | [] => rfl
  | r :: l => by simp only [runL, List.map_cons, runP, runL_se en l, se]
theorem kidsF_se (L : List GRec) (en : Int) : ∀ n k, kidsF L en n k = kidsP (L.map se) en n k
  | 0, _ => rfl
  | n + 1, k => by
    unfold kidsF kidsP
    by_cases h : k < L.length
    · rw [dif_pos h, List.getElem?_map, List.getElem?_eq_getElem h]
      simp only [Option.map_some, se, runK, runL_se, List.map_drop, kidsF_se L en n]
    · rw [dif_neg h, List.getElem?_map, List.getElem?_eq_none (by omega)]
      rfl
theorem kidsG_se (L : List GRec) (i : Nat) : kidsG L i = kidsAt (L.map se) i := by
  unfold kidsG kidsAt
  rw [kidsF_se, List.length_map, List.getElem?_map, Option.map_map]
  rfl

mutual
/-- How far a value's numbers reach. -/
def wV (gap : Int) : GVal → Int
  | .mk _ _ _ _ l _ vs => gap + (wL gap l + wL gap vs) + gap
def wL (gap : Int) : List GVal → Int
  | [] => 0
  | g :: gs => wV gap g + wL gap gs
end
mutual
/-- A value's numbers. -/
def skV (gap : Int) : GVal → Int → Sk
  | .mk _ _ _ _ l _ vs, now => (now + gap, now + (gap + (wL gap l + wL gap vs) + gap)) :: (skL gap l (now + gap) ++ skL gap vs (now + gap + wL gap l))
def skL (gap : Int) : List GVal → Int → Sk
  | [], _ => []
  | g :: gs, now => skV gap g now ++ skL gap gs (now + wV gap g)
end

theorem wL_append (gap : Int) : ∀ a b : List GVal, wL gap (a ++ b) = wL gap a + wL gap b
  | [], b => by simp [wL]
  | g :: a, b => by simp only [List.cons_append, wL, wL_append gap a b]; omega
theorem skL_append (gap : Int) : ∀ (a b : List GVal) (now : Int), skL gap (a ++ b) now = skL gap a now ++ skL gap b (now + wL gap a)
  | [], b, now => by simp [skL, wL]
  | g :: a, b, now => by
    simp only [List.cons_append, skL, wL, skL_append gap a b, List.append_assoc]
    congr 3
    omega
theorem skV_eq (gap : Int) (g : GVal) (now : Int) : skV gap g now = (now + gap, now + wV gap g) :: skL gap (g.l ++ g.vs) (now + gap) := by
  cases g
  rw [skL_append]
  simp only [skV, wV, GVal.l, GVal.vs]
theorem wV_eq (gap : Int) (g : GVal) : wV gap g = gap + wL gap (g.l ++ g.vs) + gap := by
  cases g
  rw [wL_append]
  simp only [wV, GVal.l, GVal.vs]

mutual
theorem shredV_sk (gap : Int) : ∀ (g : GVal) (lv : Int) (nm : Bool) (name : ByteArray) (now : Int), g.wf → (shredV gap g lv nm name now).1.map se = skV gap g now ∧ (shredV gap g lv nm name now).2 = now + wV gap g
  | .mk k b n s l ks vs, lv, nm, name, now, h => by
    simp only [GVal.wf] at h
    obtain ⟨h1, h2⟩ := shredL_sk gap l (lv + 1) (now + gap) h.2.1
    obtain ⟨h3, h4⟩ := shredM_sk gap vs ks (lv + 1) (shredL gap l (lv + 1) (now + gap)).2 h.1 h.2.2
    rw [h2] at h3 h4
    simp only [shredV, skV, wV, List.map_cons, List.map_append, h2, h3, h4, h1, se]
    refine ⟨?_, by omega⟩
    congr 2
    omega
theorem shredL_sk (gap : Int) : ∀ (gs : List GVal) (lv now : Int), GVal.wfs gs → (shredL gap gs lv now).1.map se = skL gap gs now ∧ (shredL gap gs lv now).2 = now + wL gap gs
  | [], lv, now, _ => by simp [shredL, skL, wL]
  | g :: gs, lv, now, h => by
    simp only [GVal.wfs] at h
    obtain ⟨h1, h2⟩ := shredV_sk gap g lv false ⟨#[]⟩ now h.1
    obtain ⟨h3, h4⟩ := shredL_sk gap gs lv (shredV gap g lv false ⟨#[]⟩ now).2 h.2
    rw [h2] at h3 h4
    simp only [shredL, skL, wL, List.map_append, h1, h2, h3, h4]
    exact ⟨trivial, by omega⟩
theorem shredM_sk (gap : Int) : ∀ (gs : List GVal) (ks : List ByteArray) (lv now : Int), ks.length = gs.length → GVal.wfs gs → (shredM gap gs ks lv now).1.map se = skL gap gs now ∧ (shredM gap gs ks lv now).2 = now + wL gap gs
  | [], ks, lv, now, _, _ => by simp [shredM, skL, wL]
  | g :: gs, [], lv, now, h, _ => by simp at h
  | g :: gs, k :: ks, lv, now, h, h' => by
    simp only [GVal.wfs] at h'
    obtain ⟨h1, h2⟩ := shredV_sk gap g lv true k now h'.1
    obtain ⟨h3, h4⟩ := shredM_sk gap gs ks lv (shredV gap g lv true k now).2 (by simpa using h) h'.2
    rw [h2] at h3 h4
    simp only [shredM, skL, wL, List.map_append, h1, h2, h3, h4]
    exact ⟨trivial, by omega⟩
end

mutual
theorem wV_pos {gap : Int} (hg : 0 < gap) : ∀ g : GVal, 0 < wV gap g
  | .mk _ _ _ _ l _ vs => by
    simp only [wV]
    have := wL_nn hg l
    have := wL_nn hg vs
    omega
theorem wL_nn {gap : Int} (hg : 0 < gap) : ∀ gs : List GVal, 0 ≤ wL gap gs
  | [] => by simp [wL]
  | g :: gs => by
    simp only [wL]
    have := wV_pos hg g
    have := wL_nn hg gs
    omega
end

mutual
theorem skV_bd {gap : Int} (hg : 0 < gap) : ∀ (g : GVal) (now : Int), ∀ x ∈ skV gap g now, now < x.1 ∧ x.1 < x.2 ∧ x.2 ≤ now + wV gap g
  | .mk k b n s l ks vs, now, x, hx => by
    have h1 := wL_nn hg l
    have h2 := wL_nn hg vs
    simp only [skV, wV] at hx ⊢
    rcases List.mem_cons.1 hx with rfl | hx
    · dsimp only; omega
    rcases List.mem_append.1 hx with hx | hx
    · have := skL_bd hg l _ x hx; omega
    · have := skL_bd hg vs _ x hx; omega
theorem skL_bd {gap : Int} (hg : 0 < gap) : ∀ (gs : List GVal) (now : Int), ∀ x ∈ skL gap gs now, now < x.1 ∧ x.1 < x.2 ∧ x.2 ≤ now + wL gap gs
  | [], now, x, hx => by simp [skL] at hx
  | g :: gs, now, x, hx => by
    have h1 := wV_pos hg g
    have h2 := wL_nn hg gs
    simp only [skL, wL] at hx ⊢
    rcases List.mem_append.1 hx with hx | hx
    · have := skV_bd hg g _ x hx; omega
    · have := skL_bd hg gs _ x hx; omega
end

mutual
theorem skV_len (gap : Int) : ∀ (g : GVal) (now : Int), (skV gap g now).length = cntV g
  | .mk k b n s l ks vs, now => by
    simp only [skV, cntV, List.length_cons, List.length_append, skL_len gap l, skL_len gap vs]
    omega
theorem skL_len (gap : Int) : ∀ (gs : List GVal) (now : Int), (skL gap gs now).length = cntL gs
  | [], now => by simp [skL, cntL]
  | g :: gs, now => by simp only [skL, cntL, List.length_append, skV_len gap g, skL_len gap gs]
end

/-- What follows begins at 'en' or behind. -/
def front (en : Int) (rest : Sk) : Prop := ∀ x, rest.head? = some x → en ≤ x.1

theorem runP_block {en : Int} {rest : Sk} (hr : front en rest) : ∀ B : Sk, (∀ x ∈ B, x.1 < en) → runP en (B ++ rest) = B.length
  | [], _ => by
    cases rest with
    | nil => rfl
    | cons x l =>
      have := hr x rfl
      simp only [List.nil_append, runP, List.length_nil]
      rw [if_neg (by omega)]
  | x :: B, h => by
    simp only [List.cons_append, runP, List.length_cons]
    rw [if_pos (h x List.mem_cons_self), runP_block hr B fun y hy => h y (List.mem_cons_of_mem _ hy)]

def pos : List GVal → Nat → List Nat
  | [], _ => []
  | g :: gs, p => p :: pos gs (p + cntV g)

theorem drop_at {S : Sk} {p : Nat} {x : Int × Int} {T : Sk} (h : S.drop p = x :: T) : S[p]? = some x ∧ S.drop (p + 1) = T := by
  constructor
  · have : (S.drop p)[0]? = some x := by rw [h]; rfl
    simpa using this
  · rw [← List.drop_drop, h]
    rfl
theorem drop_blk {S B T : Sk} {p : Nat} (h : S.drop p = B ++ T) : S.drop (p + B.length) = T := by
  rw [← List.drop_drop, h, List.drop_left]

theorem cntV_pos (g : GVal) : 0 < cntV g := by rw [cntV_eq]; omega

theorem front_skL {gap : Int} (hg : 0 < gap) {en now : Int} {rest : Sk} (gs : List GVal) (hr : front en rest) (he : now + wL gap gs ≤ en) : front now (skL gap gs now ++ rest) := by
  intro x hx
  cases gs with
  | nil =>
    have := hr x (by simpa [skL] using hx)
    simp only [wL] at he
    omega
  | cons g gs =>
    simp only [skL, skV_eq, List.cons_append, List.head?_cons, Option.some.injEq] at hx
    subst hx
    dsimp only
    omega

theorem kidsP_pos {gap : Int} (hg : 0 < gap) {S : Sk} {en : Int} {rest : Sk} (hr : front en rest) : ∀ (gs : List GVal) (p : Nat) (now : Int) (n : Nat), S.drop p = skL gap gs now ++ rest → now + wL gap gs ≤ en → gs.length < n →
    kidsP S en n p = pos gs p
  | [], p, now, n, h, he, hn => by
    obtain ⟨n, rfl⟩ : ∃ m, n = m + 1 := ⟨n - 1, by simp at hn; omega⟩
    unfold kidsP pos
    cases hx : S[p]? with
    | none => rfl
    | some x =>
      have h0 : (S.drop p)[0]? = some x := by simpa using hx
      rw [h] at h0
      have := hr x (by rw [List.head?_eq_getElem?]; simpa [skL] using h0)
      dsimp only
      rw [if_neg (by omega)]
  | g :: gs, p, now, n, h, he, hn => by
    obtain ⟨n, rfl⟩ : ∃ m, n = m + 1 := ⟨n - 1, by omega⟩
    have hw := wL_nn hg gs
    have hlen := skV_len gap g now
    simp only [skL, wL, List.append_assoc] at h he
    have h3 := drop_blk h
    have hbd := skV_bd hg g now
    rw [skV_eq] at h hlen h3 hbd
    rw [List.cons_append] at h
    obtain ⟨h1, h2⟩ := drop_at h
    have hx := hbd _ List.mem_cons_self
    dsimp only at hx
    rw [List.length_cons] at hlen
    have hf : front (now + wV gap g) (skL gap gs (now + wV gap g) ++ rest) := front_skL hg gs hr (by omega)
    unfold kidsP pos
    rw [h1]
    dsimp only
    rw [if_pos (by omega), h2, runP_block hf _ (fun y hy => by have := hbd y (List.mem_cons_of_mem _ hy); omega), show p + 1 + (skL gap (g.l ++ g.vs) (now + gap)).length = p + cntV g by omega,
      kidsP_pos hg hr gs (p + cntV g) (now + wV gap g) n (by rw [← h3, List.length_cons, hlen]) (by omega) (by simp at hn; omega)]

theorem pos_cnt (gs : List GVal) : gs.length ≤ cntL gs := by
  induction gs with
  | nil => simp
  | cons g gs ih =>
    have := cntV_pos g
    simp only [List.length_cons, cntL]
    omega

def chain (S : Sk) (en : Int) : Int → List Nat → Prop
  | _, [] => True
  | last, m :: ms => ∃ x, S[m]? = some x ∧ last < x.1 ∧ x.2 < en ∧ chain S en x.2 ms

theorem chain_pos {gap : Int} (hg : 0 < gap) {S : Sk} {en : Int} {rest : Sk} : ∀ (gs : List GVal) (p : Nat) (now last : Int), S.drop p = skL gap gs now ++ rest → now + wL gap gs < en → last ≤ now → chain S en last (pos gs p)
  | [], _, _, _, _, _, _ => trivial
  | g :: gs, p, now, last, h, he, hl => by
    have hw := wL_nn hg gs
    have hlen := skV_len gap g now
    simp only [skL, wL, List.append_assoc] at h he
    have h3 := drop_blk h
    rw [hlen] at h3
    rw [skV_eq, List.cons_append] at h
    obtain ⟨h1, _⟩ := drop_at h
    exact ⟨_, h1, by dsimp only; omega, by dsimp only; omega, chain_pos hg gs _ _ _ h3 (by omega) (Int.le_refl _)⟩

/-- How often m is a child of the n records from a on. -/
def sumP (S : Sk) (m a : Nat) : Nat → Nat
  | 0 => 0
  | n + 1 => sumP S m a n + (kidsAt S (a + n)).count m
theorem sumP_add (S : Sk) (m a n : Nat) : ∀ k, sumP S m a (n + k) = sumP S m a n + sumP S m (a + n) k
  | 0 => rfl
  | k + 1 => by
    have e : a + (n + k) = a + n + k := by omega
    show sumP S m a (n + k) + (kidsAt S (a + (n + k))).count m = sumP S m a n + (sumP S m (a + n) k + (kidsAt S (a + n + k)).count m)
    rw [sumP_add S m a n k, e]
    omega

def ind (a b m : Nat) : Nat := if a ≤ m ∧ m < b then 1 else 0
theorem ind_t {a b m : Nat} (h : a ≤ m ∧ m < b) : ind a b m = 1 := if_pos h
theorem ind_f {a b m : Nat} (h : ¬ (a ≤ m ∧ m < b)) : ind a b m = 0 := if_neg h

def okAt (S : Sk) (i : Nat) : Prop := ∃ x, S[i]? = some x ∧ chain S x.2 x.1 (kidsAt S i)

def TreeOk (gap : Int) (g : GVal) : Prop := ∀ (S : Sk) (p : Nat) (now : Int) (rest : Sk), S.drop p = skV gap g now ++ rest → front (now + wV gap g) rest →
  (∀ i, p ≤ i → i < p + cntV g → okAt S i) ∧ ∀ m, sumP S m p (cntV g) = ind (p + 1) (p + cntV g) m

theorem sibs_ok {gap : Int} (hg : 0 < gap) : ∀ gs : List GVal, (∀ g ∈ gs, TreeOk gap g) → ∀ (S : Sk) (p : Nat) (now : Int) (rest : Sk), S.drop p = skL gap gs now ++ rest → front (now + wL gap gs) rest →
    (∀ i, p ≤ i → i < p + cntL gs → okAt S i) ∧ ∀ m, sumP S m p (cntL gs) + (pos gs p).count m = ind p (p + cntL gs) m
  | [], _, S, p, now, rest, h, hr => by
    simp only [cntL]
    refine ⟨fun i h1 h2 => by omega, fun m => ?_⟩
    rw [ind_f (by omega)]
    rfl
  | g :: gs, ih, S, p, now, rest, h, hr => by
    have hlen := skV_len gap g now
    have hc := cntV_pos g
    simp only [skL, wL, List.append_assoc] at h hr
    have h3 := drop_blk h
    rw [hlen] at h3
    rw [← Int.add_assoc] at hr
    obtain ⟨a1, a2⟩ := ih g List.mem_cons_self S p now _ h (front_skL hg gs hr (Int.le_refl _))
    obtain ⟨b1, b2⟩ := sibs_ok hg gs (fun x hx => ih x (List.mem_cons_of_mem _ hx)) S (p + cntV g) (now + wV gap g) rest h3 hr
    simp only [cntL, pos]
    refine ⟨fun i h1 h2 => ?_, fun m => ?_⟩
    · by_cases hi : i < p + cntV g
      · exact a1 i h1 hi
      · exact b1 i (by omega) (by omega)
    · have a2 := a2 m
      have b2 := b2 m
      rw [sumP_add, List.count_cons]
      by_cases hm : p = m
      · subst hm
        simp only [beq_self_eq_true, if_true]
        rw [ind_f (by omega)] at a2
        rw [ind_f (by omega)] at b2
        rw [ind_t (by omega)]
        omega
      · rw [if_neg (by simpa using hm)]
        by_cases h1 : p < m ∧ m < p + cntV g
        · rw [ind_t (by omega)] at a2
          rw [ind_f (by omega)] at b2
          rw [ind_t (by omega)]
          omega
        · rw [ind_f (by omega)] at a2
          by_cases h2 : p + cntV g ≤ m ∧ m < p + cntV g + cntL gs
          · rw [ind_t (by omega)] at b2
            rw [ind_t (by omega)]
            omega
          · rw [ind_f (by omega)] at b2
            rw [ind_f (by omega)]
            omega

theorem tree_ok {gap : Int} (hg : 0 < gap) (g : GVal) : TreeOk gap g := by
  induction g using GVal.byWeight with | _ g ih => ?_
  intro S p now rest h hr
  have hlen := skV_len gap g now
  have hce := cntV_eq g
  rw [← cntL_append] at hce
  have hwe := wV_eq gap g
  have hlS : cntV g ≤ S.length := by
    have := congrArg List.length h
    rw [List.length_append, hlen, List.length_drop] at this
    omega
  rw [skV_eq, List.cons_append] at h
  obtain ⟨h1, h2⟩ := drop_at h
  have hr' : front (now + gap + wL gap (g.l ++ g.vs)) rest := fun x hx => by have := hr x hx; omega
  obtain ⟨b1, b2⟩ := sibs_ok hg (g.l ++ g.vs) (fun x hx => ih x (in_weight hx)) S (p + 1) (now + gap) rest h2 hr'
  have hk : kidsAt S p = pos (g.l ++ g.vs) (p + 1) := by
    unfold kidsAt
    rw [h1]
    exact kidsP_pos hg hr (g.l ++ g.vs) (p + 1) (now + gap) S.length h2 (by omega) (by have := pos_cnt (g.l ++ g.vs); omega)
  refine ⟨fun i h3 h4 => ?_, fun m => ?_⟩
  · by_cases hi : i = p
    · subst hi
      refine ⟨_, h1, ?_⟩
      rw [hk]
      exact chain_pos hg (g.l ++ g.vs) (i + 1) (now + gap) _ h2 (by dsimp only; omega) (by dsimp only; omega)
    · exact b1 i (by omega) (by omega)
  · have b2 := b2 m
    rw [hce, sumP_add]
    show 0 + (kidsAt S p).count m + _ = _
    rw [hk]
    by_cases hm : p + 1 ≤ m ∧ m < p + 1 + cntL (g.l ++ g.vs)
    · rw [ind_t hm] at b2
      rw [ind_t (by omega)]
      omega
    · rw [ind_f hm] at b2
      rw [ind_f (by omega)]
      omega

/-- THE COUNTS OF A SHRED: every record but the first is met once. -/
theorem shred_tree {gap : Int} (hg : 0 < gap) (g : GVal) (lv : Int) (nm : Bool) (name : ByteArray) (hw : g.wf) :
    (∀ i, i < cntV g → okAt ((shredV gap g lv nm name 0).1.map se) i) ∧ ∀ m, sumP ((shredV gap g lv nm name 0).1.map se) m 0 (cntV g) = ind 1 (cntV g) m := by
  rw [(shredV_sk gap g lv nm name 0 hw).1]
  obtain ⟨h1, h2⟩ := tree_ok hg g (skV gap g 0) 0 0 [] (by simp) (fun x hx => by cases hx)
  refine ⟨fun i hi => h1 i (Nat.zero_le _) (by omega), fun m => ?_⟩
  rw [h2 m]
  simp only [Nat.zero_add]
end Go.Sy
/- Arrays that are made; the less of two numbers. No program in sight. -/
namespace Go.Sy

section
variable {cf : Cf} {σ : Snap} {hp : HP} {A : List AE} {β : Nat → Addr} {w : World}
theorem StW.undrew {o : Obj} (h : StW cf σ hp A β (w.drew.alloc o)) : StW cf σ hp A β (w.alloc o) :=
  ⟨h.os, h.tape, h.output, h.size, h.fr, h.sealed, h.le, h.grow, h.loc, h.ro, h.inj, h.arr, h.arrd, h.arrh⟩
end

theorem madeCells_one (v : Value) (n : Nat) : madeCells #[v] n = (List.replicate n v).toArray := by
  apply Array.ext
  · simp [madeCells]
  · intro i h1 h2
    simp [madeCells, Nat.mod_one]

section
variable {cf : Cf} {Q : Exit → Act → World → Prop} {σ : Snap} {env : Env} {hp : HP} {A : List AE} {nh : Nat} {it : Item} {rest : List Item}

/-- 'make([]T, n)', T one cell. -/
theorem oj_makeSlice {d : Nat} {t e n : Nat} {x y : Operand} {T : List (Nat × TI)} (hT : TTok cf.P T) {ti te : TI} {c0 : AT} (hop : it.o.op = .makeSlice t x y) (hd : it.o.dst = some d) (hg : guardVal it.guard env = some true) (hN : Nat.blt d cf.N = true)
    (htg : canSink it.tag = true) (hx : evalO env x = some (.a (.v (.int .i64 n)))) (hy : evalO env y = some (.a (.v (.int .i64 n)))) (ht : tget T t = some ti) (hkt : ti.kind = .slice e) (hte : tget T e = some te) (hsz : te.size = 1) (hze : te.zero = [c0])
    (_ : c0.lt 0) (hby : n * te.bytes ≤ 281474976710656) (hmax : n ≤ 1000000000)
    (hk : ∀ g, OJ cf rest Q σ ((d, .a (.v (.slice (some ⟨g, 0, none⟩) n n))) :: env) hp (A ++ [⟨some ⟨g, 0, none⟩, n, n, e, 1, List.replicate n c0.val⟩]) nh) : OJ cf (it :: rest) Q σ env hp A nh := by
  refine oj_step hd hg hN htg fun hb a β ha w hw => ?_
  obtain ⟨i1, d1, z1, hs1⟩ := tiOf_spec (hT _ _ ht)
  obtain ⟨i3, d3, z3, hs3⟩ := tiOf_spec (hT _ _ hte)
  have hut : cf.P.underlying t = some (.slice e) := by
    have h1 := hs1.kind
    rw [hkt] at h1
    have h2 := hs1.und
    cases d1 <;> first
      | (simp only [kindD, TK.slice.injEq] at h1; subst h1; exact h2)
      | (simp only [kindD] at h1; cases h1)
  have hz3 : z3.cells = #[c0.val] := by
    have := zero_den hs3 β0
    rw [← this, hze]
    rfl
  have hxe : a.eval x = .int .i64 n := evalO_eval ha hx
  have hye : a.eval y = .int .i64 n := evalO_eval ha hy
  have hrun := run_make (P := cf.P) w t e i3 z3 hut hs3.info hs3.zero .i64 .i64 n n (by omega) (Int.le_refl _) (by rw [hs3.bytes]; rw [← Int.natCast_mul, Nat.mul_comm]; omega) (by omega)
  rw [hs3.size, hsz, Int.toNat_natCast, Nat.mul_one, hz3, madeCells_one] at hrun
  have hm := ((StW.nilArr e 1).1 hw).moveArr (i := A.length) (E := ⟨none, 0, 0, e, 1, []⟩) (E' := ⟨some ⟨w.heap.size, 0, none⟩, n, n, e, 1, List.replicate n c0.val⟩) (cur' := (List.replicate n c0.val).toArray) (by simp) rfl (Nat.le_refl _) (by simp only [maxLen]; omega) (by simp) (by simp) (by simp)
  have hset : (A ++ [(⟨none, 0, 0, e, 1, []⟩ : AE)]).set A.length ⟨some ⟨w.heap.size, 0, none⟩, n, n, e, 1, List.replicate n c0.val⟩ = A ++ [⟨some ⟨w.heap.size, 0, none⟩, n, n, e, 1, List.replicate n c0.val⟩] := by
    rw [List.set_append_right _ _ (Nat.le_refl _), Nat.sub_self]
    rfl
  rw [hset] at hm
  refine ⟨.a (.v (.slice (some ⟨w.heap.size, 0, none⟩) n n)), σ, hp, _, nh, _, β, ?_, ha, hb.put (x := .a (.v (.slice (some ⟨w.heap.size, 0, none⟩) n n))) trivial d, hm.undrew, hk w.heap.size⟩
  simp only [execOp, hop, hxe, hye, Sem.run_bind, hrun, Result.andThen_ok, Sem.run_pure]
  rfl

/-- 'min' (true) or 'max' of two. -/
def mmOf : Op → Option (Bool × Operand × Operand)
  | .call c =>
    match c.callee, c.args.toList with
    | .builtin .min, [x, y] => some (true, x, y)
    | .builtin .max, [x, y] => some (false, x, y)
    | _, _ => none
  | _ => none

theorem mmOf_run {o : Oper} {b : Bool} {x y : Operand} (h : mmOf o.op = some (b, x, y)) {P : Program} {a : Act} {w : World} {k : IntKind} {m n : Int} (hx : a.eval x = .int k m) (hy : a.eval y = .int k n) :
    (execOp a.eval o).run P w = .ok (.value (.int k (if b then (if n < m then n else m) else (if n > m then n else m)))) w := by
  unfold mmOf at h
  split at h
  · rename_i c hop
    have e1 : ∀ l, c.args.toList = l → c.args = l.toArray := fun l hl => by
      cases hq : c.args with
      | mk l' => rw [hq] at hl; simp only at hl; rw [hl]
    split at h
    · rename_i x' y' hcal hargs
      injection h with h
      simp only [Prod.mk.injEq] at h
      obtain ⟨rfl, rfl, rfl⟩ := h
      simp only [execOp, hop, resolve, hcal, e1 _ hargs, invoke, builtin, Sem.run_bind, Sem.run_pure, Result.andThen_ok, List.map_toArray, List.map_cons, List.map_nil, Builtin.min_, hx, hy, List.foldlM_cons, List.foldlM_nil, Builtin.min2]
      rfl
    · rename_i x' y' hcal hargs
      injection h with h
      simp only [Prod.mk.injEq] at h
      obtain ⟨rfl, rfl, rfl⟩ := h
      simp only [execOp, hop, resolve, hcal, e1 _ hargs, invoke, builtin, Sem.run_bind, Sem.run_pure, Result.andThen_ok, List.map_toArray, List.map_cons, List.map_nil, Builtin.max_, hx, hy, List.foldlM_cons, List.foldlM_nil, Builtin.max2]
      rfl
    · cases h
  · cases h

theorem oj_mm {d : Nat} {b : Bool} {x y : Operand} {m n : Int} (hop : mmOf it.o.op = some (b, x, y)) (hd : it.o.dst = some d) (hg : guardVal it.guard env = some true) (hN : Nat.blt d cf.N = true) (htag : (match it.tag with | .pure => false | _ => true) = true)
    (hx : evalO env x = some (.a (.v (.int .i64 m)))) (hy : evalO env y = some (.a (.v (.int .i64 n))))
    (k : OJ cf rest Q σ ((d, .a (.v (.int .i64 (if b then (if n < m then n else m) else (if n > m then n else m))))) :: env) hp A nh) : OJ cf (it :: rest) Q σ env hp A nh :=
  oj_valW (.a (.v (.int .i64 (if b then (if n < m then n else m) else (if n > m then n else m))))) hd hg hN trivial htag
    (fun _ _ β ha _ _ => mmOf_run hop (evalO_eval (β := β) ha hx) (evalO_eval (β := β) ha hy)) k
end
end Go.Sy
