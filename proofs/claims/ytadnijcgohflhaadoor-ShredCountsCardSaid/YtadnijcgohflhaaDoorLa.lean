/- Plain laws on a value's records: they are nested, named, and the value is built of them again. No program in sight. -/
import Derived.Test.YtadnijcgohflhaaDoorF15
namespace Go.Sy

/-- A record with its numbers turned. -/
def stE (φ : Int → Int) (r : GRec) : GRec := ⟨φ r.st, φ r.en, r.lv, r.kd, r.nm, r.name, r.b, r.n, r.s⟩
def Incr (φ : Int → Int) : Prop := ∀ a b, 0 ≤ a → a < b → φ a < φ b

theorem stE_id : stE (fun x => x) = id := by funext r; rfl

/-! ### Kinds -/

mutual
def kindOk : GVal → Prop
  | .mk k _ _ _ l _ vs => (l ≠ [] → k ≠ 5) ∧ (vs ≠ [] → k = 5) ∧ kindOks l ∧ kindOks vs
def kindOks : List GVal → Prop
  | [] => True
  | g :: gs => kindOk g ∧ kindOks gs
end

theorem fields_kind {g : GVal} (h : fieldsG g = true) : (g.l ≠ [] → g.kind = 4) ∧ (g.ks ≠ [] → g.kind = 5) := by
  have key : ∀ (P : Prop) (hl : g.l = [] ∨ P) (_ : g.l ≠ []), P := fun P hl h => hl.resolve_left h
  by_cases h0 : g.kind = 0
  · rw [fieldsG_0 h0] at h
    simp only [Bool.and_eq_true, decide_eq_true_eq, List.length_eq_zero_iff] at h
    exact ⟨fun hh => absurd h.1.2 hh, fun hh => absurd h.2 hh⟩
  by_cases h1 : g.kind = 1
  · rw [fieldsG_1 h1] at h
    simp only [Bool.and_eq_true, decide_eq_true_eq, List.length_eq_zero_iff] at h
    exact ⟨fun hh => absurd h.1.2 hh, fun hh => absurd h.2 hh⟩
  by_cases h2 : g.kind = 2
  · rw [fieldsG_2 h2] at h
    simp only [Bool.and_eq_true, decide_eq_true_eq, List.length_eq_zero_iff] at h
    exact ⟨fun hh => absurd h.1.2 hh, fun hh => absurd h.2 hh⟩
  by_cases h3 : g.kind = 3
  · rw [fieldsG_3 h3] at h
    simp only [Bool.and_eq_true, decide_eq_true_eq, List.length_eq_zero_iff] at h
    exact ⟨fun hh => absurd h.1.2 hh, fun hh => absurd h.2 hh⟩
  by_cases h4 : g.kind = 4
  · rw [fieldsG_4 h4] at h
    simp only [Bool.and_eq_true, decide_eq_true_eq, List.length_eq_zero_iff] at h
    exact ⟨fun _ => h4, fun hh => absurd h.2 hh⟩
  by_cases h5 : g.kind = 5
  · rw [fieldsG_5 h5] at h
    simp only [Bool.and_eq_true, decide_eq_true_eq, List.length_eq_zero_iff] at h
    exact ⟨fun hh => absurd h.2 hh, fun _ => h5⟩
  · rw [fieldsG_x h0 h1 h2 h3 h4 h5] at h; cases h

mutual
theorem sane_kind : ∀ (g : GVal) (deep c : Int), g.wf → (saneG g deep c).1 = 0 → kindOk g
  | .mk k b n s l ks vs, deep, c, hw, h => by
    simp only [GVal.wf] at hw
    simp only [saneG] at h
    split at h
    · simp at h
    rename_i hf
    have hf : fieldsG (.mk k b n s l ks vs) = true := by simpa using hf
    obtain ⟨h1, h2⟩ := fields_kind hf
    simp only [GVal.l, GVal.ks, GVal.kind] at h1 h2
    split at h
    · simp at h
    split at h
    · simp at h
    split at h
    · simp at h
    simp only [kindOk]
    have hl : (saneL l deep (c + 1)).1 = 0 := by
      by_cases h0 : (saneL l deep (c + 1)).1 = 0
      · exact h0
      · rw [if_pos h0] at h; exact h
    rw [if_neg (by simp [hl])] at h
    refine ⟨fun hh e => ?_, fun hh => h2 fun e => hh ?_, sane_kinds l _ _ hw.2.1 hl, sane_kinds vs _ _ hw.2.2 h⟩
    · have := h1 hh; omega
    · have := hw.1
      rw [e] at this
      exact List.eq_nil_of_length_eq_zero this.symm
theorem sane_kinds : ∀ (gs : List GVal) (deep c : Int), GVal.wfs gs → (saneL gs deep c).1 = 0 → kindOks gs
  | [], _, _, _, _ => trivial
  | g :: gs, deep, c, hw, h => by
    simp only [GVal.wfs] at hw
    simp only [saneL] at h
    have hg : (saneG g (deep + 1) c).1 = 0 := by
      by_cases h0 : (saneG g (deep + 1) c).1 = 0
      · exact h0
      · rw [if_pos h0] at h; exact h
    rw [if_neg (by simp [hg])] at h
    exact ⟨sane_kind g _ _ hw.1 hg, sane_kinds gs _ _ hw.2 h⟩
end

/-! ### nested -/

theorem closeTo_same {lv : Int} {ro : List GRec} (e : Int) (h : (ro.length : Int) = lv) : closeTo lv ro e = some (ro, e) := by
  cases ro with
  | nil => rfl
  | cons t ro =>
    simp only [List.length_cons] at h
    rw [closeTo, if_neg (by omega)]

theorem closeTo_suffix : ∀ (lv : Int) (ro : List GRec) (last : Int) (p : List GRec × Int), closeTo lv ro last = some p → ∃ x, ro = x ++ p.1
  | lv, [], last, p, h => by simp only [closeTo, Option.some.injEq] at h; subst h; exact ⟨[], rfl⟩
  | lv, t :: ro, last, p, h => by
    simp only [closeTo] at h
    split at h
    · split at h
      · cases h
      · obtain ⟨x, hx⟩ := closeTo_suffix lv ro t.en p h
        exact ⟨t :: x, by rw [hx]; rfl⟩
    · simp only [Option.some.injEq] at h; subst h; exact ⟨[], rfl⟩

theorem closeTo_trans : ∀ (ro1 ro : List GRec) (last1 last : Int), closeTo ro.length (ro1 ++ ro) last1 = some (ro, last) → ∀ lv : Int, lv ≤ ro.length → closeTo lv (ro1 ++ ro) last1 = closeTo lv ro last
  | [], ro, last1, last, h, lv, hl => by
    rw [List.nil_append, closeTo_same last1 rfl] at h
    simp only [Option.some.injEq, Prod.mk.injEq, true_and] at h
    rw [h, List.nil_append]
  | t :: ro1, ro, last1, last, h, lv, hl => by
    simp only [List.cons_append, closeTo, List.length_append] at h ⊢
    rw [if_pos (by omega)] at h ⊢
    split at h
    · cases h
    · rename_i he
      rw [if_neg he]
      exact closeTo_trans ro1 ro t.en last h lv hl

theorem closeAll_of : ∀ (ro : List GRec) (last e : Int), closeTo 0 ro last = some ([], e) → closeAll ro last = true
  | [], _, _, _ => rfl
  | t :: ro, last, e, h => by
    simp only [closeTo] at h
    rw [if_pos (by omega)] at h
    split at h
    · cases h
    · rename_i he
      simp only [closeAll, if_neg he]
      exact closeAll_of ro t.en e h

/-- Where nestFrom is: closing down to a level leaves ro, and this last number. -/
structure AtN (lv : Int) (ro0 : List GRec) (last0 : Int) (ro : List GRec) (last : Int) : Prop where
  cl : closeTo lv ro0 last0 = some (ro, last)
  len : (ro.length : Int) = lv
  le : lv ≤ ro0.length

section
variable {φ : Int → Int} (hφ : Incr φ) {gap : Int} (hg : 1 ≤ gap)
include hφ hg

mutual
theorem nestV : ∀ (g : GVal) (lv : Int) (nm : Bool) (name : ByteArray) (now : Int) (k : Nat) (ro0 ro : List GRec) (last0 last : Int) (rest : List GRec), AtN lv ro0 last0 ro last → 0 ≤ lv → decide (lv = 0) = decide ((k : Int) = 0) → 0 ≤ now → last < φ (now + gap) →
    ∃ ro1 last1, AtN lv ro1 last1 ro (φ (shredV gap g lv nm name now).2) ∧ nestFrom k ro0 last0 ((shredV gap g lv nm name now).1.map (stE φ) ++ rest) = nestFrom (k + (shredV gap g lv nm name now).1.length) ro1 last1 rest
  | .mk kd b n s l ks vs, lv, nm, name, now, k, ro0, ro, last0, last, rest, hA, h0, hk, hn, hl => by
    simp only [shredV, List.map_cons, List.map_append, List.cons_append, List.append_assoc, nestFrom, stE, List.length_cons, List.length_append]
    have h1 := (shredL_len gap l (lv + 1) (now + gap)).2
    have h2 := (shredM_len gap vs ks (lv + 1) (shredL gap l (lv + 1) (now + gap)).2).2
    have e1 : 0 ≤ 2 * gap * ((shredL gap l (lv + 1) (now + gap)).1.length : Int) := Int.mul_nonneg (by omega) (by omega)
    have e2 : 0 ≤ 2 * gap * ((shredM gap vs ks (lv + 1) (shredL gap l (lv + 1) (now + gap)).2).1.length : Int) := Int.mul_nonneg (by omega) (by omega)
    have hlen := hA.len
    have hle := hA.le
    rw [if_neg (by rw [hk]; simp; omega), hA.cl]
    simp only []
    rw [if_neg (by omega)]
    generalize hr0 : (⟨φ (now + gap), φ ((shredM gap vs ks (lv + 1) (shredL gap l (lv + 1) (now + gap)).2).2 + gap), lv, kd, nm, name, b, n, s⟩ : GRec) = r0
    have hst : r0.st = φ (now + gap) := by rw [← hr0]
    have hen : r0.en = φ ((shredM gap vs ks (lv + 1) (shredL gap l (lv + 1) (now + gap)).2).2 + gap) := by rw [← hr0]
    obtain ⟨ro1, last1, last2, hA1, hl2, he1⟩ := nestL l (lv + 1) (now + gap) (k + 1) (r0 :: ro) (r0 :: ro) (φ (now + gap)) (φ (now + gap)) ((shredM gap vs ks (lv + 1) (shredL gap l (lv + 1) (now + gap)).2).1.map (stE φ) ++ rest)
      ⟨closeTo_same _ (by simp only [List.length_cons]; omega), by simp only [List.length_cons]; omega, by simp only [List.length_cons]; omega⟩ (by omega) (Nat.succ_pos k) (by omega) (Int.le_refl _)
    obtain ⟨ro2, last3, last4, hA2, hl4, he2⟩ := nestM vs ks (lv + 1) (shredL gap l (lv + 1) (now + gap)).2 (k + 1 + (shredL gap l (lv + 1) (now + gap)).1.length) ro1 (r0 :: ro) last1 last2 rest hA1 (by omega) (by omega) (by omega) hl2
    refine ⟨ro2, last3, ⟨?_, hlen, by have := hA2.le; omega⟩, ?_⟩
    · obtain ⟨x, hx⟩ := closeTo_suffix _ _ _ _ hA2.cl
      have hx : ro2 = x ++ (r0 :: ro) := hx
      have hlr : (((r0 :: ro).length : Nat) : Int) = lv + 1 := hA2.len
      have hcl := hA2.cl
      rw [← hlr, hx] at hcl
      rw [hx, closeTo_trans x (r0 :: ro) last3 last4 hcl lv (by omega), closeTo, if_pos (by omega), if_neg, hen]
      · exact closeTo_same _ hlen
      · rw [hen]
        have := hφ (shredM gap vs ks (lv + 1) (shredL gap l (lv + 1) (now + gap)).2).2 ((shredM gap vs ks (lv + 1) (shredL gap l (lv + 1) (now + gap)).2).2 + gap) (by omega) (by omega)
        omega
    · rw [he1, he2]
      congr 1
      omega
theorem nestL : ∀ (gs : List GVal) (lv : Int) (now : Int) (k : Nat) (ro0 ro : List GRec) (last0 last : Int) (rest : List GRec), AtN lv ro0 last0 ro last → 1 ≤ lv → 0 < k → 0 ≤ now → last ≤ φ now →
    ∃ ro1 last1 last2, AtN lv ro1 last1 ro last2 ∧ last2 ≤ φ (shredL gap gs lv now).2 ∧ nestFrom k ro0 last0 ((shredL gap gs lv now).1.map (stE φ) ++ rest) = nestFrom (k + (shredL gap gs lv now).1.length) ro1 last1 rest
  | [], lv, now, k, ro0, ro, last0, last, rest, hA, h0, hk, hn, hl => ⟨ro0, last0, last, hA, hl, rfl⟩
  | g :: gs, lv, now, k, ro0, ro, last0, last, rest, hA, h0, hk, hn, hl => by
    simp only [shredL, List.map_append, List.append_assoc, List.length_append]
    have hinc := hφ now (now + gap) hn (by omega)
    obtain ⟨h1, h1'⟩ := shredV_len gap g lv false ⟨#[]⟩ now
    have e1 : 0 ≤ 2 * gap * ((shredV gap g lv false ⟨#[]⟩ now).1.length : Int) := Int.mul_nonneg (by omega) (by omega)
    obtain ⟨ro1, last1, hA1, he1⟩ := nestV g lv false ⟨#[]⟩ now k ro0 ro last0 last ((shredL gap gs lv (shredV gap g lv false ⟨#[]⟩ now).2).1.map (stE φ) ++ rest) hA (by omega) (by rw [decide_eq_false (by omega), decide_eq_false (by omega)]) hn (by omega)
    obtain ⟨ro2, last3, last4, hA2, hl4, he2⟩ := nestL gs lv (shredV gap g lv false ⟨#[]⟩ now).2 (k + (shredV gap g lv false ⟨#[]⟩ now).1.length) ro1 ro last1 _ rest hA1 h0 (by omega) (by omega) (Int.le_refl _)
    exact ⟨ro2, last3, last4, hA2, hl4, by rw [he1, he2, Nat.add_assoc]⟩
theorem nestM : ∀ (gs : List GVal) (ks : List ByteArray) (lv : Int) (now : Int) (k : Nat) (ro0 ro : List GRec) (last0 last : Int) (rest : List GRec), AtN lv ro0 last0 ro last → 1 ≤ lv → 0 < k → 0 ≤ now → last ≤ φ now →
    ∃ ro1 last1 last2, AtN lv ro1 last1 ro last2 ∧ last2 ≤ φ (shredM gap gs ks lv now).2 ∧ nestFrom k ro0 last0 ((shredM gap gs ks lv now).1.map (stE φ) ++ rest) = nestFrom (k + (shredM gap gs ks lv now).1.length) ro1 last1 rest
  | [], ks, lv, now, k, ro0, ro, last0, last, rest, hA, h0, hk, hn, hl => by simp only [shredM]; exact ⟨ro0, last0, last, hA, hl, rfl⟩
  | g :: gs, [], lv, now, k, ro0, ro, last0, last, rest, hA, h0, hk, hn, hl => by simp only [shredM]; exact ⟨ro0, last0, last, hA, hl, rfl⟩
  | g :: gs, nk :: ks, lv, now, k, ro0, ro, last0, last, rest, hA, h0, hk, hn, hl => by
    simp only [shredM, List.map_append, List.append_assoc, List.length_append]
    have hinc := hφ now (now + gap) hn (by omega)
    obtain ⟨h1, h1'⟩ := shredV_len gap g lv true nk now
    have e1 : 0 ≤ 2 * gap * ((shredV gap g lv true nk now).1.length : Int) := Int.mul_nonneg (by omega) (by omega)
    obtain ⟨ro1, last1, hA1, he1⟩ := nestV g lv true nk now k ro0 ro last0 last ((shredM gap gs ks lv (shredV gap g lv true nk now).2).1.map (stE φ) ++ rest) hA (by omega) (by rw [decide_eq_false (by omega), decide_eq_false (by omega)]) hn (by omega)
    obtain ⟨ro2, last3, last4, hA2, hl4, he2⟩ := nestM gs ks lv (shredV gap g lv true nk now).2 (k + (shredV gap g lv true nk now).1.length) ro1 ro last1 _ rest hA1 h0 (by omega) (by omega) (Int.le_refl _)
    exact ⟨ro2, last3, last4, hA2, hl4, by rw [he1, he2, Nat.add_assoc]⟩
end

/-- A value's records are nested, however its numbers are turned, as long as their order stays. -/
theorem nested_shred (g : GVal) (nm : Bool) (name : ByteArray) (h0 : -1 < φ gap) : nestedG ((shredV gap g 0 nm name 0).1.map (stE φ)) = true := by
  unfold nestedG
  obtain ⟨ro1, last1, hA, he⟩ := nestV hφ hg g 0 nm name 0 0 [] [] (-1) (-1) [] ⟨rfl, rfl, Int.le_refl _⟩ (Int.le_refl _) rfl (Int.le_refl _) (by rw [Int.zero_add]; exact h0)
  rw [List.append_nil] at he
  rw [he, nestFrom, closeAll_of ro1 last1 _ hA.cl, Bool.true_and]
  have : 0 < (shredV gap g 0 nm name 0).1.length := by rw [shredV_eq]; simp
  simp only [List.length_map]
  exact decide_eq_true (by omega)
end

/-- In nested records each starts ahead of its end. -/
theorem closeAll_lt : ∀ (ro : List GRec) (last : Int), closeAll ro last = true → ∀ t ∈ ro, last < t.en
  | [], _, _, t, ht => by cases ht
  | x :: ro, last, h, t, ht => by
    simp only [closeAll] at h
    split at h
    · cases h
    · rcases List.mem_cons.1 ht with rfl | ht
      · omega
      · have := closeAll_lt ro x.en h t ht; omega
theorem closeTo_lt : ∀ (lv : Int) (ro : List GRec) (last : Int) (p : List GRec × Int), closeTo lv ro last = some p → last ≤ p.2 ∧ ∀ t ∈ ro, t ∈ p.1 ∨ last < t.en
  | lv, [], last, p, h => by simp only [closeTo, Option.some.injEq] at h; subst h; exact ⟨Int.le_refl _, fun t ht => by cases ht⟩
  | lv, x :: ro, last, p, h => by
    simp only [closeTo] at h
    split at h
    · split at h
      · cases h
      · obtain ⟨h1, h2⟩ := closeTo_lt lv ro x.en p h
        refine ⟨by omega, fun t ht => ?_⟩
        rcases List.mem_cons.1 ht with rfl | ht
        · exact .inr (by omega)
        · rcases h2 t ht with h3 | h3
          · exact .inl h3
          · exact .inr (by omega)
    · simp only [Option.some.injEq] at h; subst h; exact ⟨Int.le_refl _, fun t ht => .inl ht⟩
theorem nest_lt : ∀ (l : List GRec) (k : Nat) (ro : List GRec) (last : Int), nestFrom k ro last l = true → (∀ t ∈ ro, last < t.en) ∧ ∀ r ∈ l, r.st < r.en
  | [], k, ro, last, h => ⟨closeAll_lt ro last h, fun r hr => by cases hr⟩
  | x :: l, k, ro, last, h => by
    simp only [nestFrom] at h
    split at h
    · cases h
    split at h
    · cases h
    rename_i p hp
    split at h
    · cases h
    rename_i hst
    obtain ⟨h1, h2⟩ := nest_lt l _ _ _ h
    obtain ⟨h3, h4⟩ := closeTo_lt _ _ _ _ hp
    refine ⟨fun t ht => ?_, fun r hr => ?_⟩
    · rcases h4 t ht with h5 | h5
      · have := h1 t (List.mem_cons_of_mem _ h5); omega
      · exact h5
    · rcases List.mem_cons.1 hr with rfl | hr
      · exact h1 r (List.mem_cons_self ..)
      · exact h2 r hr
theorem nested_lt {l : List GRec} (h : nestedG l = true) : ∀ r ∈ l, r.st < r.en := by
  unfold nestedG at h
  simp only [Bool.and_eq_true] at h
  exact (nest_lt l _ _ _ h.1).2

/-! ### named -/

mutual
theorem namedV (φ : Int → Int) (gap : Int) : ∀ (g : GVal) (lv : Nat) (nm : Bool) (name : ByteArray) (now : Int) (op o : List Int) (rest : List GRec), kindOk g → op.take lv = o → lv ≤ op.length → nm = (o.getLast? == some 5) → (nm = false → name = ⟨#[]⟩) →
    ∃ op1, op1.take lv = o ∧ lv ≤ op1.length ∧ namedFrom op ((shredV gap g lv nm name now).1.map (stE φ) ++ rest) = namedFrom op1 rest
  | .mk kd b n s l ks vs, lv, nm, name, now, op, o, rest, hk, ho, hl, hnm, hna => by
    simp only [kindOk] at hk
    simp only [shredV, List.map_cons, List.map_append, List.cons_append, List.append_assoc, namedFrom, stE, Int.toNat_natCast, ho]
    have hc : ((nm != (o.getLast? == some 5)) || (!nm && !decide (name = ⟨#[]⟩))) = false := by
      rw [← hnm]
      cases nm with
      | true => simp
      | false => simp [hna rfl]
    rw [hc]
    simp only [Bool.false_eq_true, if_false]
    have hol : o.length = lv := by rw [← ho, List.length_take]; omega
    have hlast : (o ++ [kd]).getLast? = some kd := by simp
    have htk : (o ++ [kd]).take (lv + 1) = o ++ [kd] := List.take_of_length_le (by simp; omega)
    obtain ⟨op1, h1, h2, h3⟩ := namedL φ gap l (lv + 1) (now + gap) (o ++ [kd]) (o ++ [kd]) ((shredM gap vs ks ((lv : Int) + 1) (shredL gap l ((lv : Int) + 1) (now + gap)).2).1.map (stE φ) ++ rest) hk.2.2.1 htk (by simp; omega) (fun hne => by rw [hlast]; have := hk.1 hne; simp; exact this)
    obtain ⟨op2, h4, h5, h6⟩ := namedM φ gap vs ks (lv + 1) (shredL gap l ((lv : Int) + 1) (now + gap)).2 op1 (o ++ [kd]) rest hk.2.2.2 h1 h2 (fun hne => by rw [hlast]; have := hk.2.1 hne; simp; exact this)
    refine ⟨op2, ?_, by omega, ?_⟩
    · have : op2.take lv = (op2.take (lv + 1)).take lv := by rw [List.take_take]; congr 1; omega
      rw [this, h4, List.take_append_of_le_length (by omega), List.take_of_length_le (by omega)]
    · exact h3.trans h6
theorem namedL (φ : Int → Int) (gap : Int) : ∀ (gs : List GVal) (lv : Nat) (now : Int) (op o : List Int) (rest : List GRec), kindOks gs → op.take lv = o → lv ≤ op.length → (gs ≠ [] → (o.getLast? == some 5) = false) →
    ∃ op1, op1.take lv = o ∧ lv ≤ op1.length ∧ namedFrom op ((shredL gap gs lv now).1.map (stE φ) ++ rest) = namedFrom op1 rest
  | [], lv, now, op, o, rest, hk, ho, hl, hnm => ⟨op, ho, hl, rfl⟩
  | g :: gs, lv, now, op, o, rest, hk, ho, hl, hnm => by
    simp only [kindOks] at hk
    simp only [shredL, List.map_append, List.append_assoc]
    obtain ⟨op1, h1, h2, h3⟩ := namedV φ gap g lv false ⟨#[]⟩ now op o ((shredL gap gs lv (shredV gap g lv false ⟨#[]⟩ now).2).1.map (stE φ) ++ rest) hk.1 ho hl (hnm (by simp)).symm (fun _ => rfl)
    obtain ⟨op2, h4, h5, h6⟩ := namedL φ gap gs lv (shredV gap g lv false ⟨#[]⟩ now).2 op1 o rest hk.2 h1 h2 (fun _ => hnm (by simp))
    exact ⟨op2, h4, h5, h3.trans h6⟩
theorem namedM (φ : Int → Int) (gap : Int) : ∀ (gs : List GVal) (ks : List ByteArray) (lv : Nat) (now : Int) (op o : List Int) (rest : List GRec), kindOks gs → op.take lv = o → lv ≤ op.length → (gs ≠ [] → (o.getLast? == some 5) = true) →
    ∃ op1, op1.take lv = o ∧ lv ≤ op1.length ∧ namedFrom op ((shredM gap gs ks lv now).1.map (stE φ) ++ rest) = namedFrom op1 rest
  | [], ks, lv, now, op, o, rest, hk, ho, hl, hnm => by simp only [shredM]; exact ⟨op, ho, hl, rfl⟩
  | g :: gs, [], lv, now, op, o, rest, hk, ho, hl, hnm => by simp only [shredM]; exact ⟨op, ho, hl, rfl⟩
  | g :: gs, nk :: ks, lv, now, op, o, rest, hk, ho, hl, hnm => by
    simp only [kindOks] at hk
    simp only [shredM, List.map_append, List.append_assoc]
    obtain ⟨op1, h1, h2, h3⟩ := namedV φ gap g lv true nk now op o ((shredM gap gs ks lv (shredV gap g lv true nk now).2).1.map (stE φ) ++ rest) hk.1 ho hl (hnm (by simp)).symm (fun h => by cases h)
    obtain ⟨op2, h4, h5, h6⟩ := namedM φ gap gs ks lv (shredV gap g lv true nk now).2 op1 o rest hk.2 h1 h2 (fun _ => hnm (by simp))
    exact ⟨op2, h4, h5, h3.trans h6⟩
end

theorem named_shred (φ : Int → Int) (gap : Int) (g : GVal) (hk : kindOk g) : namedG ((shredV gap g 0 false emptyS 0).1.map (stE φ)) = true := by
  unfold namedG
  obtain ⟨op1, _, _, h⟩ := namedV φ gap g 0 false ⟨#[]⟩ 0 [] [] [] hk rfl (Nat.le_refl _) rfl (fun _ => rfl)
  rw [List.append_nil] at h
  exact h.trans rfl

/-! ### build -/

/-- What comes behind does not stand in what is at that level. -/
def behind (lv : Int) : List GRec → Prop
  | [] => True
  | r :: _ => r.lv ≤ lv

theorem behind.mono {lv lv' : Int} (h : lv ≤ lv') : ∀ {l : List GRec}, behind lv l → behind lv' l
  | [], _ => trivial
  | r :: _, hb => by simp only [behind] at hb ⊢; omega

theorem behindV (φ : Int → Int) (gap : Int) (g : GVal) (lv : Int) (nm : Bool) (name : ByteArray) (now : Int) (Y : List GRec) : behind lv ((shredV gap g lv nm name now).1.map (stE φ) ++ Y) := by
  rw [shredV_eq]
  exact Int.le_refl _
theorem behindL (φ : Int → Int) (gap : Int) (gs : List GVal) (lv : Int) (now : Int) (Y : List GRec) (h : behind lv Y) : behind lv ((shredL gap gs lv now).1.map (stE φ) ++ Y) := by
  cases gs with
  | nil => exact h
  | cons g gs =>
    simp only [shredL, List.map_append, List.append_assoc]
    exact behindV φ gap g lv _ _ now _
theorem behindM (φ : Int → Int) (gap : Int) (gs : List GVal) (ks : List ByteArray) (lv : Int) (now : Int) (Y : List GRec) (h : behind lv Y) : behind lv ((shredM gap gs ks lv now).1.map (stE φ) ++ Y) := by
  cases gs with
  | nil => simp only [shredM]; exact h
  | cons g gs =>
    cases ks with
    | nil => simp only [shredM]; exact h
    | cons k ks =>
      simp only [shredM, List.map_append, List.append_assoc]
      exact behindV φ gap g lv _ _ now _

theorem kids_step (φ : Int → Int) (gap : Int) (g : GVal) (lv : Int) (nm : Bool) (name : ByteArray) (now : Int) (n : Nat) (X : List GRec) (h : buildN n ((shredV gap g (lv + 1) nm name now).1.map (stE φ) ++ X) = (g, X)) :
    kidsN (n + 1) lv ((shredV gap g (lv + 1) nm name now).1.map (stE φ) ++ X) = if nm then ⟨(kidsN n lv X).ls, name :: (kidsN n lv X).ks, g :: (kidsN n lv X).vs, (kidsN n lv X).rest⟩ else ⟨g :: (kidsN n lv X).ls, (kidsN n lv X).ks, (kidsN n lv X).vs, (kidsN n lv X).rest⟩ := by
  rw [shredV_eq] at h ⊢
  simp only [List.map_cons, List.cons_append] at h ⊢
  rw [kidsN, h, if_pos (by simp only [stE]; omega)]
  rfl

mutual
theorem buildV (φ : Int → Int) (gap : Int) : ∀ (g : GVal) (lv : Int) (nm : Bool) (name : ByteArray) (now : Int) (n : Nat) (rest : List GRec), g.wf → behind lv rest → 2 * (shredV gap g lv nm name now).1.length ≤ n →
    buildN n ((shredV gap g lv nm name now).1.map (stE φ) ++ rest) = (g, rest)
  | .mk kd b n s l ks vs, lv, nm, name, now, m, rest, hw, hb, hm => by
    simp only [GVal.wf] at hw
    simp only [shredV, List.length_cons, List.length_append] at hm
    obtain ⟨m, rfl⟩ : ∃ m', m = m' + 1 := ⟨m - 1, by omega⟩
    simp only [shredV, List.map_cons, List.map_append, List.cons_append, List.append_assoc, buildN, stE]
    rw [kidsL φ gap l lv (now + gap) m _ ⟨[], ks, vs, rest⟩ (2 * (shredM gap vs ks (lv + 1) (shredL gap l (lv + 1) (now + gap)).2).1.length + 1) (by omega) hw.2.1 (fun m' hm' => kidsM φ gap vs ks lv (shredL gap l (lv + 1) (now + gap)).2 m' rest hw.2.2 hw.1 hb hm') (behindM φ gap vs ks (lv + 1) _ _ (hb.mono (by omega))) (by omega)]
    simp
theorem kidsL (φ : Int → Int) (gap : Int) : ∀ (gs : List GVal) (lv : Int) (now : Int) (n : Nat) (T : List GRec) (K : Kids) (c : Nat), 1 ≤ c → GVal.wfs gs → (∀ m, c ≤ m → kidsN m lv T = K) → behind (lv + 1) T →
    2 * (shredL gap gs (lv + 1) now).1.length + c ≤ n → kidsN n lv ((shredL gap gs (lv + 1) now).1.map (stE φ) ++ T) = ⟨gs ++ K.ls, K.ks, K.vs, K.rest⟩
  | [], lv, now, n, T, K, c, hc, hw, hT, hb, hn2 => by
    simp only [shredL, List.map_nil, List.nil_append, List.length_nil] at hn2 ⊢
    exact hT n (by omega)
  | g :: gs, lv, now, n, T, K, c, hc, hw, hT, hb, hn2 => by
    simp only [GVal.wfs] at hw
    simp only [shredL, List.map_append, List.append_assoc, List.length_append] at hn2 ⊢
    have hpos : 0 < (shredV gap g (lv + 1) false ⟨#[]⟩ now).1.length := by rw [shredV_eq]; simp
    obtain ⟨n, rfl⟩ : ∃ m', n = m' + 1 := ⟨n - 1, by omega⟩
    have hB := buildV φ gap g (lv + 1) false ⟨#[]⟩ now n ((shredL gap gs (lv + 1) (shredV gap g (lv + 1) false ⟨#[]⟩ now).2).1.map (stE φ) ++ T) hw.1 (behindL φ gap gs (lv + 1) _ _ hb) (by omega)
    rw [kids_step φ gap g lv false ⟨#[]⟩ now n _ hB, kidsL φ gap gs lv (shredV gap g (lv + 1) false ⟨#[]⟩ now).2 n T K c hc hw.2 hT hb (by omega)]
    rfl
theorem kidsM (φ : Int → Int) (gap : Int) : ∀ (vs : List GVal) (ks : List ByteArray) (lv : Int) (now : Int) (n : Nat) (rest : List GRec), GVal.wfs vs → ks.length = vs.length → behind lv rest → 2 * (shredM gap vs ks (lv + 1) now).1.length + 1 ≤ n →
    kidsN n lv ((shredM gap vs ks (lv + 1) now).1.map (stE φ) ++ rest) = ⟨[], ks, vs, rest⟩
  | [], ks, lv, now, n, rest, hw, hk, hb, hn => by
    have hk0 : ks = [] := List.eq_nil_of_length_eq_zero hk
    subst hk0
    simp only [shredM, List.map_nil, List.nil_append, List.length_nil] at hn ⊢
    obtain ⟨n, rfl⟩ : ∃ m', n = m' + 1 := ⟨n - 1, by omega⟩
    cases rest with
    | nil => rfl
    | cons r rest =>
      simp only [behind] at hb
      rw [kidsN, if_neg (by omega)]
  | g :: gs, [], lv, now, n, rest, hw, hk, hb, hn => by simp at hk
  | g :: gs, nk :: ks, lv, now, n, rest, hw, hk, hb, hn => by
    simp only [GVal.wfs] at hw
    simp only [shredM, List.map_append, List.append_assoc, List.length_append] at hn ⊢
    have hpos : 0 < (shredV gap g (lv + 1) true nk now).1.length := by rw [shredV_eq]; simp
    obtain ⟨n, rfl⟩ : ∃ m', n = m' + 1 := ⟨n - 1, by omega⟩
    have hB := buildV φ gap g (lv + 1) true nk now n ((shredM gap gs ks (lv + 1) (shredV gap g (lv + 1) true nk now).2).1.map (stE φ) ++ rest) hw.1 (behindM φ gap gs ks (lv + 1) _ _ (hb.mono (by omega))) (by omega)
    rw [kids_step φ gap g lv true nk now n _ hB, kidsM φ gap gs ks lv (shredV gap g (lv + 1) true nk now).2 n rest hw.2 (by simpa using hk) hb (by omega)]
    rfl
end

theorem build_shred (φ : Int → Int) (gap : Int) (g : GVal) (nm : Bool) (name : ByteArray) (now : Int) (hw : g.wf) : buildG ((shredV gap g 0 nm name now).1.map (stE φ)) = (g, []) := by
  unfold buildG
  have := buildV φ gap g 0 nm name now (enough ((shredV gap g 0 nm name now).1.map (stE φ))) [] hw trivial (by unfold enough; rw [List.length_map]; omega)
  rw [List.append_nil] at this
  exact this

/-- WHAT IS SHREDDED IS BUILT AGAIN, however the numbers are turned, as long as their order stays and they aren't too great. -/
theorem buildR_shred {φ : Int → Int} (hφ : Incr φ) {gap : Int} (hg : 1 ≤ gap) (h0 : -1 < φ gap) (g : GVal) (hw : g.wf) (hs : sane g = 0) (hl : (shredV gap g 0 false emptyS 0).1.length ≤ 4096)
    (hen : φ (shredV gap g 0 false emptyS 0).2 ≤ 1099511627776) : buildR ((shredV gap g 0 false emptyS 0).1.map (stE φ)) = (g, 0) := by
  have hk := sane_kind g 0 0 hw hs
  have hB := build_shred φ gap g false emptyS 0 hw
  have hhead : ((((shredV gap g 0 false emptyS 0).1.map (stE φ)).head?.map GRec.en).getD 0) = φ (shredV gap g 0 false emptyS 0).2 := by rw [shredV_eq]; rfl
  unfold buildR
  rw [if_neg, if_neg, hB]
  · rw [hB]; simp [hs]
  · rw [hhead, List.length_map, nested_shred hφ hg g false emptyS h0, named_shred φ gap g hk]
    rintro (h | h | h | h)
    · omega
    · cases h
    · cases h
    · omega
end Go.Sy
