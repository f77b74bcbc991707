/- What the program computes of records: nested, named, build. No program in sight. -/
import Derived.Test.YtadnijcgohflhaaDoorVb
namespace Go.Sy

/-! ### nested -/

/-- The open ones, the last one first, shut down to a level; the last number. -/
def closeTo (lv : Int) : List GRec → Int → Option (List GRec × Int)
  | [], last => some ([], last)
  | t :: ro, last => if lv < (ro.length : Int) + 1 then (if t.en ≤ last then none else closeTo lv ro t.en) else some (t :: ro, last)
/-- All are shut. -/
def closeAll : List GRec → Int → Bool
  | [], _ => true
  | t :: ro, last => if t.en ≤ last then false else closeAll ro t.en
def nestFrom : Nat → List GRec → Int → List GRec → Bool
  | _, ro, last, [] => closeAll ro last
  | k, ro, last, r :: l =>
    if r.lv < 0 ∨ (ro.length : Int) < r.lv ∨ (decide (r.lv = 0) != decide ((k : Int) = 0)) = true then false
    else match closeTo r.lv ro last with
      | none => false
      | some p => if r.st ≤ p.2 then false else nestFrom (k + 1) (r :: p.1) r.st l
def nestedG (l : List GRec) : Bool := nestFrom 0 [] (-1) l && decide (0 < (l.length : Int))

/-! ### named -/

def namedFrom : List Int → List GRec → Bool
  | _, [] => true
  | op, r :: l =>
    let o := op.take r.lv.toNat
    if (r.nm != (o.getLast? == some 5)) || (!r.nm && !decide (r.name = ⟨#[]⟩)) then false else namedFrom (o ++ [r.kd]) l
def namedG (l : List GRec) : Bool := namedFrom [] l

/-- Levels that go on from one to the next. -/
def levelsOk : Nat → List GRec → Prop
  | _, [] => True
  | m, r :: l => 0 ≤ r.lv ∧ r.lv ≤ m ∧ levelsOk (r.lv.toNat + 1) l

theorem closeTo_len : ∀ (lv : Int) (ro : List GRec) (last : Int) (p : List GRec × Int), closeTo lv ro last = some p → 0 ≤ lv → lv ≤ ro.length → (p.1.length : Int) = lv
  | lv, [], last, p, h, h0, h1 => by
    simp only [closeTo, Option.some.injEq] at h
    subst h
    simp at h1 ⊢
    omega
  | lv, t :: ro, last, p, h, h0, h1 => by
    simp only [closeTo] at h
    simp only [List.length_cons] at h1
    split at h
    · split at h
      · cases h
      · exact closeTo_len lv ro t.en p h h0 (by omega)
    · simp only [Option.some.injEq] at h
      subst h
      simp only [List.length_cons]
      omega

theorem nest_levels : ∀ (l : List GRec) (k : Nat) (ro : List GRec) (last : Int), nestFrom k ro last l = true → levelsOk ro.length l
  | [], _, _, _, _ => trivial
  | r :: l, k, ro, last, h => by
    simp only [nestFrom] at h
    split at h
    · cases h
    · rename_i hc
      have h1 : 0 ≤ r.lv ∧ r.lv ≤ ro.length := by
        refine ⟨?_, ?_⟩
        · exact Int.not_lt.1 fun hc' => hc (.inl hc')
        · exact Int.not_lt.1 fun hc' => hc (.inr (.inl hc'))
      split at h
      · cases h
      · rename_i p hp
        split at h
        · cases h
        · have := nest_levels l _ _ _ h
          have hlen := closeTo_len _ _ _ _ hp h1.1 h1.2
          refine ⟨h1.1, h1.2, ?_⟩
          rw [show r.lv.toNat + 1 = (r :: p.1).length by simp only [List.length_cons]; omega]
          exact this

/-! ### build -/

structure Kids where
  ls : List GVal
  ks : List ByteArray
  vs : List GVal
  rest : List GRec

def gval0 : GVal := .mk 0 false ⟨false, ⟨#[]⟩, 0⟩ ⟨#[]⟩ [] [] []

mutual
/-- The next record's value, and the records behind it. -/
def buildN : Nat → List GRec → GVal × List GRec
  | 0, l => (gval0, l)
  | _ + 1, [] => (gval0, [])
  | n + 1, r :: l => (.mk r.kd r.b r.n r.s (kidsN n r.lv l).ls (kidsN n r.lv l).ks (kidsN n r.lv l).vs, (kidsN n r.lv l).rest)
/-- What stands in a record. -/
def kidsN : Nat → Int → List GRec → Kids
  | 0, _, l => ⟨[], [], [], l⟩
  | _ + 1, _, [] => ⟨[], [], [], []⟩
  | n + 1, lv, k :: l =>
    if lv < k.lv then
      if k.nm then ⟨(kidsN n lv (buildN n (k :: l)).2).ls, k.name :: (kidsN n lv (buildN n (k :: l)).2).ks, (buildN n (k :: l)).1 :: (kidsN n lv (buildN n (k :: l)).2).vs, (kidsN n lv (buildN n (k :: l)).2).rest⟩
      else ⟨(buildN n (k :: l)).1 :: (kidsN n lv (buildN n (k :: l)).2).ls, (kidsN n lv (buildN n (k :: l)).2).ks, (kidsN n lv (buildN n (k :: l)).2).vs, (kidsN n lv (buildN n (k :: l)).2).rest⟩
    else ⟨[], [], [], k :: l⟩
end

/-- Enough rounds. -/
def enough (l : List GRec) : Nat := 2 * l.length + 2
def buildG (l : List GRec) : GVal × List GRec := buildN (enough l) l

mutual
theorem buildN_rest : ∀ (n : Nat) (l : List GRec), 2 * l.length ≤ n → 0 < l.length → (buildN n l).2.length < l.length
  | 0, l, h, h0 => by omega
  | n + 1, [], h, h0 => by simp at h0
  | n + 1, r :: l, h, h0 => by
    simp only [buildN, List.length_cons] at *
    have := kidsN_rest n r.lv l (by omega)
    omega
theorem kidsN_rest : ∀ (n : Nat) (lv : Int) (l : List GRec), 2 * l.length + 1 ≤ n + 0 → (kidsN n lv l).rest.length ≤ l.length
  | 0, _, l, h => by simp [kidsN]
  | n + 1, _, [], h => by simp [kidsN]
  | n + 1, lv, k :: l, h => by
    have h1 := buildN_rest n (k :: l) (by simp only [List.length_cons] at *; omega) (by simp)
    have h2 := kidsN_rest n lv (buildN n (k :: l)).2 (by simp only [List.length_cons] at *; omega)
    simp only [kidsN]
    split
    · split
      · simp only []; omega
      · simp only []; omega
    · simp
end
end Go.Sy
