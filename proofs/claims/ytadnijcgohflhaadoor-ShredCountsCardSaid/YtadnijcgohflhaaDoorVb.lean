/- Records, and a value's records. No program in sight. -/
import Derived.Test.YtadnijcgohflhaaDoorVa
namespace Go.Sy

structure GRec where
  st : Int
  en : Int
  lv : Int
  kd : Int
  nm : Bool
  name : ByteArray
  b : Bool
  n : GDec
  s : ByteArray
deriving DecidableEq

def recCells (r : GRec) : List AT := [.v (.int .i64 r.st), .v (.int .i64 r.en), .v (.int .i64 r.lv), .v (.int .i64 r.kd), .b r.nm, .v (.string r.name), .b r.b, .b r.n.neg, .v (.string r.n.dg), .v (.int .i64 r.n.ex), .v (.string r.s)]
theorem recCells_lt (n : Nat) (r : GRec) : ∀ c ∈ recCells r, c.lt n := by simp [recCells, AT.lt]
theorem recCells_one (r : GRec) : (recCells r).all AT.one = true := rfl
theorem recCells_len (r : GRec) : (recCells r).length = 11 := rfl

def recRows (l : List GRec) : List (List AT) := l.map recCells
theorem recRows_get {l : List GRec} {i : Nat} {r : GRec} (h : l[i]? = some r) : (recRows l)[i]? = some (recCells r) := by simp [recRows, h]
theorem recRows_append (a b : List GRec) : recRows (a ++ b) = recRows a ++ recRows b := by simp [recRows]
theorem recRows_len (a : List GRec) : (recRows a).length = a.length := by simp [recRows]
theorem recRows_all (a : List GRec) : ∀ r ∈ recRows a, r.length = 11 ∧ (∀ c ∈ r, c.lt 0) ∧ r.all AT.one = true := by
  intro r hr
  obtain ⟨x, _, rfl⟩ := List.mem_map.1 hr
  exact ⟨rfl, recCells_lt 0 x, rfl⟩
/-- A list of records, cell by cell. -/
def recXs (l : List GRec) : List Value := (recRows l).flatten.map AT.val
theorem recXs_append (a b : List GRec) : recXs (a ++ b) = recXs a ++ recXs b := by simp [recXs, recRows_append]
theorem recXs_len (a : List GRec) : (recXs a).length = a.length * 11 := by
  unfold recXs
  rw [List.length_map, flat_len (sz := 11) (fun r hr => (recRows_all a r hr).1), recRows_len]
theorem recXs_get {l : List GRec} {i j : Nat} {r : GRec} {c : AT} (h : l[i]? = some r) (hj : (recCells r)[j]? = some c) : (recXs l)[i * 11 + j]? = some c.val := by
  unfold recXs
  rw [List.getElem?_map, flat_get (sz := 11) (fun r hr => (recRows_all l r hr).1) (recRows_get h) hj]
  rfl
theorem recXs_set {l : List GRec} {i j : Nat} {r r' : GRec} (c : AT) (h : l[i]? = some r) (hj : j < 11) (hr : (recCells r).set j c = recCells r') : (recXs l).set (i * 11 + j) c.val = recXs (l.set i r') := by
  unfold recXs
  rw [← List.map_set, flat_set (sz := 11) (fun r hr => (recRows_all l r hr).1) c (recRows_get h) hj, hr]
  congr 2
  unfold recRows
  rw [List.map_set]

mutual
/-- A value's records, and the last number. -/
def shredV (gap : Int) : GVal → Int → Bool → ByteArray → Int → List GRec × Int
  | .mk k b n s l ks vs, lv, nm, name, now =>
    let p := shredL gap l (lv + 1) (now + gap)
    let q := shredM gap vs ks (lv + 1) p.2
    (⟨now + gap, q.2 + gap, lv, k, nm, name, b, n, s⟩ :: (p.1 ++ q.1), q.2 + gap)
def shredL (gap : Int) : List GVal → Int → Int → List GRec × Int
  | [], _, now => ([], now)
  | g :: gs, lv, now =>
    let p := shredV gap g lv false ⟨#[]⟩ now
    let q := shredL gap gs lv p.2
    (p.1 ++ q.1, q.2)
def shredM (gap : Int) : List GVal → List ByteArray → Int → Int → List GRec × Int
  | [], _, _, now => ([], now)
  | _ :: _, [], _, now => ([], now)
  | g :: gs, k :: ks, lv, now =>
    let p := shredV gap g lv true k now
    let q := shredM gap gs ks lv p.2
    (p.1 ++ q.1, q.2)
end

theorem shredV_eq (gap : Int) (g : GVal) (lv : Int) (nm : Bool) (name : ByteArray) (now : Int) :
    shredV gap g lv nm name now = (⟨now + gap, (shredM gap g.vs g.ks (lv + 1) (shredL gap g.l (lv + 1) (now + gap)).2).2 + gap, lv, g.kind, nm, name, g.b, g.n, g.s⟩ ::
      ((shredL gap g.l (lv + 1) (now + gap)).1 ++ (shredM gap g.vs g.ks (lv + 1) (shredL gap g.l (lv + 1) (now + gap)).2).1),
      (shredM gap g.vs g.ks (lv + 1) (shredL gap g.l (lv + 1) (now + gap)).2).2 + gap) := by
  cases g; rfl

mutual
theorem shredV_len (gap : Int) : ∀ (g : GVal) (lv : Int) (nm : Bool) (name : ByteArray) (now : Int), (shredV gap g lv nm name now).1.length ≤ g.weight ∧ (shredV gap g lv nm name now).2 = now + 2 * gap * (shredV gap g lv nm name now).1.length
  | .mk k b n s l ks vs, lv, nm, name, now => by
    simp only [shredV, List.length_cons, List.length_append, GVal.weight]
    obtain ⟨h1, h2⟩ := shredL_len gap l (lv + 1) (now + gap)
    obtain ⟨h3, h4⟩ := shredM_len gap vs ks (lv + 1) (shredL gap l (lv + 1) (now + gap)).2
    refine ⟨by omega, ?_⟩
    rw [h4, h2]
    simp only [Int.natCast_add, Int.mul_add]
    omega
theorem shredL_len (gap : Int) : ∀ (gs : List GVal) (lv now : Int), (shredL gap gs lv now).1.length ≤ GVal.weights gs ∧ (shredL gap gs lv now).2 = now + 2 * gap * (shredL gap gs lv now).1.length
  | [], lv, now => by simp [shredL, GVal.weights]
  | g :: gs, lv, now => by
    simp only [shredL, List.length_append, GVal.weights]
    obtain ⟨h1, h2⟩ := shredV_len gap g lv false ⟨#[]⟩ now
    obtain ⟨h3, h4⟩ := shredL_len gap gs lv (shredV gap g lv false ⟨#[]⟩ now).2
    refine ⟨by omega, ?_⟩
    rw [h4, h2]
    simp only [Int.natCast_add, Int.mul_add]
    omega
theorem shredM_len (gap : Int) : ∀ (gs : List GVal) (ks : List ByteArray) (lv now : Int), (shredM gap gs ks lv now).1.length ≤ GVal.weights gs ∧ (shredM gap gs ks lv now).2 = now + 2 * gap * (shredM gap gs ks lv now).1.length
  | [], ks, lv, now => by simp [shredM]
  | g :: gs, [], lv, now => by simp [shredM]
  | g :: gs, k :: ks, lv, now => by
    simp only [shredM, List.length_append, GVal.weights]
    obtain ⟨h1, h2⟩ := shredV_len gap g lv true k now
    obtain ⟨h3, h4⟩ := shredM_len gap gs ks lv (shredV gap g lv true k now).2
    refine ⟨by omega, ?_⟩
    rw [h4, h2]
    simp only [Int.natCast_add, Int.mul_add]
    omega
end

/-- The last number is not too great. -/
theorem shredV_now {gap : Int} (g : GVal) (lv : Int) (nm : Bool) (name : ByteArray) (now : Int) (h0 : 0 ≤ gap) (h1 : gap ≤ 1000) : now ≤ (shredV gap g lv nm name now).2 ∧ (shredV gap g lv nm name now).2 ≤ now + 2000 * g.weight := by
  obtain ⟨h2, h3⟩ := shredV_len gap g lv nm name now
  generalize (shredV gap g lv nm name now).1.length = m at *
  have e1 : 0 ≤ 2 * gap * (m : Int) := Int.mul_nonneg (by omega) (by omega)
  have e2 : 2 * gap * (m : Int) ≤ 2000 * (m : Int) := Int.mul_le_mul_of_nonneg_right (by omega) (by omega)
  have e3 : 2000 * (m : Int) ≤ 2000 * (g.weight : Int) := Int.mul_le_mul_of_nonneg_left (by omega) (by omega)
  omega
theorem shredL_now {gap : Int} (gs : List GVal) (lv : Int) (now : Int) (h0 : 0 ≤ gap) (h1 : gap ≤ 1000) : now ≤ (shredL gap gs lv now).2 ∧ (shredL gap gs lv now).2 ≤ now + 2000 * GVal.weights gs := by
  obtain ⟨h2, h3⟩ := shredL_len gap gs lv now
  generalize (shredL gap gs lv now).1.length = m at *
  have e1 : 0 ≤ 2 * gap * (m : Int) := Int.mul_nonneg (by omega) (by omega)
  have e2 : 2 * gap * (m : Int) ≤ 2000 * (m : Int) := Int.mul_le_mul_of_nonneg_right (by omega) (by omega)
  have e3 : 2000 * (m : Int) ≤ 2000 * (GVal.weights gs : Int) := Int.mul_le_mul_of_nonneg_left (by omega) (by omega)
  omega
theorem shredM_now {gap : Int} (gs : List GVal) (ks : List ByteArray) (lv : Int) (now : Int) (h0 : 0 ≤ gap) (h1 : gap ≤ 1000) : now ≤ (shredM gap gs ks lv now).2 ∧ (shredM gap gs ks lv now).2 ≤ now + 2000 * GVal.weights gs := by
  obtain ⟨h2, h3⟩ := shredM_len gap gs ks lv now
  generalize (shredM gap gs ks lv now).1.length = m at *
  have e1 : 0 ≤ 2 * gap * (m : Int) := Int.mul_nonneg (by omega) (by omega)
  have e2 : 2 * gap * (m : Int) ≤ 2000 * (m : Int) := Int.mul_le_mul_of_nonneg_right (by omega) (by omega)
  have e3 : 2000 * (m : Int) ≤ 2000 * (GVal.weights gs : Int) := Int.mul_le_mul_of_nonneg_left (by omega) (by omega)
  omega

mutual
/-- As many keys as members' values. -/
def GVal.wf : GVal → Prop
  | .mk _ _ _ _ l ks vs => ks.length = vs.length ∧ GVal.wfs l ∧ GVal.wfs vs
def GVal.wfs : List GVal → Prop
  | [] => True
  | g :: gs => g.wf ∧ GVal.wfs gs
end

mutual
theorem RepV.wf {σ : Snap} : ∀ {g : GVal} {r : List AT}, RepV σ g r → g.wf
  | .mk k b n s l ks vs, r, h => by
    simp only [RepV] at h
    obtain ⟨_, _, _, _, _, _, _, _, h3, h4, _, h6, _⟩ := h
    exact ⟨h4, RepL.wfs h3, RepL.wfs h6⟩
theorem RepL.wfs {σ : Snap} : ∀ {gs : List GVal} {rs : List (List AT)}, RepL σ gs rs → GVal.wfs gs
  | [], _, _ => trivial
  | g :: gs, rs, h => by
    simp only [RepL] at h
    obtain ⟨r, rs', _, h2, h3⟩ := h
    exact ⟨RepV.wf h2, RepL.wfs h3⟩
end
end Go.Sy
