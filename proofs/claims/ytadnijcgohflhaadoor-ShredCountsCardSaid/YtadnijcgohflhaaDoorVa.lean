/- Values as trees, and how they lie in sealed memory. No program in sight. -/
import Derived.Test.YtadnijcgohflhaaDoorSyM
namespace Go.Sy

/-! ### Strings as lists of bytes -/

def mkB (l : List UInt8) : ByteArray := ⟨l.toArray⟩
theorem mkB_self (s : ByteArray) : mkB s.data.toList = s := rfl
theorem mkB_ex (s : ByteArray) : ∃ l, s = mkB l := ⟨s.data.toList, rfl⟩
@[simp] theorem mkB_size (l : List UInt8) : (mkB l).size = l.length := by simp [mkB, ByteArray.size]
@[simp] theorem mkB_list (l : List UInt8) : (mkB l).data.toList = l := rfl
theorem mkB_extract (l : List UInt8) (a b : Nat) : (mkB l).extract a b = mkB ((l.take b).drop a) := by
  apply ByteArray.ext
  rw [ByteArray.data_extract]
  apply Array.ext'
  simp [mkB, List.extract_eq_take_drop, List.drop_take]
theorem mkB_inj {a b : List UInt8} (h : mkB a = mkB b) : a = b := by
  have := congrArg (fun s : ByteArray => s.data.toList) h
  simpa using this

def AllLt (n : Nat) : List AT → Prop
  | [] => True
  | c :: l => c.lt n ∧ AllLt n l
theorem AllLt.of {n : Nat} : ∀ {l : List AT}, AllLt n l → ∀ c ∈ l, c.lt n
  | [], _, _, h => by cases h
  | y :: l, h, z, hz => by
    cases hz with
    | head => exact h.1
    | tail _ hz => exact AllLt.of h.2 z hz

structure GDec where
  neg : Bool
  dg : ByteArray
  ex : Int
deriving DecidableEq

inductive GVal where
  | mk (kind : Int) (b : Bool) (n : GDec) (s : ByteArray) (l : List GVal) (ks : List ByteArray) (vs : List GVal)

namespace GVal
def kind : GVal → Int | mk k _ _ _ _ _ _ => k
def b : GVal → Bool | mk _ b _ _ _ _ _ => b
def n : GVal → GDec | mk _ _ n _ _ _ _ => n
def s : GVal → ByteArray | mk _ _ _ s _ _ _ => s
def l : GVal → List GVal | mk _ _ _ _ l _ _ => l
def ks : GVal → List ByteArray | mk _ _ _ _ _ ks _ => ks
def vs : GVal → List GVal | mk _ _ _ _ _ _ vs => vs
end GVal

def decCells (d : GDec) : List AT := [.b d.neg, .v (.string d.dg), .v (.int .i64 d.ex)]

theorem decCells_lt (n : Nat) (d : GDec) : ∀ c ∈ decCells d, c.lt n := by simp [decCells, AT.lt]

def keyRow (k : ByteArray) (r : List AT) : List AT := .v (.string k) :: r

def keyRows : List ByteArray → List (List AT) → List (List AT)
  | k :: ks, r :: rs => keyRow k r :: keyRows ks rs
  | _, _ => []

/-- What one may take for granted of any value that is at hand. -/
def mostLen : Nat := 140737488351232

mutual
/-- The value's cells. -/
def RepV (σ : Snap) : GVal → List AT → Prop
  | .mk k b n s l ks vs, r => ∃ la lc lrows ma mc vrows,
      r = [.v (.int .i64 k), .b b, .b n.neg, .v (.string n.dg), .v (.int .i64 n.ex), .v (.string s), .v (.slice la l.length lc), .v (.slice ma ks.length mc)] ∧
      SlAt σ la l.length lc 8 lrows ∧ RepL σ l lrows ∧ ks.length = vs.length ∧ SlAt σ ma ks.length mc 9 (keyRows ks vrows) ∧ RepL σ vs vrows ∧
      n.dg.size ≤ mostLen ∧ s.size ≤ mostLen ∧ l.length ≤ mostLen ∧ ks.length ≤ mostLen ∧ (∀ k ∈ ks, k.size ≤ mostLen)
def RepL (σ : Snap) : List GVal → List (List AT) → Prop
  | [], rs => rs = []
  | g :: gs, rs => ∃ r rs', rs = r :: rs' ∧ RepV σ g r ∧ RepL σ gs rs'
end

mutual
theorem RepV.mono {σ σ' : Snap} (h : σ.le σ') : ∀ {g : GVal} {r : List AT}, RepV σ g r → RepV σ' g r
  | .mk k b n s l ks vs, r, hr => by
    simp only [RepV] at hr ⊢
    obtain ⟨la, lc, lrows, ma, mc, vrows, h1, h2, h3, h4, h5, h6, h7⟩ := hr
    exact ⟨la, lc, lrows, ma, mc, vrows, h1, h2.mono h, RepL.mono h h3, h4, h5.mono h, RepL.mono h h6, h7⟩
theorem RepL.mono {σ σ' : Snap} (h : σ.le σ') : ∀ {gs : List GVal} {rs : List (List AT)}, RepL σ gs rs → RepL σ' gs rs
  | [], _, hr => by simp only [RepL] at hr ⊢; exact hr
  | g :: gs, rs, hr => by
    simp only [RepL] at hr ⊢
    obtain ⟨r, rs', h1, h2, h3⟩ := hr
    exact ⟨r, rs', h1, RepV.mono h h2, RepL.mono h h3⟩
end

theorem RepL.len {σ : Snap} : ∀ {gs : List GVal} {rs : List (List AT)}, RepL σ gs rs → rs.length = gs.length
  | [], _, h => by simp only [RepL] at h; subst h; rfl
  | g :: gs, rs, h => by
    simp only [RepL] at h
    obtain ⟨r, rs', rfl, _, h3⟩ := h
    simp [RepL.len h3]

theorem RepL.get {σ : Snap} : ∀ {gs : List GVal} {rs : List (List AT)} {i : Nat} {g : GVal}, RepL σ gs rs → gs[i]? = some g → ∃ r, rs[i]? = some r ∧ RepV σ g r
  | [], _, _, _, _, hi => by simp at hi
  | g :: gs, rs, 0, g', h, hi => by
    simp only [RepL] at h
    obtain ⟨r, rs', rfl, h2, _⟩ := h
    simp at hi
    subst hi
    exact ⟨r, rfl, h2⟩
  | g :: gs, rs, i + 1, g', h, hi => by
    simp only [RepL] at h
    obtain ⟨r, rs', rfl, _, h3⟩ := h
    obtain ⟨r', h4, h5⟩ := RepL.get h3 (i := i) (by simpa using hi)
    exact ⟨r', by simpa using h4, h5⟩

theorem RepL.append {σ : Snap} : ∀ {gs hs : List GVal} {rs qs : List (List AT)}, RepL σ gs rs → RepL σ hs qs → RepL σ (gs ++ hs) (rs ++ qs)
  | [], hs, rs, qs, h, h' => by simp only [RepL] at h; subst h; simpa using h'
  | g :: gs, hs, rs, qs, h, h' => by
    simp only [RepL] at h
    obtain ⟨r, rs', rfl, h2, h3⟩ := h
    simp only [List.cons_append, RepL]
    exact ⟨r, rs' ++ qs, rfl, h2, RepL.append h3 h'⟩

theorem keyRows_len : ∀ {ks : List ByteArray} {rs : List (List AT)}, ks.length = rs.length → (keyRows ks rs).length = ks.length
  | [], rs, h => by simp [keyRows]
  | k :: ks, [], h => by simp at h
  | k :: ks, r :: rs, h => by simp [keyRows, keyRows_len (ks := ks) (rs := rs) (by simpa using h)]

theorem keyRows_get : ∀ {ks : List ByteArray} {rs : List (List AT)} {i : Nat} {k : ByteArray} {r : List AT}, ks[i]? = some k → rs[i]? = some r → (keyRows ks rs)[i]? = some (keyRow k r)
  | [], _, _, _, _, h, _ => by simp at h
  | _ :: _, [], _, _, _, _, h => by simp at h
  | k :: ks, r :: rs, 0, k', r', h, h' => by simp at h h'; subst h; subst h'; rfl
  | k :: ks, r :: rs, i + 1, k', r', h, h' => by
    simp only [keyRows, List.getElem?_cons_succ]
    exact keyRows_get (by simpa using h) (by simpa using h')

theorem RepV.len {σ : Snap} {g : GVal} {r : List AT} (h : RepV σ g r) : r.length = 8 := by
  cases g
  simp only [RepV] at h
  obtain ⟨_, _, _, _, _, _, rfl, _⟩ := h
  rfl
theorem RepV.clo {σ : Snap} {g : GVal} {r : List AT} (h : RepV σ g r) : ∀ c ∈ r, c.lt 0 := by
  cases g
  simp only [RepV] at h
  obtain ⟨_, _, _, _, _, _, rfl, _⟩ := h
  simp [AT.lt]
theorem RepV.one {σ : Snap} {g : GVal} {r : List AT} (h : RepV σ g r) : r.all AT.one = true := by
  cases g
  simp only [RepV] at h
  obtain ⟨_, _, _, _, _, _, rfl, _⟩ := h
  rfl

/-- A value's cells, laid open. -/
structure VAt (σ : Snap) (g : GVal) (la : Option Addr) (lc : Nat) (lrows : List (List AT)) (ma : Option Addr) (mc : Nat) (vrows : List (List AT)) : Prop where
  L : SlAt σ la g.l.length lc 8 lrows
  l : RepL σ g.l lrows
  kv : g.ks.length = g.vs.length
  M : SlAt σ ma g.ks.length mc 9 (keyRows g.ks vrows)
  v : RepL σ g.vs vrows
  dg : g.n.dg.size ≤ mostLen
  s : g.s.size ≤ mostLen
  ll : g.l.length ≤ mostLen
  kl : g.ks.length ≤ mostLen
  kk : ∀ k ∈ g.ks, k.size ≤ mostLen

def vCells (g : GVal) (la : Option Addr) (lc : Nat) (ma : Option Addr) (mc : Nat) : List AT :=
  [.v (.int .i64 g.kind), .b g.b, .b g.n.neg, .v (.string g.n.dg), .v (.int .i64 g.n.ex), .v (.string g.s), .v (.slice la g.l.length lc), .v (.slice ma g.ks.length mc)]

theorem vCells_lt (n : Nat) (g : GVal) (la : Option Addr) (lc : Nat) (ma : Option Addr) (mc : Nat) : ∀ c ∈ vCells g la lc ma mc, c.lt n := by simp [vCells, AT.lt]

theorem RepV.open {σ : Snap} {g : GVal} {r : List AT} (h : RepV σ g r) : ∃ la lc lrows ma mc vrows, r = vCells g la lc ma mc ∧ VAt σ g la lc lrows ma mc vrows := by
  cases g
  simp only [RepV] at h
  obtain ⟨la, lc, lrows, ma, mc, vrows, rfl, h2, h3, h4, h5, h6, h7, h8, h9, h10, h11⟩ := h
  exact ⟨la, lc, lrows, ma, mc, vrows, rfl, h2, h3, h4, h5, h6, h7, h8, h9, h10, h11⟩
theorem VAt.rep {σ : Snap} {g : GVal} {la : Option Addr} {lc : Nat} {lrows : List (List AT)} {ma : Option Addr} {mc : Nat} {vrows : List (List AT)} (h : VAt σ g la lc lrows ma mc vrows) : RepV σ g (vCells g la lc ma mc) := by
  cases g
  simp only [RepV]
  exact ⟨la, lc, lrows, ma, mc, vrows, rfl, h.L, h.l, h.kv, h.M, h.v, h.dg, h.s, h.ll, h.kl, h.kk⟩

theorem VAt.vlen {σ : Snap} {g : GVal} {la : Option Addr} {lc : Nat} {lrows : List (List AT)} {ma : Option Addr} {mc : Nat} {vrows : List (List AT)} (h : VAt σ g la lc lrows ma mc vrows) : vrows.length = g.ks.length := by
  rw [h.v.len, h.kv]

/-- How much a value weighs. -/
def sizes : List ByteArray → Nat
  | [] => 0
  | k :: ks => k.size + sizes ks

mutual
def GVal.weight : GVal → Nat
  | .mk _ _ n s l ks vs => 1 + s.size + n.dg.size + GVal.weights l + sizes ks + GVal.weights vs
def GVal.weights : List GVal → Nat
  | [] => 0
  | g :: gs => g.weight + GVal.weights gs
end

theorem weights_append : ∀ (a b : List GVal), GVal.weights (a ++ b) = GVal.weights a + GVal.weights b
  | [], b => by simp [GVal.weights]
  | g :: a, b => by simp only [List.cons_append, GVal.weights, weights_append a b]; omega
theorem sizes_append : ∀ (a b : List ByteArray), sizes (a ++ b) = sizes a + sizes b
  | [], b => by simp [sizes]
  | g :: a, b => by simp only [List.cons_append, sizes, sizes_append a b]; omega

theorem weights_take {l : List GVal} {i : Nat} {g : GVal} (h : l[i]? = some g) : GVal.weights (l.take (i + 1)) = GVal.weights (l.take i) + g.weight := by
  have hlt := (List.getElem?_eq_some_iff.1 h).1
  rw [List.take_succ_eq_append_getElem hlt, weights_append]
  simp only [GVal.weights, Nat.add_zero]
  rw [(List.getElem?_eq_some_iff.1 h).2]
theorem sizes_take {l : List ByteArray} {i : Nat} {k : ByteArray} (h : l[i]? = some k) : sizes (l.take (i + 1)) = sizes (l.take i) + k.size := by
  have hlt := (List.getElem?_eq_some_iff.1 h).1
  rw [List.take_succ_eq_append_getElem hlt, sizes_append]
  simp only [sizes, Nat.add_zero]
  rw [(List.getElem?_eq_some_iff.1 h).2]

theorem GVal.weight_eq (g : GVal) : g.weight = 1 + g.s.size + g.n.dg.size + GVal.weights g.l + sizes g.ks + GVal.weights g.vs := by
  cases g; simp only [GVal.weight, GVal.s, GVal.n, GVal.l, GVal.ks, GVal.vs]
theorem weight_pos (g : GVal) : 0 < g.weight := by rw [GVal.weight_eq]; omega
theorem weight_mem {l : List GVal} {g : GVal} (h : g ∈ l) : g.weight ≤ GVal.weights l := by
  induction l with
  | nil => cases h
  | cons x l ih =>
    simp only [GVal.weights]
    cases h with
    | head => omega
    | tail _ h => have := ih h; omega
theorem weights_len (l : List GVal) : l.length ≤ GVal.weights l := by
  induction l with
  | nil => simp
  | cons x l ih => simp only [GVal.weights, List.length_cons]; have := weight_pos x; omega
theorem size_mem {l : List ByteArray} {k : ByteArray} (h : k ∈ l) : k.size ≤ sizes l := by
  induction l with
  | nil => cases h
  | cons x l ih =>
    simp only [sizes]
    cases h with
    | head => omega
    | tail _ h => have := ih h; omega

/-- Proof by a value's weight. -/
theorem GVal.byWeight {p : GVal → Prop} (h : ∀ g, (∀ g', g'.weight < g.weight → p g') → p g) (g : GVal) : p g := by
  have key : ∀ n, ∀ g : GVal, g.weight ≤ n → p g := by
    intro n
    induction n with
    | zero => intro g hg; have := weight_pos g; omega
    | succ n ih => intro g hg; exact h g fun g' hg' => ih g' (by omega)
  exact key g.weight g (Nat.le_refl _)

theorem weight_l {g x : GVal} (h : x ∈ g.l) : x.weight < g.weight := by
  have := weight_mem h; rw [g.weight_eq]; omega
theorem weight_v {g x : GVal} (h : x ∈ g.vs) : x.weight < g.weight := by
  have := weight_mem h; rw [g.weight_eq]; omega

end Go.Sy
