/- A region's operations on data at hand are reckoned by a function; what it reckons is what the model does. No program in sight. -/
import Derived.Test.YtadnijcgohflhaaDoorSyA
import Derived.WalkKit
namespace Go.Sy

/-! ### The data -/

/-- A pointer into a known row that a function value bears, or any value that it bears. -/
inductive PT where
  | loc (i off : Nat)
  | val (x : Value)

/-- What one cell holds: a value; a Bool; a pointer to a known row; a slice over a whole row; a function value. -/
inductive AT where
  | v (x : Value)
  | b (x : Bool)
  | tt | ff
  | p (h off : Nat)
  | sl (h len : Nat)
  | fn (f : Fn) (c : List PT)

inductive S1 where
  | a (x : AT)
  | agg (cs : List AT)

inductive SV where
  | a (x : AT)
  | agg (cs : List AT)
  | tup (vs : List S1)

def PT.den (β : Nat → Addr) : PT → Value
  | .loc i off => .pointer (some ((β i).add off))
  | .val x => x

def AT.den (β : Nat → Addr) : AT → Value
  | .v x => x
  | .b x => .bool x
  | .tt => .bool true
  | .ff => .bool false
  | .p h off => .pointer (some ((β h).add off))
  | .sl h len => .slice (some (β h)) len len
  | .fn f c => .func f #[] (c.map (PT.den β)).toArray

def S1.den (β : Nat → Addr) : S1 → Value
  | .a x => x.den β
  | .agg cs => .agg (cs.map (AT.den β)).toArray

def SV.den (β : Nat → Addr) : SV → Value
  | .a x => x.den β
  | .agg cs => .agg (cs.map (AT.den β)).toArray
  | .tup vs => .tuple (vs.map (S1.den β)).toArray

def PT.lt (n : Nat) : PT → Prop
  | .loc i _ => i < n
  | .val _ => True

def AT.lt (n : Nat) : AT → Prop
  | .p h _ => h < n
  | .sl h _ => h < n
  | .fn _ c => ∀ x ∈ c, x.lt n
  | _ => True

def S1.lt (n : Nat) : S1 → Prop
  | .a x => x.lt n
  | .agg cs => ∀ x ∈ cs, x.lt n

def SV.lt (n : Nat) : SV → Prop
  | .a x => x.lt n
  | .agg cs => ∀ x ∈ cs, x.lt n
  | .tup vs => ∀ x ∈ vs, x.lt n

theorem PT.lt_mono {n m : Nat} (h : n ≤ m) : ∀ {x : PT}, x.lt n → x.lt m
  | .loc _ _, hx => Nat.lt_of_lt_of_le hx h
  | .val _, _ => trivial
theorem AT.lt_mono {n m : Nat} (h : n ≤ m) : ∀ {x : AT}, x.lt n → x.lt m
  | .v _, _ | .b _, _ | .tt, _ | .ff, _ => trivial
  | .p _ _, hx => Nat.lt_of_lt_of_le hx h
  | .sl _ _, hx => Nat.lt_of_lt_of_le hx h
  | .fn _ _, hx => fun x hm => PT.lt_mono h (hx x hm)
theorem S1.lt_mono {n m : Nat} (h : n ≤ m) : ∀ {x : S1}, x.lt n → x.lt m
  | .a _, hx => AT.lt_mono h hx
  | .agg _, hx => fun x hm => AT.lt_mono h (hx x hm)
theorem SV.lt_mono {n m : Nat} (h : n ≤ m) : ∀ {x : SV}, x.lt n → x.lt m
  | .a _, hx => AT.lt_mono h hx
  | .agg _, hx => fun x hm => AT.lt_mono h (hx x hm)
  | .tup _, hx => fun x hm => S1.lt_mono h (hx x hm)

section
variable {β β' : Nat → Addr} {n : Nat} (h : ∀ i, i < n → β' i = β i)
include h
theorem PT.den_congr : ∀ {x : PT}, x.lt n → x.den β' = x.den β
  | .loc i _, hx => by simp only [PT.den, h i hx]
  | .val _, _ => rfl
theorem AT.den_congr : ∀ {x : AT}, x.lt n → x.den β' = x.den β
  | .v _, _ | .b _, _ | .tt, _ | .ff, _ => rfl
  | .p i _, hx => by simp only [AT.den, h i hx]
  | .sl i _, hx => by simp only [AT.den, h i hx]
  | .fn _ c, hx => by simp only [AT.den]; rw [List.map_congr_left fun x hm => PT.den_congr h (hx x hm)]
theorem AT.denL_congr {l : List AT} (hl : ∀ x ∈ l, x.lt n) : l.map (AT.den β') = l.map (AT.den β) := List.map_congr_left fun x hm => AT.den_congr h (hl x hm)
theorem S1.den_congr : ∀ {x : S1}, x.lt n → x.den β' = x.den β
  | .a _, hx => AT.den_congr h hx
  | .agg _, hx => by simp only [S1.den, AT.denL_congr h hx]
theorem SV.den_congr : ∀ {x : SV}, x.lt n → x.den β' = x.den β
  | .a _, hx => AT.den_congr h hx
  | .agg _, hx => by simp only [SV.den, AT.denL_congr h hx]
  | .tup vs, hx => by simp only [SV.den]; rw [List.map_congr_left fun x hm => S1.den_congr h (hx x hm)]
end

/-- One cell's value, for sure. -/
def AT.one : AT → Bool
  | .v x => x.oneCell'
  | _ => true
theorem AT.one_den {x : AT} (β : Nat → Addr) (h : x.one = true) : (x.den β).oneCell' = true := by
  cases x <;> first | exact h | rfl

/-! ### Slots and rows -/

theorem beq_ne {i j : Nat} (h : i ≠ j) : Nat.beq i j = false := by
  cases hb : Nat.beq i j with
  | false => rfl
  | true => exact absurd (Nat.eq_of_beq_eq_true hb) h
theorem beq_same (i : Nat) : Nat.beq i i = true := by simp

abbrev Env := List (Nat × SV)

def Env.get : Env → Nat → Option SV
  | [], _ => none
  | (j, x) :: l, i => bif Nat.beq j i then some x else Env.get l i

inductive HK where
  | loc (e : TypeId)
  | ro

abbrev HP := List (Nat × HK × List AT)

def HP.get : HP → Nat → Option (HK × List AT)
  | [], _ => none
  | (j, k, cs) :: l, i => bif Nat.beq j i then some (k, cs) else HP.get l i

theorem Env.get_cons (j i : Nat) (x : SV) (l : Env) : Env.get ((j, x) :: l) i = if j = i then some x else Env.get l i := by
  simp only [Env.get]
  by_cases h : j = i
  · subst h; simp
  · rw [if_neg h, beq_ne h]; rfl

theorem HP.get_cons (j i : Nat) (k : HK) (cs : List AT) (l : HP) : HP.get ((j, k, cs) :: l) i = if j = i then some (k, cs) else HP.get l i := by
  simp only [HP.get]
  by_cases h : j = i
  · subst h; simp
  · rw [if_neg h, beq_ne h]; rfl

def svOf : Value → SV
  | .bool true => .a .tt
  | .bool false => .a .ff
  | .agg cs => .agg (cs.toList.map AT.v)
  | x => .a (.v x)

theorem svOf_den (β : Nat → Addr) (x : Value) : (svOf x).den β = x := by
  unfold svOf
  split
  · rfl
  · rfl
  · rename_i cs
    simp [SV.den, AT.den, Function.comp_def]
  · rfl

theorem svOf_lt (x : Value) (n : Nat) : (svOf x).lt n := by
  unfold svOf
  split
  · trivial
  · trivial
  · intro x hx; obtain ⟨y, _, rfl⟩ := List.mem_map.1 hx; trivial
  · trivial

def evalO (env : Env) : Operand → Option SV
  | .tmp t => env.get t
  | .const v => some (svOf v)
  | .global g => some (.a (.v (.pointer (some ⟨g, 0, none⟩))))
  | .func f => some (.a (.fn (.func f) []))

/-! ### Types -/

inductive TK where
  | bool | int (k : IntKind) | str | slice (e : Nat) | struct | ptr (e : Nat) | map (k e : Nat) | iface | func | array (n e : Nat) | other

structure TI where
  size : Nat
  agg : Bool
  zero : List AT
  fields : List (Nat × Nat × Option Bool)
  kind : TK
  bytes : Nat

def atOf : Value → AT
  | .bool true => .tt
  | .bool false => .ff
  | x => .v x

theorem atOf_den (β : Nat → Addr) (x : Value) : (atOf x).den β = x := by unfold atOf; split <;> rfl
theorem atOf_lt (x : Value) (n : Nat) : (atOf x).lt n := by unfold atOf; split <;> trivial

def aggD : TypeDesc → Bool
  | .struct _ | .array _ _ => true
  | _ => false

def kindD : TypeDesc → TK
  | .bool => .bool
  | .int k => .int k
  | .string => .str
  | .slice e => .slice e
  | .struct _ => .struct
  | .pointer e => .ptr e
  | .map k e => .map k e
  | .interface _ => .iface
  | .func _ _ _ => .func
  | .array n e => .array n e
  | _ => .other

def tiOf (P : Program) (t : TypeId) : Option TI :=
  match P.info? t, P.underlying t with
  | some i, some d =>
    match i.zero with
    | some z => some { size := i.size, agg := aggD d, zero := z.cells.toList.map atOf, fields := (match d with | .struct fs => fs.toList.map fun f => (f.offset, P.cellsOf f.type, (P.underlying f.type).map aggD) | _ => []), kind := kindD d, bytes := i.bytes }
    | none => none
  | _, _ => none

def tget : List (Nat × TI) → Nat → Option TI
  | [], _ => none
  | (j, x) :: l, i => bif Nat.beq j i then some x else tget l i

def TTok (P : Program) (T : List (Nat × TI)) : Prop := ∀ t ti, tget T t = some ti → tiOf P t = some ti

theorem TTok.nil (P : Program) : TTok P [] := fun _ _ h => by cases h
theorem TTok.cons {P : Program} {T : List (Nat × TI)} {t : Nat} {ti : TI} (h : tiOf P t = some ti) (hT : TTok P T) : TTok P ((t, ti) :: T) := by
  intro u tu hu
  simp only [tget] at hu
  by_cases e : t = u
  · subst e; simp at hu; subst hu; exact h
  · rw [beq_ne e] at hu; exact hT u tu hu

structure TI.Of (P : Program) (t : TypeId) (ti : TI) (i : TypeInfo) (d : TypeDesc) (z : Value) : Prop where
  info : P.info? t = some i
  und : P.underlying t = some d
  zero : i.zero = some z
  size : i.size = ti.size
  agg : aggD d = ti.agg
  zcells : z.cells.toList.map atOf = ti.zero
  fields : (match d with | .struct fs => fs.toList.map fun f => (f.offset, P.cellsOf f.type, (P.underlying f.type).map aggD) | _ => []) = ti.fields
  kind : kindD d = ti.kind
  bytes : i.bytes = ti.bytes

theorem tiOf_spec {P : Program} {t : TypeId} {ti : TI} (h : tiOf P t = some ti) : ∃ i d z, TI.Of P t ti i d z := by
  unfold tiOf at h
  split at h
  · rename_i i d hi hd
    split at h
    · rename_i z hz
      injection h with h
      subst h
      exact ⟨i, d, z, { info := hi, und := hd, zero := hz, size := rfl, agg := rfl, zcells := rfl, fields := by cases d <;> rfl, kind := rfl, bytes := rfl }⟩
    · cases h
  · cases h

/-! ### The steps -/

inductive Eff where
  | val (x : SV)
  | new (e : TypeId) (cs : List AT) (x : AT)
  | put (h : Nat) (e : TypeId) (cs : List AT)

def SV.cells : SV → Option (List AT)
  | .a x => bif x.one then some [x] else none
  | .agg cs => some cs
  | .tup _ => none

/-- 'ns' laid over 'cs' from 'off' on; none if they don't fit. -/
def lay : List AT → Nat → List AT → Option (List AT)
  | cs, 0, [] => some cs
  | [], 0, _ :: _ => none
  | _ :: cs, 0, n :: ns => (lay cs 0 ns).map (n :: ·)
  | [], _ + 1, _ => none
  | c :: cs, off + 1, ns => (lay cs off ns).map (c :: ·)

/-- 'n' cells from 'off' on. -/
def takeAt : List AT → Nat → Nat → Option (List AT)
  | _, 0, 0 => some []
  | [], 0, _ + 1 => none
  | c :: cs, 0, n + 1 => (takeAt cs 0 n).map (c :: ·)
  | [], _ + 1, _ => none
  | _ :: cs, off + 1, n => takeAt cs off n

def nthAt : List AT → Nat → Option AT
  | [], _ => none
  | c :: _, 0 => some c
  | _ :: cs, n + 1 => nthAt cs n

def nthF : List (Nat × Nat × Option Bool) → Nat → Option (Nat × Nat × Option Bool)
  | [], _ => none
  | c :: _, 0 => some c
  | _ :: cs, n + 1 => nthF cs n

def nthS : List S1 → Nat → Option S1
  | [], _ => none
  | c :: _, 0 => some c
  | _ :: cs, n + 1 => nthS cs n

def S1.sv : S1 → SV
  | .a x => .a x
  | .agg cs => .agg cs

def boolOf : AT → Option Bool
  | .tt => some true
  | .ff => some false
  | .b x => some x
  | _ => none

def pickB (c : Bool) : AT → AT → Option AT
  | .tt, .b y => some (.b (c || y))
  | .tt, .ff => some (.b c)
  | .ff, .tt => some (.b (!c))
  | .b x, .ff => some (.b (c && x))
  | .b x, .b y => some (.b (bif c then x else y))
  | .b x, .tt => some (.b (!c || x))
  | .ff, .b y => some (.b (!c && y))
  | .tt, .tt => some .tt
  | .ff, .ff => some .ff
  | _, _ => none

def kindEq : IntKind → IntKind → Bool
  | .i8, .i8 | .i16, .i16 | .i32, .i32 | .i64, .i64 | .u8, .u8 | .u16, .u16 | .u32, .u32 | .u64, .u64 => true
  | _, _ => false

theorem kindEq_eq {j k : IntKind} (h : kindEq j k = true) : j = k := by cases j <;> cases k <;> first | rfl | cases h

def cmpI : BinOp → Int → Int → Option Bool
  | .eql, a, b => some (decide (a = b))
  | .neq, a, b => some (!decide (a = b))
  | .lss, a, b => some (decide (a < b))
  | .leq, a, b => some (decide (a ≤ b))
  | .gtr, a, b => some (decide (b < a))
  | .geq, a, b => some (decide (b ≤ a))
  | _, _, _ => none

def cmpS : BinOp → ByteArray → ByteArray → Option Bool
  | .eql, a, b => some (decide (a = b))
  | .neq, a, b => some (!decide (a = b))
  | .lss, a, b => some (Op.bytesLess a.toList b.toList)
  | _, _, _ => none

def cmpB : BinOp → Bool → Bool → Option Bool
  | .eql, a, b => some (a == b)
  | .neq, a, b => some (a != b)
  | _, _, _ => none

def isBoolK : TK → Bool
  | .bool => true
  | _ => false

def binA (op : BinOp) : AT → AT → Option Bool
  | .v (.int j a), .v (.int k b) => bif kindEq j k then cmpI op a b else none
  | .v (.string a), .v (.string b) => cmpS op a b
  | _, _ => none

def isStrK : TK → Bool
  | .str => true
  | _ => false
def isIfaceK : TK → Bool
  | .iface => true
  | _ => false

def ptsOf (env : Env) : List Operand → Option (List PT)
  | [] => some []
  | x :: xs =>
    match evalO env x with
    | some (.a (.p h o)) => (ptsOf env xs).map (PT.loc h o :: ·)
    | some (.a (.v y)) => (ptsOf env xs).map (PT.val y :: ·)
    | _ => none

/-- The parts of a struct, laid over its zero cells. -/
def fillA (env : Env) (fields : List (Nat × Nat × Option Bool)) : List AT → List (Nat × Operand) → Option (List AT)
  | cs, [] => some cs
  | cs, (i, x) :: rest =>
    match nthF fields i, (evalO env x).bind SV.cells with
    | some (off, size, _), some ns =>
      bif Nat.beq ns.length size then (lay cs off ns).bind fun cs' => fillA env fields cs' rest else none
    | _, _ => none

/-- The parts of a slice that is written out, all of them, in order. -/
def fillS (env : Env) (size : Nat) : Nat → List (Nat × Operand) → Option (List AT)
  | _, [] => some []
  | k, (i, x) :: rest =>
    match (evalO env x).bind SV.cells with
    | some ns => bif Nat.beq i k && Nat.beq ns.length size then (fillS env size (k + 1) rest).map (ns ++ ·) else none
    | none => none

def lenA : TK → AT → Option Int
  | .slice _, .sl _ n => some n
  | .slice _, .v (.slice _ n _) => some n
  | .str, .v (.string s) => some s.size
  | _, _ => none

def stepOp (T : List (Nat × TI)) (op : Op) (env : Env) (hp : HP) (nh : Nat) : Option Eff :=
  match op with
  | .move x | .assign x => (evalO env x).map .val
  | .pick c a b =>
    match evalO env c with
    | some (.a .tt) => (evalO env a).map .val
    | some (.a .ff) => (evalO env b).map .val
    | some (.a (.b c)) =>
      match evalO env a, evalO env b with
      | some (.a x), some (.a y) => (pickB c x y).map fun z => .val (.a z)
      | _, _ => none
    | _ => none
  | .alloc t => (tget T t).map fun ti => .new t ti.zero (.p nh 0)
  | .box t x => ((evalO env x).bind SV.cells).map fun cs => .new t cs (.p nh 0)
  | .build t parts =>
    match tget T t with
    | some ti =>
      match ti.kind with
      | .struct => bif ti.fields.all (fun f => f.2.2.isSome) then (fillA env ti.fields ti.zero parts.toList).map fun cs => .val (.agg cs) else none
      | _ => none
    | none => none
  | .buildSlice t n parts =>
    match tget T t with
    | some ti =>
      match ti.kind with
      | .slice e =>
        match tget T e with
        | some te => bif Nat.beq parts.toList.length n && Nat.ble (n * te.size) 16777216 then (fillS env te.size 0 parts.toList).map fun cs => .new e cs (.sl nh n) else none
        | none => none
      | _ => none
    | none => none
  | .load t a =>
    match evalO env a, tget T t with
    | some (.a (.p h off)), some ti =>
      match hp.get h with
      | some (_, cs) => bif ti.agg then (takeAt cs off ti.size).map fun l => .val (.agg l) else (nthAt cs off).map fun c => .val (.a c)
      | none => none
    | _, _ => none
  | .store t a x =>
    match evalO env a, tget T t, (evalO env x).bind SV.cells with
    | some (.a (.p h off)), some ti, some ns =>
      match hp.get h with
      | some (.loc e, cs) => bif Nat.beq ns.length ti.size && ns.all AT.one then (lay cs off ns).map fun l => .put h e l else none
      | _ => none
    | _, _, _ => none
  | .nilCheck x =>
    match evalO env x with
    | some (.a (.p h o)) => some (.val (.a (.p h o)))
    | some (.a (.v (.pointer (some a)))) => some (.val (.a (.v (.pointer (some a)))))
    | some (.a (.fn (.func f) c)) => some (.val (.a (.fn (.func f) c)))
    | _ => none
  | .binOp op xt x y _ =>
    match evalO env x, evalO env y with
    | some (.a a), some (.a b) =>
      match boolOf a, boolOf b with
      | some p, some q =>
        match tget T xt with
        | some ti => bif isBoolK ti.kind then (cmpB op p q).map fun r => .val (.a (.b r)) else none
        | none => none
      | _, _ => (binA op a b).map fun r => .val (.a (.b r))
    | _, _ => none
  | .unOp .not _ x =>
    match evalO env x with
    | some (.a .tt) => some (.val (.a .ff))
    | some (.a .ff) => some (.val (.a .tt))
    | some (.a (.b c)) => some (.val (.a (.b (!c))))
    | _ => none
  | .fieldAddr t x i =>
    match evalO env x, tget T t with
    | some (.a (.p h off)), some ti =>
      match ti.kind, nthF ti.fields i with
      | .struct, some (o, size, _) => bif Nat.beq size 0 then none else some (.val (.a (.p h (off + o))))
      | _, _ => none
    | some (.a (.v (.pointer (some ad)))), some ti =>
      match ti.kind, nthF ti.fields i with
      | .struct, some (o, size, _) => bif Nat.beq size 0 then none else some (.val (.a (.v (.pointer (some (ad.add o))))))
      | _, _ => none
    | _, _ => none
  | .field t x i =>
    match evalO env x, tget T t with
    | some (.agg cs), some ti =>
      match ti.kind, nthF ti.fields i with
      | .struct, some (o, size, some ag) => bif ag then (takeAt cs o size).map fun l => .val (.agg l) else (nthAt cs o).map fun c => .val (.a c)
      | _, _ => none
    | _, _ => none
  | .extract t i =>
    match evalO env t with
    | some (.tup vs) => (nthS vs i).map fun z => .val z.sv
    | _ => none
  | .makeInterface t x =>
    match evalO env x, tget T t with
    | some (.a (.v y)), some ti => bif isIfaceK ti.kind then none else some (.val (.a (.v (.iface t y))))
    | _, _ => none
  | .makeFunc f first captured =>
    match first.toList with
    | [] => (ptsOf env captured.toList).map fun l => .val (.a (.fn f l))
    | _ => none
  | .convert s d x =>
    match evalO env x, tget T s, tget T d with
    | some (.a (.v (.string y))), some ts, some ti => bif isStrK ti.kind && isStrK ts.kind then some (.val (.a (.v (.string y)))) else none
    | _, _, _ => none
  | .call c =>
    match c.callee, c.args.toList, c.argTypes.toList with
    | .builtin .len, [x], [t] =>
      match evalO env x, tget T t with
      | some (.a y), some ti => (lenA ti.kind y).map fun n => .val (.a (.v (.int .i64 n)))
      | _, _ => none
    | _, _, _ => none
  | _ => none

end Go.Sy
