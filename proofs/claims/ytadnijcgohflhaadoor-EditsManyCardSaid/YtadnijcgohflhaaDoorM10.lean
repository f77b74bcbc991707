/- Parts of the proof of CEditsMany: F26, F32, SyV, F33, Lf, F34, Lj. No conditions. -/
import Derived.Test.YtadnijcgohflhaaDoorM9
import Derived.Scope
namespace Go.Sy
open Go.Proofs

/-! ### Steps as texts -/

def strRows (l : List ByteArray) : List (List AT) := l.map fun s => [.v (.string s)]
theorem strRows_get {l : List ByteArray} {i : Nat} {s : ByteArray} (h : l[i]? = some s) : (strRows l)[i]? = some [.v (.string s)] := by unfold strRows; rw [List.getElem?_map, h]; rfl

theorem take_succ_eq {α : Type} {a b : List α} {k : Nat} (h : a.take k = b.take k) (ha : k < a.length) (hb : k < b.length) : a.take (k + 1) = b.take (k + 1) ↔ a[k] = b[k] := by
  rw [List.take_succ_eq_append_getElem ha, List.take_succ_eq_append_getElem hb, h, List.append_cancel_left_eq, List.cons.injEq]
  simp

set_option maxRecDepth 100000 in
set_option maxHeartbeats 1000000 in
theorem Equal_c (σ : Snap) (a b : List ByteArray) (hl : a.length ≤ 140737488355328) (ao bo : Option Addr) (ac bc : Nat) (HA : SlAt σ ao a.length ac 1 (strRows a)) (HB : SlAt σ bo b.length bc 1 (strRows b)) :
    PlainS Tryd.prog 99 [.a (.v (.slice ao a.length ac)), .a (.v (.slice bo b.length bc))] σ (fun x => x = .bool (decide (a = b))) := by
  refine enter_p Tryd.func99 rfl rfl (by (repeat' (first | exact trivial | constructor))) fun w => ?_
  (repeat (first | refine cj_seq ?_ | (refine cj_region ?_; refine oj_run TT rfl ?_) | refine oj_then ?_))
  refine cj_if rfl (fun h => ?_) (fun h => ?_)
  · have h : ¬ (a.length : Int) = b.length := by simpa using h
    (repeat (first | refine cj_seq ?_ | (refine cj_region ?_; refine oj_run TT rfl ?_) | refine oj_then ?_ | refine cj_ret ?_ | refine nj_then_ret ?_))
    refine nj_ret TT rfl fun β w' _ _ => ?_
    rw [decide_eq_false (fun e => h (by rw [e]))]
    rfl
  have hlen : a.length = b.length := by
    have h : (a.length : Int) = b.length := by simpa using h
    omega
  (repeat (first | refine cj_seq ?_ | (refine cj_region ?_; refine oj_run TT rfl ?_) | refine oj_then ?_ | refine cj_skip ?_ | refine cj_block ?_ | refine nj_then ?_))
  refine cj_loop (fun (_ : Nat) => σ) (fun k => [(0, .a (.v (.slice ao a.length ac))), (1, .a (.v (.slice bo b.length bc))), (12, .a (.v (.int .i64 a.length))), (13, .a (.v (.int .i64 k)))]) (fun _ => []) (fun _ => []) 0
    (fun k => k ≤ a.length ∧ a.take k = b.take k) (fun k => a.length - k) 0 ⟨Nat.zero_le _, rfl⟩ rfl (by (repeat (first | exact trivial | refine And.intro rfl ?_))) (by (repeat (first | exact trivial | refine And.intro rfl ?_))) rfl (by (repeat' (first | exact trivial | constructor))) (by (repeat' exact trivial)) fun k ⟨hk, hp⟩ => ?_
  (repeat (first | refine cj_seq ?_ | (refine cj_region ?_; refine oj_run TT rfl ?_) | refine oj_then ?_))
  refine cj_if rfl (fun h => ?_) (fun h => ?_)
  rotate_left
  · have hk0 : k = a.length := by have := of_decide_eq_false h; omega
    subst hk0
    rw [List.take_length, hlen, List.take_length] at hp
    (repeat (first | refine cj_seq ?_ | (refine cj_region ?_; refine oj_run TT rfl ?_) | refine oj_then ?_ | refine cj_exit ?_ | refine cj_ret ?_ | refine nj_then ?_ | refine nj_then_exit ?_ | refine nj_block_out ?_))
    refine nj_ret TT rfl fun β w' _ _ => ?_
    rw [decide_eq_true hp]
    rfl
  have hkl : k < a.length := by have := of_decide_eq_true h; omega
  have hkl' : k < b.length := by omega
  have hra := strRows_get (List.getElem?_eq_getElem hkl)
  have hrb := strRows_get (List.getElem?_eq_getElem hkl')
  have hne : a[k] ≠ b[k] → a ≠ b := fun hn e => hn (by subst e; rfl)
  have hiff := take_succ_eq hp hkl hkl'
  generalize a[k] = x at *
  generalize b[k] = y at *
  (repeat (first | refine cj_seq ?_ | (refine cj_region ?_; refine oj_run TT rfl ?_) | refine oj_then ?_ | refine cj_skip ?_ | refine cj_block ?_ | refine nj_then ?_))
  refine cj_draw [(0,.pure),(1,.pure),(2,.pure),(3,.quiet),(4,.pure),(5,.pure),(6,.pure),(7,.quiet),(8,.pure)] mixed (by kernel_rfl) (oj_run TT rfl ?_)
  refine oj_idx TT rfl rfl rfl rfl rfl rfl rfl rfl rfl HA (by omega) hra (oj_run TT rfl ?_)
  refine oj_idx TT rfl rfl rfl rfl rfl rfl rfl rfl rfl HB (by omega) hrb (oj_run TT rfl ?_)
  (repeat refine oj_then ?_)
  refine cj_if rfl (fun h => ?_) (fun h => ?_)
  · have h : ¬ x = y := by simpa using h
    (repeat (first | refine cj_seq ?_ | (refine cj_region ?_; refine oj_run TT rfl ?_) | refine oj_then ?_ | refine cj_ret ?_ | refine nj_then_ret ?_ | refine nj_block_ret ?_))
    refine nj_ret TT rfl fun β w' _ _ => ?_
    rw [decide_eq_false (hne h)]
    rfl
  · have h : x = y := by simpa using h
    (repeat (first | (refine cj_region ?_; refine oj_run TT rfl ?_) | refine oj_nil ?_ | refine cj_skip ?_ | refine nj_then ?_ | refine nj_block ?_ | (refine oj_add rfl rfl rfl rfl rfl rfl (by omega) ?_; refine oj_run TT rfl ?_)))
    refine nj_again (k + 1) ⟨hkl, hiff.2 h⟩ (by omega) rfl (by (repeat (first | exact trivial | refine And.intro rfl ?_))) (by (repeat (first | exact trivial | refine And.intro rfl ?_))) rfl (by (repeat' (first | exact trivial | constructor))) (by (repeat' exact trivial))

set_option maxRecDepth 100000 in
set_option maxHeartbeats 1000000 in
theorem SameSteps13_c (σ : Snap) (a b : List ByteArray) (hl : a.length ≤ 140737488355328) (ao bo : Option Addr) (ac bc : Nat) (HA : SlAt σ ao a.length ac 1 (strRows a)) (HB : SlAt σ bo b.length bc 1 (strRows b)) :
    PlainS Tryd.prog 54 [.a (.v (.slice ao a.length ac)), .a (.v (.slice bo b.length bc))] σ (fun x => x = .bool (decide (a = b))) := by
  refine enter_p Tryd.func54 rfl rfl (by (repeat' (first | exact trivial | constructor))) fun w => ?_
  (repeat (first | refine cj_seq ?_ | (refine cj_region ?_; refine oj_run TT rfl ?_) | refine oj_then ?_))
  refine cj_if rfl (fun h => ?_) (fun h => ?_)
  · have h : ¬ (a.length : Int) = b.length := by simpa using h
    (repeat (first | refine cj_seq ?_ | (refine cj_region ?_; refine oj_run TT rfl ?_) | refine oj_then ?_ | refine cj_ret ?_ | refine nj_then_ret ?_))
    refine nj_ret TT rfl fun β w' _ _ => ?_
    rw [decide_eq_false (fun e => h (by rw [e]))]
    rfl
  have hlen : a.length = b.length := by
    have h : (a.length : Int) = b.length := by simpa using h
    omega
  (repeat (first | refine cj_seq ?_ | (refine cj_region ?_; refine oj_run TT rfl ?_) | refine oj_then ?_ | refine cj_skip ?_ | refine cj_block ?_ | refine nj_then ?_))
  refine cj_loop (fun (_ : Nat) => σ) (fun k => [(0, .a (.v (.slice ao a.length ac))), (1, .a (.v (.slice bo b.length bc))), (5, .a (.v (.int .i64 k)))]) (fun _ => []) (fun _ => []) 0
    (fun k => k ≤ a.length ∧ a.take k = b.take k) (fun k => a.length - k) 0 ⟨Nat.zero_le _, rfl⟩ rfl (by (repeat (first | exact trivial | refine And.intro rfl ?_))) (by (repeat (first | exact trivial | refine And.intro rfl ?_))) rfl (by (repeat' (first | exact trivial | constructor))) (by (repeat' exact trivial)) fun k ⟨hk, hp⟩ => ?_
  (repeat (first | refine cj_seq ?_ | (refine cj_region ?_; refine oj_run TT rfl ?_) | refine oj_then ?_))
  refine cj_if rfl (fun h => ?_) (fun h => ?_)
  rotate_left
  · have hk0 : k = a.length := by have := of_decide_eq_false h; omega
    subst hk0
    rw [List.take_length, hlen, List.take_length] at hp
    (repeat (first | refine cj_seq ?_ | (refine cj_region ?_; refine oj_run TT rfl ?_) | refine oj_then ?_ | refine cj_exit ?_ | refine cj_ret ?_ | refine nj_then ?_ | refine nj_then_exit ?_ | refine nj_block_out ?_))
    refine nj_ret TT rfl fun β w' _ _ => ?_
    rw [decide_eq_true hp]
    rfl
  have hkl : k < a.length := by have := of_decide_eq_true h; omega
  have hkl' : k < b.length := by omega
  have hra := strRows_get (List.getElem?_eq_getElem hkl)
  have hrb := strRows_get (List.getElem?_eq_getElem hkl')
  have hne : a[k] ≠ b[k] → a ≠ b := fun hn e => hn (by subst e; rfl)
  have hiff := take_succ_eq hp hkl hkl'
  generalize a[k] = x at *
  generalize b[k] = y at *
  (repeat (first | refine cj_seq ?_ | refine cj_skip ?_ | refine cj_block ?_ | refine nj_then ?_))
  refine cj_draw [(0,.pure),(1,.pure),(2,.pure),(3,.quiet),(4,.pure),(5,.pure),(6,.pure),(7,.quiet),(8,.pure)] mixed (by kernel_rfl) (oj_run TT rfl ?_)
  refine oj_idx TT rfl rfl rfl rfl rfl rfl rfl rfl rfl HA (by omega) hra (oj_run TT rfl ?_)
  refine oj_idx TT rfl rfl rfl rfl rfl rfl rfl rfl rfl HB (by omega) hrb (oj_run TT rfl ?_)
  (repeat refine oj_then ?_)
  refine cj_if rfl (fun h => ?_) (fun h => ?_)
  · have h : ¬ x = y := by simpa using h
    (repeat (first | refine cj_seq ?_ | (refine cj_region ?_; refine oj_run TT rfl ?_) | refine oj_then ?_ | refine cj_ret ?_ | refine nj_then_ret ?_ | refine nj_block_ret ?_))
    refine nj_ret TT rfl fun β w' _ _ => ?_
    rw [decide_eq_false (hne h)]
    rfl
  · have h : x = y := by simpa using h
    (repeat (first | (refine cj_region ?_; refine oj_run TT rfl ?_) | refine oj_nil ?_ | refine cj_skip ?_ | refine nj_then ?_ | refine nj_block ?_ | (refine oj_add rfl rfl rfl rfl rfl rfl (by omega) ?_; refine oj_run TT rfl ?_)))
    refine nj_again (k + 1) ⟨hkl, hiff.2 h⟩ (by omega) rfl (by (repeat (first | exact trivial | refine And.intro rfl ?_))) (by (repeat (first | exact trivial | refine And.intro rfl ?_))) rfl (by (repeat' (first | exact trivial | constructor))) (by (repeat' exact trivial))

/-! ### Lines -/

structure GLine where
  id : Int
  ao : Option Addr
  cap : Nat
  st : List ByteArray
  cnt : Int

def lnCells (x : GLine) : List AT := [.v (.int .i64 x.id), .v (.slice x.ao x.st.length x.cap), .v (.int .i64 x.cnt)]
theorem lnCells_lt (n : Nat) (x : GLine) : ∀ c ∈ lnCells x, c.lt n := by simp [lnCells, AT.lt]
def lnRows (l : List GLine) : List (List AT) := l.map lnCells
theorem lnRows_get {l : List GLine} {i : Nat} {x : GLine} (h : l[i]? = some x) : (lnRows l)[i]? = some (lnCells x) := by unfold lnRows; rw [List.getElem?_map, h]; rfl
/-- A line's steps are there. -/
def LnOk (σ : Snap) (x : GLine) : Prop := x.st.length ≤ 140737488355328 ∧ SlAt σ x.ao x.st.length x.cap 1 (strRows x.st)
theorem LnOk.mono {σ σ' : Snap} {x : GLine} (h : LnOk σ x) (hle : σ.le σ') : LnOk σ' x := ⟨h.1, h.2.mono hle⟩

def findG {α : Type} (q : α → Bool) : List α → Nat → Int
  | [], _ => -1
  | x :: l, k => if q x then k else findG q l (k + 1)
theorem findG_bd {α : Type} (q : α → Bool) : ∀ (l : List α) (k : Nat), -1 ≤ findG q l k ∧ findG q l k < (k + l.length : Nat)
  | [], k => by simp only [findG, List.length_nil]; omega
  | x :: l, k => by
    have := findG_bd q l (k + 1)
    simp only [findG, List.length_cons]
    split <;> omega

set_option maxRecDepth 100000 in
set_option maxHeartbeats 1000000 in
theorem IndexFuncL_c (σ : Snap) (xs : List GLine) (hl : xs.length ≤ 140737488355328) (ao : Option Addr) (cap : Nat) (H : SlAt σ ao xs.length cap 3 (lnRows xs)) (f : FuncId) (caps : List PT) (hcap : LtAll (caps.map ptSV))
    (hcall : ∀ args w, (callFunc f args).run Tryd.prog w = .ok (.enter f args) w) (q : GLine → Bool) (hq : ∀ x ∈ xs, PlainS Tryd.prog f (.agg (lnCells x) :: caps.map ptSV) σ (fun v => v = .bool (q x))) (hlt : (SV.a (.fn (.func f) caps)).lt 0) :
    PlainS Tryd.prog 142 [.a (.v (.slice ao xs.length cap)), .a (.fn (.func f) caps)] σ (fun x => x = .int .i64 (findG q xs 0)) := by
  refine enter_p Tryd.func142 rfl rfl ⟨trivial, hlt, trivial⟩ fun w => ?_
  (repeat (first | refine cj_seq ?_ | (refine cj_region ?_; refine oj_run TT rfl ?_) | refine oj_then ?_ | refine cj_block ?_))
  refine cj_loop (fun (_ : Nat) => σ) (fun k => [(0, .a (.v (.slice ao xs.length cap))), (1, .a (.fn (.func f) caps)), (7, .a (.v (.int .i64 xs.length))), (8, .a (.v (.int .i64 k)))]) (fun _ => []) (fun _ => []) 0
    (fun k => k ≤ xs.length ∧ findG q (xs.drop k) k = findG q xs 0) (fun k => xs.length - k) 0 ⟨Nat.zero_le _, rfl⟩ rfl (by (repeat (first | exact trivial | refine And.intro rfl ?_))) (by (repeat (first | exact trivial | refine And.intro rfl ?_))) rfl ⟨trivial, hlt, trivial, trivial, trivial⟩ trivial fun k ⟨hk, hp⟩ => ?_
  (repeat (first | refine cj_seq ?_ | (refine cj_region ?_; refine oj_run TT rfl ?_) | refine oj_then ?_))
  refine cj_if rfl (fun h => ?_) (fun h => ?_)
  rotate_left
  · have hk0 : k = xs.length := by have := of_decide_eq_false h; omega
    subst hk0
    rw [List.drop_length] at hp
    (repeat (first | refine cj_seq ?_ | (refine cj_region ?_; refine oj_run TT rfl ?_) | refine oj_then ?_ | refine cj_exit ?_ | refine cj_ret ?_ | refine nj_then ?_ | refine nj_then_exit ?_ | refine nj_block_out ?_))
    refine nj_ret TT rfl fun β w' _ _ => ?_
    rw [← hp]
    rfl
  have hkl : k < xs.length := by have := of_decide_eq_true h; omega
  have hra := lnRows_get (List.getElem?_eq_getElem hkl)
  have hqx := hq xs[k] (List.getElem_mem hkl)
  rw [List.drop_eq_getElem_cons hkl, findG] at hp
  generalize xs[k] = x at *
  (repeat (first | refine cj_seq ?_ | (refine cj_region ?_; refine oj_run TT rfl ?_) | refine oj_then ?_ | refine cj_skip ?_ | refine cj_block ?_ | refine nj_then ?_))
  refine oj_idx TT rfl rfl rfl rfl rfl rfl rfl rfl rfl H (by omega) hra (oj_run TT rfl ?_)
  refine oj_callP (ys := .agg (lnCells x) :: caps.map ptSV) rfl rfl rfl rfl rfl hcall ⟨lnCells_lt 0 x, hcap⟩ hqx fun v hv => ⟨.a (.b (q x)), trivial, hv.symm, ?_⟩
  refine oj_run TT rfl ?_
  (repeat refine oj_then ?_)
  refine cj_if rfl (fun h => ?_) (fun h => ?_)
  · rw [h] at hp
    (repeat (first | refine cj_seq ?_ | (refine cj_region ?_; refine oj_run TT rfl ?_) | refine oj_then ?_ | refine cj_ret ?_ | refine nj_then_ret ?_ | refine nj_block_ret ?_))
    refine nj_ret TT rfl fun β w' _ _ => ?_
    rw [← hp]
    rfl
  · rw [h] at hp
    (repeat (first | (refine cj_region ?_; refine oj_run TT rfl ?_) | refine oj_nil ?_ | refine cj_skip ?_ | refine nj_then ?_ | refine nj_block ?_ | (refine oj_add rfl rfl rfl rfl rfl rfl (by omega) ?_; refine oj_run TT rfl ?_)))
    refine nj_again (k + 1) ⟨hkl, hp⟩ (by omega) rfl (by (repeat (first | exact trivial | refine And.intro rfl ?_))) (by (repeat (first | exact trivial | refine And.intro rfl ?_))) rfl ⟨trivial, hlt, trivial, trivial, trivial⟩ trivial

set_option maxRecDepth 100000 in
set_option maxHeartbeats 1000000 in
theorem where_c (σ : Snap) (xs : List GLine) (hl : xs.length ≤ 140737488355328) (ao : Option Addr) (cap : Nat) (next : Int) (H : SlAt σ ao xs.length cap 3 (lnRows xs)) (f : FuncId) (caps : List PT) (hcap : LtAll (caps.map ptSV))
    (hcall : ∀ args w, (callFunc f args).run Tryd.prog w = .ok (.enter f args) w) (q : GLine → Bool) (hq : ∀ x ∈ xs, PlainS Tryd.prog f (.agg (lnCells x) :: caps.map ptSV) σ (fun v => v = .bool (q x))) (hlt : (SV.a (.fn (.func f) caps)).lt 0) :
    PlainS Tryd.prog 125 [.agg [.v (.slice ao xs.length cap), .v (.int .i64 next)], .a (.fn (.func f) caps)] σ (fun x => x = .int .i64 (findG q xs 0)) := by
  refine enter_p Tryd.func125 rfl rfl ⟨(by (repeat' (first | exact trivial | refine AllLt.of ?_ | constructor))), hlt, trivial⟩ fun w => ?_
  (repeat (first | refine cj_seq ?_ | (refine cj_region ?_; refine oj_run TT rfl ?_) | refine oj_then ?_))
  refine oj_callP rfl rfl rfl rfl rfl Tryd.call142 ⟨trivial, hlt, trivial⟩ (IndexFuncL_c σ xs hl ao cap H f caps hcap hcall q hq hlt) fun v hv => ⟨.a (.v (.int .i64 (findG q xs 0))), trivial, hv.symm, ?_⟩
  refine oj_run TT rfl ?_
  (repeat (first | refine oj_then ?_ | refine cj_ret ?_))
  refine nj_ret TT rfl fun β w' _ _ => ?_
  rfl

def ptrTo (g : Nat) : PT := .val (.pointer (some ⟨g, 0, none⟩))
theorem fn_lt1 (f : Fn) (g n : Nat) : (SV.a (.fn f [ptrTo g])).lt n := by
  intro x hx
  rw [List.mem_singleton] at hx
  subst hx
  trivial

set_option maxRecDepth 100000 in
set_option maxHeartbeats 1000000 in
theorem line1_c (σ : Snap) (x : GLine) (hx : LnOk σ x) (s : List ByteArray) (so : Option Addr) (sc : Nat) (S : SlAt σ so s.length sc 1 (strRows s)) (g : Nat) (hg : σ.cell ⟨g, 0, none⟩ = some (.slice so s.length sc)) :
    PlainS Tryd.prog 126 (.agg (lnCells x) :: [ptrTo g].map ptSV) σ (fun v => v = .bool (decide (x.st = s))) := by
  refine enter_p Tryd.func126 rfl rfl ⟨lnCells_lt 0 x, trivial, trivial⟩ fun w => ?_
  (repeat (first | refine cj_seq ?_ | (refine cj_region ?_; refine oj_run TT rfl ?_) | refine oj_then ?_))
  refine oj_ldS (c := .v (.slice so s.length sc)) TT rfl rfl rfl rfl rfl rfl rfl rfl hg trivial (oj_run TT rfl ?_)
  refine oj_callP rfl rfl rfl rfl rfl Tryd.call99 (by (repeat' (first | exact trivial | constructor))) (Equal_c σ x.st s hx.1 x.ao so x.cap sc hx.2 S) fun v hv => ⟨.a (.b (decide (x.st = s))), trivial, hv.symm, ?_⟩
  refine oj_run TT rfl ?_
  (repeat (first | refine oj_then ?_ | refine cj_ret ?_))
  refine nj_ret TT rfl fun β w' _ _ => ?_
  rfl

/-- The place of the first line of these steps. -/
def lineG (xs : List GLine) (s : List ByteArray) : Int := findG (fun x => decide (x.st = s)) xs 0

set_option maxRecDepth 100000 in
set_option maxHeartbeats 1000000 in
theorem line_c (σ : Snap) (xs : List GLine) (hl : xs.length ≤ 140737488355328) (ao : Option Addr) (cap : Nat) (next : Int) (H : SlAt σ ao xs.length cap 3 (lnRows xs)) (hx : ∀ x ∈ xs, LnOk σ x)
    (s : List ByteArray) (so : Option Addr) (sc : Nat) (S : SlAt σ so s.length sc 1 (strRows s)) :
    PlainS Tryd.prog 92 [.agg [.v (.slice ao xs.length cap), .v (.int .i64 next)], .a (.v (.slice so s.length sc))] σ (fun v => v = .int .i64 (lineG xs s)) := by
  refine enter_p Tryd.func92 rfl rfl (by (repeat' (first | exact trivial | refine AllLt.of ?_ | constructor))) fun w => ?_
  (repeat (first | refine cj_seq ?_ | (refine cj_region ?_; refine oj_run TT rfl ?_) | refine oj_then ?_))
  refine oj_own 1 1 1 rfl (by (repeat' (first | exact trivial | refine AllLt.of ?_ | constructor))) rfl (by decide) fun g => ?_
  refine oj_seal 0 rfl rfl rfl fun σ1 hle1 hS => ?_
  have hg : σ1.cell ⟨g, 0, none⟩ = some (.slice so s.length sc) := by
    rcases hS with ⟨h, _⟩ | ⟨g', h1, h2⟩
    · cases h
    · obtain rfl : g = g' := by simpa using h1
      exact h2 0 _ rfl
  refine oj_callP rfl rfl rfl rfl rfl Tryd.call125 ⟨(by (repeat' (first | exact trivial | refine AllLt.of ?_ | constructor))), fn_lt1 (.func 126) g 0, trivial⟩ (where_c σ1 xs hl ao cap next (H.mono hle1) 126 [ptrTo g] ⟨trivial, trivial⟩ Tryd.call126 (fun x => decide (x.st = s)) (fun x hm => line1_c σ1 x ((hx x hm).mono hle1) s so sc (S.mono hle1) g hg) (fn_lt1 (.func 126) g 0)) fun v hv => ⟨.a (.v (.int .i64 (lineG xs s))), trivial, hv.symm, ?_⟩
  refine oj_run TT rfl ?_
  (repeat (first | refine oj_then ?_ | refine cj_ret ?_))
  refine nj_ret TT rfl fun β w' _ _ => ?_
  rfl
end Go.Sy
namespace Go.Sy
open Go.Proofs

/-! ### place, Get, step, At -/

set_option maxRecDepth 100000 in
set_option maxHeartbeats 1000000 in
theorem IndexFuncM_c (σ : Snap) (ks : List ByteArray) (rs : List (List AT)) (hkr : ks.length = rs.length) (hr8 : ∀ r ∈ rs, ∀ c ∈ r, c.lt 0) (hl : ks.length ≤ 140737488355328) (ao : Option Addr) (cap : Nat) (H : SlAt σ ao ks.length cap 9 (keyRows ks rs)) (f : FuncId) (caps : List PT) (hcap : LtAll (caps.map ptSV))
    (hcall : ∀ args w, (callFunc f args).run Tryd.prog w = .ok (.enter f args) w) (q : ByteArray → Bool) (hq : ∀ k r, r ∈ rs → PlainS Tryd.prog f (.agg (keyRow k r) :: caps.map ptSV) σ (fun v => v = .bool (q k))) (hlt : (SV.a (.fn (.func f) caps)).lt 0) :
    PlainS Tryd.prog 134 [.a (.v (.slice ao ks.length cap)), .a (.fn (.func f) caps)] σ (fun x => x = .int .i64 (findG q ks 0)) := by
  refine enter_p Tryd.func134 rfl rfl ⟨trivial, hlt, trivial⟩ fun w => ?_
  (repeat (first | refine cj_seq ?_ | (refine cj_region ?_; refine oj_run TT rfl ?_) | refine oj_then ?_ | refine cj_block ?_))
  refine cj_loop (fun (_ : Nat) => σ) (fun k => [(0, .a (.v (.slice ao ks.length cap))), (1, .a (.fn (.func f) caps)), (7, .a (.v (.int .i64 ks.length))), (8, .a (.v (.int .i64 k)))]) (fun _ => []) (fun _ => []) 0
    (fun k => k ≤ ks.length ∧ findG q (ks.drop k) k = findG q ks 0) (fun k => ks.length - k) 0 ⟨Nat.zero_le _, rfl⟩ rfl (by (repeat (first | exact trivial | refine And.intro rfl ?_))) (by (repeat (first | exact trivial | refine And.intro rfl ?_))) rfl ⟨trivial, hlt, trivial, trivial, trivial⟩ trivial fun k ⟨hk, hp⟩ => ?_
  (repeat (first | refine cj_seq ?_ | (refine cj_region ?_; refine oj_run TT rfl ?_) | refine oj_then ?_))
  refine cj_if rfl (fun h => ?_) (fun h => ?_)
  rotate_left
  · have hk0 : k = ks.length := by have := of_decide_eq_false h; omega
    subst hk0
    rw [List.drop_length] at hp
    (repeat (first | refine cj_seq ?_ | (refine cj_region ?_; refine oj_run TT rfl ?_) | refine oj_then ?_ | refine cj_exit ?_ | refine cj_ret ?_ | refine nj_then ?_ | refine nj_then_exit ?_ | refine nj_block_out ?_))
    refine nj_ret TT rfl fun β w' _ _ => ?_
    rw [← hp]
    rfl
  have hkl : k < ks.length := by have := of_decide_eq_true h; omega
  have hkl' : k < rs.length := by omega
  have hra := keyRows_get (List.getElem?_eq_getElem hkl) (List.getElem?_eq_getElem hkl')
  have hqx := hq ks[k] rs[k] (List.getElem_mem hkl')
  have hrlt := hr8 rs[k] (List.getElem_mem hkl')
  have hr9 := H.clo _ (List.mem_of_getElem? hra)
  rw [List.drop_eq_getElem_cons hkl, findG] at hp
  generalize ks[k] = x at *
  generalize rs[k] = r at *
  obtain ⟨hr91, hr92⟩ := hr9
  have hrl : r.length = 8 := by simpa [keyRow] using hr91
  match r, hrl with
  | [c0, c1, c2, c3, c4, c5, c6, c7], _ =>
  (repeat (first | refine cj_seq ?_ | (refine cj_region ?_; refine oj_run TT rfl ?_) | refine oj_then ?_ | refine cj_skip ?_ | refine cj_block ?_ | refine nj_then ?_))
  refine oj_idx TT rfl rfl rfl rfl rfl rfl rfl rfl rfl H (by omega) hra (oj_run TT rfl ?_)
  refine oj_callP (ys := .agg (keyRow x [c0, c1, c2, c3, c4, c5, c6, c7]) :: caps.map ptSV) rfl rfl rfl rfl rfl hcall ⟨hr92, hcap⟩ hqx fun v hv => ⟨.a (.b (q x)), trivial, hv.symm, ?_⟩
  refine oj_run TT rfl ?_
  (repeat refine oj_then ?_)
  refine cj_if rfl (fun h => ?_) (fun h => ?_)
  · rw [h] at hp
    (repeat (first | refine cj_seq ?_ | (refine cj_region ?_; refine oj_run TT rfl ?_) | refine oj_then ?_ | refine cj_ret ?_ | refine nj_then_ret ?_ | refine nj_block_ret ?_))
    refine nj_ret TT rfl fun β w' _ _ => ?_
    rw [← hp]
    rfl
  · rw [h] at hp
    (repeat (first | (refine cj_region ?_; refine oj_run TT rfl ?_) | refine oj_nil ?_ | refine cj_skip ?_ | refine nj_then ?_ | refine nj_block ?_ | (refine oj_add rfl rfl rfl rfl rfl rfl (by omega) ?_; refine oj_run TT rfl ?_)))
    refine nj_again (k + 1) ⟨hkl, hp⟩ (by omega) rfl (by (repeat (first | exact trivial | refine And.intro rfl ?_))) (by (repeat (first | exact trivial | refine And.intro rfl ?_))) rfl ⟨trivial, hlt, trivial, trivial, trivial⟩ trivial

set_option maxRecDepth 100000 in
set_option maxHeartbeats 1000000 in
theorem place1_c (σ : Snap) (k : ByteArray) (r : List AT) (hr : r.length = 8) (hlt : ∀ c ∈ r, c.lt 0) (hone : r.all AT.one = true) (key : ByteArray) (g : Nat) (hg : σ.cell ⟨g, 0, none⟩ = some (.string key)) :
    PlainS Tryd.prog 135 (.agg (keyRow k r) :: [ptrTo g].map ptSV) σ (fun v => v = .bool (decide (k = key))) := by
  match r, hr with
  | [c0, c1, c2, c3, c4, c5, c6, c7], _ =>
  refine enter_p Tryd.func135 rfl rfl ⟨fun c hc => (by cases hc with | head => trivial | tail _ h => exact hlt c h), trivial, trivial⟩ fun w => ?_
  (repeat (first | refine cj_seq ?_ | (refine cj_region ?_; refine oj_run TT rfl ?_) | refine oj_then ?_))
  refine oj_ldS (c := .v (.string key)) TT rfl rfl rfl rfl rfl rfl rfl rfl hg trivial (oj_run TT rfl ?_)
  (repeat (first | refine oj_then ?_ | refine cj_ret ?_))
  refine nj_ret TT rfl fun β w' _ _ => ?_
  rfl

def placeM (ks : List ByteArray) (key : ByteArray) : Int := findG (fun k => decide (k = key)) ks 0

set_option maxRecDepth 100000 in
set_option maxHeartbeats 1000000 in
theorem placeM_c (σ : Snap) (ks : List ByteArray) (gs : List GVal) (rs : List (List AT)) (hkg : ks.length = gs.length) (R : RepL σ gs rs) (hl : ks.length ≤ 140737488355328) (ao : Option Addr) (cap : Nat) (H : SlAt σ ao ks.length cap 9 (keyRows ks rs)) (key : ByteArray) :
    PlainS Tryd.prog 114 [.a (.v (.slice ao ks.length cap)), .a (.v (.string key))] σ (fun v => v = .int .i64 (placeM ks key)) := by
  refine enter_p Tryd.func114 rfl rfl (by (repeat' (first | exact trivial | constructor))) fun w => ?_
  (repeat (first | refine cj_seq ?_ | (refine cj_region ?_; refine oj_run TT rfl ?_) | refine oj_then ?_))
  refine oj_own 0 1 1 rfl (by (repeat' (first | exact trivial | refine AllLt.of ?_ | constructor))) rfl (by decide) fun g => ?_
  refine oj_seal 0 rfl rfl rfl fun σ1 hle1 hS => ?_
  have hg : σ1.cell ⟨g, 0, none⟩ = some (.string key) := by
    rcases hS with ⟨h, _⟩ | ⟨g', h1, h2⟩
    · cases h
    · obtain rfl : g = g' := by simpa using h1
      exact h2 0 _ rfl
  have hall : ∀ r ∈ rs, r.length = 8 ∧ (∀ c ∈ r, c.lt 0) ∧ r.all AT.one = true := fun r hr => R.rows r hr
  refine oj_callP rfl rfl rfl rfl rfl Tryd.call134 ⟨trivial, fn_lt1 (.func 135) g 0, trivial⟩ (IndexFuncM_c σ1 ks rs (by rw [hkg, R.len]) (fun r hr => (hall r hr).2.1) hl ao cap (H.mono hle1) 135 [ptrTo g] ⟨trivial, trivial⟩ Tryd.call135 (fun k => decide (k = key)) (fun k r hr => place1_c σ1 k r (hall r hr).1 (hall r hr).2.1 (hall r hr).2.2 key g hg) (fn_lt1 (.func 135) g 0)) fun v hv => ⟨.a (.v (.int .i64 (placeM ks key))), trivial, hv.symm, ?_⟩
  refine oj_run TT rfl ?_
  (repeat (first | refine oj_then ?_ | refine cj_ret ?_))
  refine nj_ret TT rfl fun β w' _ _ => ?_
  rfl

def nullV : GVal := .mk 0 false dec0 emptyS [] [] []
theorem nullV_rep (σ : Snap) : RepV σ nullV (vCells nullV none 0 none 0) := by
  simp only [nullV, RepV]
  exact ⟨none, 0, [], none, 0, [], rfl, SlAt.nil _ _ _ _, rfl, rfl, SlAt.nil _ _ _ _, rfl, by decide, by decide, by decide, by decide, fun k h => (by cases h)⟩
/-- A value that may be, and whether it is. -/
def OptV (σ : Snap) (o : Option GVal) (v : Value) : Prop := ∃ r, v = .tuple #[.agg (r.map (AT.den β0)).toArray, .bool o.isSome] ∧ RepV σ (o.getD nullV) r

def getG (g : GVal) (key : ByteArray) : Option GVal := if g.kind = 5 then (if placeM g.ks key < 0 then none else g.vs[(placeM g.ks key).toNat]?) else none

set_option maxRecDepth 100000 in
set_option maxHeartbeats 1000000 in
theorem Get_c (σ : Snap) (g : GVal) (la : Option Addr) (lc : Nat) (lrows : List (List AT)) (ma : Option Addr) (mc : Nat) (vrows : List (List AT)) (V : VAt σ g la lc lrows ma mc vrows) (key : ByteArray) :
    PlainS Tryd.prog 124 [.agg (vCells g la lc ma mc), .a (.v (.string key))] σ (OptV σ (getG g key)) := by
  have hkl := V.kl
  simp only [mostLen] at hkl
  have hbd : -1 ≤ placeM g.ks key ∧ placeM g.ks key < g.ks.length := by
    have := findG_bd (fun k => decide (k = key)) g.ks 0
    unfold placeM
    omega
  have hgd : getG g key = if g.kind = 5 then (if placeM g.ks key < 0 then none else g.vs[(placeM g.ks key).toNat]?) else none := rfl
  refine enter_p Tryd.func124 rfl rfl (by (repeat' (first | exact trivial | exact vCells_lt _ _ _ _ _ _ | constructor))) fun w => ?_
  (repeat (first | refine cj_seq ?_ | (refine cj_region ?_; refine oj_run TT rfl ?_) | refine oj_then ?_))
  refine oj_callP rfl rfl rfl rfl rfl Tryd.call114 (by (repeat' (first | exact trivial | constructor))) (placeM_c σ g.ks g.vs vrows V.kv V.v (by omega) ma mc V.M key) fun v hv => ⟨.a (.v (.int .i64 (placeM g.ks key))), trivial, hv.symm, ?_⟩
  refine oj_run TT rfl ?_
  (repeat (first | refine cj_seq ?_ | (refine cj_region ?_; refine oj_run TT rfl ?_) | refine oj_then ?_))
  refine oj_split 14 rfl (fun h => ?_) (fun h => ?_)
  · have h : ¬ g.kind = 5 := by simpa using (show (!decide (g.kind = 5)) = true from h)
    rw [if_neg h] at hgd
    refine oj_run TT rfl ?_
    (repeat (first | refine cj_seq ?_ | (refine cj_region ?_; refine oj_run TT rfl ?_) | refine oj_then ?_ | refine cj_if_t rfl ?_ | refine cj_ret ?_ | refine nj_then_ret ?_))
    refine nj_ret TT rfl fun β w' _ _ => ?_
    rw [hgd]
    exact ⟨vCells nullV none 0 none 0, rfl, nullV_rep σ⟩
  have h : g.kind = 5 := by simpa using (show (!decide (g.kind = 5)) = false from h)
  rw [if_pos h] at hgd
  refine oj_run TT rfl ?_
  (repeat refine oj_then ?_)
  refine cj_if rfl (fun h => ?_) (fun h => ?_)
  · rw [if_pos (of_decide_eq_true h)] at hgd
    (repeat (first | refine cj_seq ?_ | (refine cj_region ?_; refine oj_run TT rfl ?_) | refine oj_then ?_ | refine cj_ret ?_ | refine nj_then_ret ?_))
    refine nj_ret TT rfl fun β w' _ _ => ?_
    rw [hgd]
    exact ⟨vCells nullV none 0 none 0, rfl, nullV_rep σ⟩
  have h := of_decide_eq_false h
  rw [if_neg h] at hgd
  obtain ⟨j, hj⟩ : ∃ j : Nat, placeM g.ks key = j := ⟨(placeM g.ks key).toNat, by omega⟩
  rw [hj] at hgd ⊢
  rw [Int.toNat_natCast] at hgd
  have hjk : j < g.ks.length := by omega
  have hjv : j < g.vs.length := by rw [← V.kv]; exact hjk
  obtain ⟨r, hr, hrep⟩ := V.v.get (List.getElem?_eq_getElem hjv)
  have hrow := keyRows_get (List.getElem?_eq_getElem hjk) hr
  rw [List.getElem?_eq_getElem hjv] at hgd
  generalize g.vs[j] = x at *
  generalize g.ks[j] = kk at *
  obtain ⟨la', lc', lrows', ma', mc', vrows', rfl, V'⟩ := hrep.open
  (repeat (first | refine cj_seq ?_ | (refine cj_region ?_; refine oj_run TT rfl ?_) | refine cj_skip ?_ | refine nj_then ?_))
  refine oj_idx TT rfl rfl rfl rfl rfl rfl rfl rfl rfl V.M (by omega) hrow (oj_run TT rfl ?_)
  (repeat (first | refine oj_then ?_ | refine cj_ret ?_))
  refine nj_ret TT rfl fun β w' _ _ => ?_
  rw [hgd]
  exact ⟨vCells x la' lc' ma' mc', rfl, V'.rep⟩

def stepV (g : GVal) (s : GStep) : Option GVal := if s.named then getG g s.key else if g.kind = 4 then (if s.at_ < 0 then none else if s.at_ < g.l.length then g.l[s.at_.toNat]? else none) else none

set_option maxRecDepth 100000 in
set_option maxHeartbeats 1000000 in
theorem step_c (σ : Snap) (g : GVal) (la : Option Addr) (lc : Nat) (lrows : List (List AT)) (ma : Option Addr) (mc : Nat) (vrows : List (List AT)) (V : VAt σ g la lc lrows ma mc vrows) (s : GStep) :
    PlainS Tryd.prog 90 [.agg (vCells g la lc ma mc), .agg (stepCells s)] σ (OptV σ (stepV g s)) := by
  have hgd : stepV g s = if s.named then getG g s.key else if g.kind = 4 then (if s.at_ < 0 then none else if s.at_ < g.l.length then g.l[s.at_.toNat]? else none) else none := rfl
  refine enter_p Tryd.func90 rfl rfl ⟨vCells_lt _ _ _ _ _ _, (by unfold stepCells; (repeat' (first | exact trivial | refine AllLt.of ?_ | constructor))), trivial⟩ fun w => ?_
  (repeat (first | refine cj_seq ?_ | (refine cj_region ?_; refine oj_run TT rfl ?_) | refine oj_then ?_ | refine cj_block ?_))
  refine cj_if rfl (fun h => ?_) (fun h => ?_)
  · rw [if_pos h] at hgd
    (repeat (first | refine cj_seq ?_ | (refine cj_region ?_; refine oj_run TT rfl ?_)))
    refine oj_callP rfl rfl rfl rfl rfl Tryd.call124 (by (repeat' (first | exact trivial | exact vCells_lt _ _ _ _ _ _ | constructor))) (Get_c σ g la lc lrows ma mc vrows V s.key) fun v ⟨r, hv, hr⟩ => ?_
    obtain ⟨la', lc', lrows', ma', mc', vrows', rfl, V'⟩ := hr.open
    refine ⟨.tup [.agg (vCells ((getG g s.key).getD nullV) la' lc' ma' mc'), .a (.b (getG g s.key).isSome)], (by (repeat' (first | exact trivial | exact vCells_lt _ _ _ _ _ _ | refine SV.lt_tup ?_ | constructor))), hv.symm, ?_⟩
    refine oj_run TT rfl ?_
    (repeat (first | refine oj_then ?_ | refine cj_ret ?_ | refine nj_then_ret ?_ | refine nj_block_ret ?_))
    refine nj_ret TT rfl fun β w' _ _ => ?_
    rw [hgd]
    exact ⟨vCells ((getG g s.key).getD nullV) la' lc' ma' mc', rfl, V'.rep⟩
  rw [h, if_neg (by simp)] at hgd
  (repeat (first | refine cj_seq ?_ | (refine cj_region ?_; refine oj_run TT rfl ?_)))
  refine oj_split 19 rfl (fun h1 => ?_) (fun h1 => ?_)
  · have h1 : ¬ g.kind = 4 := by simpa using (show (!decide (g.kind = 4)) = true from h1)
    rw [if_neg h1] at hgd
    refine oj_run TT rfl ?_
    (repeat (first | refine cj_seq ?_ | (refine cj_region ?_; refine oj_run TT rfl ?_) | refine oj_then ?_ | refine cj_if_t rfl ?_ | refine cj_ret ?_ | refine nj_then_ret ?_ | refine nj_block_ret ?_))
    refine nj_ret TT rfl fun β w' _ _ => ?_
    rw [hgd]
    exact ⟨vCells nullV none 0 none 0, rfl, nullV_rep σ⟩
  have h1 : g.kind = 4 := by simpa using (show (!decide (g.kind = 4)) = false from h1)
  rw [if_pos h1] at hgd
  refine oj_run TT rfl ?_
  refine oj_split 24 rfl (fun h2 => ?_) (fun h2 => ?_)
  · have h2 : decide (s.at_ < 0) = true := h2
    rw [if_pos (of_decide_eq_true h2)] at hgd
    refine oj_run TT rfl ?_
    (repeat (first | refine cj_seq ?_ | (refine cj_region ?_; refine oj_run TT rfl ?_) | refine oj_then ?_ | refine cj_if_t rfl ?_ | refine cj_ret ?_ | refine nj_then_ret ?_ | refine nj_block_ret ?_))
    refine nj_ret TT rfl fun β w' _ _ => ?_
    rw [hgd]
    exact ⟨vCells nullV none 0 none 0, rfl, nullV_rep σ⟩
  have h2 : decide (s.at_ < 0) = false := h2
  have h2 := of_decide_eq_false h2
  rw [if_neg h2] at hgd
  refine oj_run TT rfl ?_
  (repeat refine oj_then ?_)
  refine cj_if rfl (fun h3 => ?_) (fun h3 => ?_)
  · have h3 := of_decide_eq_true h3
    rw [if_neg (by omega)] at hgd
    (repeat (first | refine cj_seq ?_ | (refine cj_region ?_; refine oj_run TT rfl ?_) | refine oj_then ?_ | refine cj_ret ?_ | refine nj_then_ret ?_ | refine nj_block_ret ?_))
    refine nj_ret TT rfl fun β w' _ _ => ?_
    rw [hgd]
    exact ⟨vCells nullV none 0 none 0, rfl, nullV_rep σ⟩
  have h3 := of_decide_eq_false h3
  rw [if_pos (by omega)] at hgd
  obtain ⟨j, hj⟩ : ∃ j : Nat, s.at_ = j := ⟨s.at_.toNat, by omega⟩
  rw [hj] at hgd ⊢
  rw [Int.toNat_natCast] at hgd
  have hjl : j < g.l.length := by omega
  obtain ⟨r, hr, hrep⟩ := V.l.get (List.getElem?_eq_getElem hjl)
  rw [List.getElem?_eq_getElem hjl] at hgd
  generalize g.l[j] = x at *
  obtain ⟨la', lc', lrows', ma', mc', vrows', rfl, V'⟩ := hrep.open
  (repeat (first | refine cj_seq ?_ | (refine cj_region ?_; refine oj_run TT rfl ?_) | refine cj_skip ?_ | refine nj_then ?_ | refine nj_block ?_))
  refine oj_idx TT rfl rfl rfl rfl rfl rfl rfl rfl rfl V.L (by omega) hr (oj_run TT rfl ?_)
  (repeat (first | refine oj_then ?_ | refine cj_ret ?_))
  refine nj_ret TT rfl fun β w' _ _ => ?_
  rw [hgd]
  exact ⟨vCells x la' lc' ma' mc', rfl, V'.rep⟩

def atV : GVal → List GStep → Option GVal
  | g, [] => some g
  | g, s :: l => (stepV g s).bind fun x => atV x l

def zV : List AT := [.v (.int .i64 0), .ff, .ff, .v (.string ⟨#[]⟩), .v (.int .i64 0), .v (.string ⟨#[]⟩), .v (.slice none 0 0), .v (.slice none 0 0)]
structure AtS where
  k : Nat
  ok : Bool
  g : GVal
  la : Option Addr
  lc : Nat
  ma : Option Addr
  mc : Nat

set_option maxRecDepth 100000 in
set_option maxHeartbeats 1000000 in
theorem At_c (σ : Snap) (g : GVal) (la : Option Addr) (lc : Nat) (lrows : List (List AT)) (ma : Option Addr) (mc : Nat) (vrows : List (List AT)) (V : VAt σ g la lc lrows ma mc vrows) (l : List GStep) (hl : l.length ≤ 1000000) (so : Option Addr) (sc : Nat) (S : SlAt σ so l.length sc 3 (stepRows l)) :
    PlainS Tryd.prog 45 [.agg (vCells g la lc ma mc), .a (.v (.slice so l.length sc))] σ (OptV σ (atV g l)) := by
  refine enter_p Tryd.func45 rfl rfl (by (repeat' (first | exact trivial | exact vCells_lt _ _ _ _ _ _ | constructor))) fun w => ?_
  (repeat (first | refine cj_seq ?_ | (refine cj_region ?_; refine oj_run TT rfl ?_) | refine oj_then ?_ | refine cj_block ?_))
  refine cj_set 6 (.a (.b true)) rfl trivial (fun β => rfl) ?_
  refine cj_loop (fun (_ : AtS) => σ) (fun t => [(1, .a (.v (.slice so l.length sc))), (2, .a (.p 0 0)), (4, .a (.p 1 0)), (6, .a (.b t.ok)), (7, .a (.v (.int .i64 (t.k : Nat))))]) (fun t => [(0, .loc 27, vCells t.g t.la t.lc t.ma t.mc), (1, .loc 27, zV)]) (fun _ => []) 2
    (fun t => t.k ≤ l.length ∧ (∃ lr vr, VAt σ t.g t.la t.lc lr t.ma t.mc vr) ∧ (if t.ok then atV t.g (l.drop t.k) = atV g l else t.g = nullV ∧ atV g l = none)) (fun t => l.length - t.k) ⟨0, true, g, la, lc, ma, mc⟩ ⟨Nat.zero_le _, ⟨_, _, V⟩, rfl⟩ rfl (by (repeat (first | exact trivial | refine And.intro rfl ?_))) (by (repeat (first | exact trivial | refine And.intro rfl ?_))) rfl (by (repeat' (first | exact trivial | exact Nat.le_of_ble_eq_true rfl | constructor))) (by (repeat' (first | exact trivial | exact Nat.le_of_ble_eq_true rfl | exact vCells_lt _ _ _ _ _ _ | refine AllLt.of ?_ | constructor))) fun ⟨k, ok, g', la', lc', ma', mc'⟩ ⟨hk, ⟨lr, vr, V'⟩, hp⟩ => ?_
  dsimp only at hk V' hp ⊢
  have hend : (k = l.length ∨ ok = false) → OptV σ (atV g l) (.tuple #[.agg ((vCells g' la' lc' ma' mc').map (AT.den β0)).toArray, .bool ok]) := by
    intro h
    cases ok with
    | true =>
      have hk0 : k = l.length := by simpa using h
      rw [if_pos rfl, hk0, List.drop_length, atV] at hp
      rw [← hp]
      exact ⟨_, rfl, V'.rep⟩
    | false =>
      rw [if_neg (by simp)] at hp
      rw [hp.2]
      refine ⟨_, rfl, ?_⟩
      have := V'.rep
      rw [hp.1] at this ⊢
      exact this
  (repeat (first | refine cj_seq ?_ | (refine cj_region ?_; refine oj_run TT rfl ?_)))
  refine oj_split 12 rfl (fun h => ?_) (fun h => ?_)
  rotate_left
  · have hk0 : k = l.length := by have := of_decide_eq_false (show decide ((k : Int) < l.length) = false from h); omega
    refine oj_run TT rfl ?_
    (repeat (first | refine cj_seq ?_ | (refine cj_region ?_; refine oj_run TT rfl ?_) | refine oj_then ?_ | refine cj_if_f rfl ?_ | refine cj_exit ?_ | refine cj_ret ?_ | refine nj_then ?_ | refine nj_then_exit ?_ | refine nj_block_out ?_))
    refine nj_ret TT rfl fun β w' _ _ => ?_
    exact hend (.inl hk0)
  have hkl : k < l.length := by have := of_decide_eq_true (show decide ((k : Int) < l.length) = true from h); omega
  refine oj_run TT rfl ?_
  (repeat refine oj_then ?_)
  refine cj_if rfl (fun h => ?_) (fun h => ?_)
  rotate_left
  · (repeat (first | refine cj_seq ?_ | (refine cj_region ?_; refine oj_run TT rfl ?_) | refine oj_then ?_ | refine cj_exit ?_ | refine cj_ret ?_ | refine nj_then ?_ | refine nj_then_exit ?_ | refine nj_block_out ?_))
    refine nj_ret TT rfl fun β w' _ _ => ?_
    exact hend (.inr h)
  have hrow := stepRows_get (List.getElem?_eq_getElem hkl)
  rw [if_pos h, List.drop_eq_getElem_cons hkl, atV] at hp
  generalize l[k] = s at *
  clear hend
  (repeat (first | refine cj_seq ?_ | refine cj_skip ?_ | refine cj_block ?_ | refine nj_then ?_))
  refine cj_draw [(0,.quiet),(1,.pure),(2,.pure),(3,.pure),(4,.quiet),(5,.keep),(6,.pure),(7,.pure),(8,.pure),(9,.sink),(10,.pure)] mixed (by kernel_rfl) (oj_run TT rfl ?_)
  refine oj_idx TT rfl rfl rfl rfl rfl rfl rfl rfl rfl S (by omega) hrow (oj_run TT rfl ?_)
  refine oj_callP rfl rfl rfl rfl rfl Tryd.call90 (by (repeat' (first | exact trivial | exact vCells_lt _ _ _ _ _ _ | refine AllLt.of ?_ | constructor))) (step_c σ g' la' lc' lr ma' mc' vr V' s) fun v ⟨r, hv, hr⟩ => ?_
  obtain ⟨la2, lc2, lr2, ma2, mc2, vr2, rfl, V2⟩ := hr.open
  refine ⟨.tup [.agg (vCells ((stepV g' s).getD nullV) la2 lc2 ma2 mc2), .a (.b (stepV g' s).isSome)], (by (repeat' (first | exact trivial | exact vCells_lt _ _ _ _ _ _ | refine SV.lt_tup ?_ | constructor))), hv.symm, ?_⟩
  refine oj_run TT rfl ?_
  (repeat (first | (refine cj_region ?_; refine oj_run TT rfl ?_) | refine oj_nil ?_ | refine nj_then ?_ | refine nj_block ?_ | (refine oj_add rfl rfl rfl rfl rfl rfl (by omega) ?_; refine oj_run TT rfl ?_)))
  refine nj_again (⟨k + 1, (stepV g' s).isSome, (stepV g' s).getD nullV, la2, lc2, ma2, mc2⟩ : AtS) ⟨hkl, ⟨_, _, V2⟩, ?_⟩ (by dsimp only; omega) rfl (by (repeat (first | exact trivial | refine And.intro rfl ?_))) (by (repeat (first | exact trivial | refine And.intro rfl ?_))) rfl (by (repeat' (first | exact trivial | exact Nat.le_of_ble_eq_true rfl | constructor))) (by (repeat' (first | exact trivial | exact Nat.le_of_ble_eq_true rfl | exact vCells_lt _ _ _ _ _ _ | refine AllLt.of ?_ | constructor)))
  dsimp only
  cases hst : stepV g' s with
  | none =>
    rw [hst, Option.bind_none] at hp
    exact ⟨rfl, hp.symm⟩
  | some x =>
    rw [hst, Option.bind_some] at hp
    exact hp
end Go.Sy
/- Scopes that nobody jumps in. No program in sight. -/
namespace Go.Sy
section
variable {cf : Cf} {Q : Exit → Act → World → Prop} {σ : Snap} {env : Env} {hp : HP} {A : List AE} {nh : Nat}
theorem cj_scope {c : Code} (hrd : cf.rd = none) (h : CJ cf c (Exit.noGoto Q) σ env hp A nh) : CJ cf (.scope c) Q σ env hp A nh := by
  refine ⟨fun hb a β w ha hw => ?_⟩
  have := h.run hb a β w ha hw
  rw [hrd] at this ⊢
  exact (wpIn_wide (n := 0)).2 (wp_scope_straight (wpR_none this))
theorem nj_ng_n (h : NJ cf .normal Q σ env hp A nh) : NJ cf .normal (Exit.noGoto Q) σ env hp A nh := ⟨h.run⟩
theorem nj_ng_ret (h : NJ cf .ret Q σ env hp A nh) : NJ cf .ret (Exit.noGoto Q) σ env hp A nh := ⟨h.run⟩
theorem nj_ng_exit {id : Nat} (h : NJ cf (.exit id) Q σ env hp A nh) : NJ cf (.exit id) (Exit.noGoto Q) σ env hp A nh := ⟨h.run⟩
end
end Go.Sy
namespace Go.Sy
open Go.Proofs

/-! ### Last -/

def lastG (L : List GRec) (i : Nat) : Int := (runK L ((L[i]?.map GRec.en).getD 0) (i + 1) : Nat) - 1

set_option maxRecDepth 100000 in
set_option maxHeartbeats 1000000 in
theorem Last_c (σ : Snap) (L : List GRec) (R : RecsOk L) (ao : Option Addr) (cap : Nat) (H : SlAt σ ao L.length cap 11 (recRows L)) (i : Nat) (hi : i < L.length) (hs : soundG L = true) :
    PlainS Tryd.prog 40 [.a (.v (.slice ao L.length cap)), .a (.v (.int .i64 i))] σ (fun v => v = .int .i64 (lastG L i)) := by
  have hat : atG L i = true := by
    unfold atG
    rw [hs]
    simp
    omega
  have hlg : lastG L i = (runK L L[i].en (i + 1) : Nat) - 1 := by unfold lastG; rw [List.getElem?_eq_getElem hi]; rfl
  rw [hlg]
  refine enter_p Tryd.func40 rfl rfl (by (repeat' (first | exact trivial | constructor))) fun w => ?_
  (repeat (first | refine cj_seq ?_ | (refine cj_region ?_; refine oj_run TT rfl ?_) | refine oj_then ?_))
  refine oj_callP rfl rfl rfl rfl rfl Tryd.call76 (by (repeat' (first | exact trivial | constructor))) (at_c σ L R ao cap H i) fun v hv => ⟨.a .tt, trivial, by rw [hv, hat]; rfl, ?_⟩
  refine oj_run TT rfl ?_
  (repeat (first | refine cj_seq ?_ | (refine cj_region ?_; refine oj_run TT rfl ?_) | refine oj_then ?_ | refine cj_if_f rfl ?_ | refine cj_skip ?_ | refine nj_then ?_))
  refine oj_callP rfl rfl rfl rfl rfl Tryd.call88 (by (repeat' (first | exact trivial | constructor))) (last_c σ L R.len ao cap H i hi) fun v hv => ⟨.a (.v (.int .i64 ((runK L L[i].en (i + 1) : Nat) - 1))), trivial, hv.symm, ?_⟩
  refine oj_run TT rfl ?_
  (repeat (first | refine oj_then ?_ | refine cj_ret ?_))
  refine nj_ret TT rfl fun β w' _ _ => ?_
  rfl

/-! ### Find -/

/-- Is the n-th kid, record r, what a step asks for? -/
def fitsR (s : GStep) (n : Nat) (r : GRec) : Bool := (s.named && r.nm && decide (r.name = s.key)) || (!s.named && !r.nm && decide ((n : Int) = s.at_))
/-- The first of the kids from n on that is asked for. -/
def firstR (L : List GRec) (s : GStep) : List Nat → Nat → Option Nat
  | [], _ => none
  | k :: ks, n => match L[k]? with
    | some r => if fitsR s n r then some k else firstR L s ks (n + 1)
    | none => none
def findR (L : List GRec) : Nat → List GStep → Int
  | i, [] => i
  | i, s :: l => match firstR L s (kidsG L i) 0 with
    | some k => findR L k l
    | none => -1
theorem firstR_mem {L : List GRec} {s : GStep} : ∀ {ks : List Nat} {n k : Nat}, firstR L s ks n = some k → k < L.length
  | x :: ks, n, k, h => by
    unfold firstR at h
    cases hx : L[x]? with
    | none => rw [hx] at h; cases h
    | some r =>
      rw [hx] at h
      dsimp only at h
      split at h
      · obtain rfl := Option.some.inj h
        exact (List.getElem?_eq_some_iff.1 hx).1
      · exact firstR_mem h

theorem kidsF_lt (L : List GRec) (en : Int) : ∀ n k, ∀ m ∈ kidsF L en n k, m < L.length
  | 0, _, m, h => by simp [kidsF] at h
  | n + 1, k, m, h => by
    unfold kidsF at h
    split at h
    · rename_i hk
      split at h
      · cases h with
        | head => exact hk
        | tail _ h => exact kidsF_lt L en n _ m h
      · cases h
    · cases h

set_option maxRecDepth 100000 in
set_option maxHeartbeats 1000000 in
theorem Find_c (σ : Snap) (L : List GRec) (R : RecsOk L) (ao : Option Addr) (cap : Nat) (H : SlAt σ ao L.length cap 11 (recRows L)) (hs : soundG L = true) (hL : L.length ≤ 100000) (hpos : 0 < L.length) (l : List GStep) (hl : l.length ≤ 1000000) (so : Option Addr) (sc : Nat) (S : SlAt σ so l.length sc 3 (stepRows l)) :
    PlainS Tryd.prog 43 [.a (.v (.slice ao L.length cap)), .a (.v (.slice so l.length sc))] σ (fun v => v = .int .i64 (findR L 0 l)) := by
  refine enter_p Tryd.func43 rfl rfl (by (repeat' (first | exact trivial | constructor))) fun w => ?_
  (repeat (first | refine cj_seq ?_ | (refine cj_region ?_; refine oj_run TT rfl ?_) | refine oj_then ?_ | refine cj_scope rfl ?_))
  refine oj_callP rfl rfl rfl rfl rfl Tryd.call24 (by (repeat' (first | exact trivial | constructor))) (Sound_c σ L R.len R.fit R.bw ao cap H) fun v hv => ⟨.a .tt, trivial, by rw [hv, hs]; rfl, ?_⟩
  refine oj_run TT rfl ?_
  (repeat (first | refine cj_seq ?_ | (refine cj_region ?_; refine oj_run TT rfl ?_) | refine oj_then ?_ | refine cj_if_f rfl ?_ | refine cj_skip ?_ | refine cj_block ?_ | refine nj_then ?_ | refine cj_label ?_))
  refine cj_loop2 (fun (s : Snap) (_ : Nat × Nat) => s) (fun _ t => [(0, .a (.v (.slice ao L.length cap))), (1, .a (.v (.slice so l.length sc))), (5, .a (.v (.int .i64 (t.2 : Nat)))), (13, .a (.v (.slice so l.length sc))), (14, .a (.v (.int .i64 l.length))), (15, .a (.v (.int .i64 (t.1 : Nat))))]) (fun _ _ => []) (fun _ _ => []) 0
    (fun s t => σ.le s ∧ t.1 ≤ l.length ∧ t.2 < L.length ∧ findR L t.2 (l.drop t.1) = findR L 0 l) (fun _ t => l.length - t.1) σ (0, 0) ⟨Snap.le_refl _, Nat.zero_le _, hpos, rfl⟩ rfl (by (repeat (first | exact trivial | refine And.intro rfl ?_))) (by (repeat (first | exact trivial | refine And.intro rfl ?_))) rfl (by (repeat' (first | exact trivial | constructor))) (by (repeat' exact trivial)) fun s ⟨k, i⟩ ⟨hle, hk, hi, hp⟩ => ?_
  dsimp only at hk hi hp ⊢
  (repeat (first | refine cj_seq ?_ | (refine cj_region ?_; refine oj_run TT rfl ?_) | refine oj_then ?_))
  refine cj_if rfl (fun h => ?_) (fun h => ?_)
  rotate_left
  · have hk0 : k = l.length := by have := of_decide_eq_false h; omega
    rw [hk0, List.drop_length, findR] at hp
    (repeat (first | refine cj_seq ?_ | (refine cj_region ?_; refine oj_run TT rfl ?_) | refine oj_then ?_ | refine cj_exit ?_ | refine cj_ret ?_ | refine nj_then ?_ | refine nj_then_exit ?_ | refine nj_block_out ?_ | refine nj_ng_ret ?_))
    refine nj_ret TT rfl fun β w' _ _ => ?_
    rw [← hp]
    rfl
  have hkl : k < l.length := by have := of_decide_eq_true h; omega
  have H := H.mono hle
  have S := S.mono hle
  have hrow := stepRows_get (List.getElem?_eq_getElem hkl)
  rw [List.drop_eq_getElem_cons hkl, findR] at hp
  generalize l[k] = st at *
  (repeat (first | refine cj_seq ?_ | (refine cj_region ?_; refine oj_run TT rfl ?_) | refine cj_skip ?_ | refine cj_block ?_ | refine nj_then ?_))
  refine oj_idx TT rfl rfl rfl rfl rfl rfl rfl rfl rfl S (by omega) hrow (oj_run TT rfl ?_)
  (repeat (first | refine cj_seq ?_ | (refine cj_region ?_; refine oj_run TT rfl ?_) | refine oj_then ?_))
  refine oj_callS rfl rfl rfl rfl rfl Tryd.call77 ⟨trivial, trivial, trivial⟩ (kids_c s L hL ao cap H i hi) fun v σ1 hle1 ⟨oo, oc, hv, HK⟩ => ⟨.a (.v (.slice oo (kidsG L i).length oc)), trivial, hv.symm, ?_⟩
  have H := H.mono hle1
  have hklt : ∀ m ∈ kidsG L i, m < L.length := fun m hm => kidsF_lt L _ _ _ m hm
  have hklen : (kidsG L i).length ≤ L.length := by
    unfold kidsG
    exact Nat.le_trans (kidsF_len L _ L.length (i + 1)) (Nat.sub_le _ _)
  generalize kidsG L i = ks at *
  refine oj_run TT rfl ?_
  (repeat (first | refine oj_then ?_ | refine cj_block ?_))
  refine cj_loop (fun (_ : Nat) => σ1) (fun n => [(0, .a (.v (.slice ao L.length cap))), (1, .a (.v (.slice so l.length sc))), (7, .a (.p 1 0)), (13, .a (.v (.slice so l.length sc))), (14, .a (.v (.int .i64 l.length))), (15, .a (.v (.int .i64 (k : Nat)))), (21, .a (.v (.slice oo ks.length oc))), (22, .a (.v (.int .i64 ks.length))), (23, .a (.v (.int .i64 (n : Nat))))])
    (fun _ => [(1, .loc 129, stepCells st)]) (fun _ => []) 2 (fun n => n ≤ ks.length ∧ firstR L st (ks.drop n) n = firstR L st ks 0) (fun n => ks.length - n) 0 ⟨Nat.zero_le _, rfl⟩ rfl (by (repeat (first | exact trivial | refine And.intro rfl ?_))) (by (repeat (first | exact trivial | refine And.intro rfl ?_))) rfl (by (repeat' (first | exact trivial | exact Nat.le_of_ble_eq_true rfl | constructor))) (by (repeat' (first | exact trivial | exact Nat.le_of_ble_eq_true rfl | refine AllLt.of ?_ | constructor))) fun n ⟨hn, hf⟩ => ?_
  (repeat (first | refine cj_seq ?_ | (refine cj_region ?_; refine oj_run TT rfl ?_) | refine oj_then ?_))
  refine cj_if rfl (fun h => ?_) (fun h => ?_)
  rotate_left
  · have hn0 : n = ks.length := by have := of_decide_eq_false h; omega
    rw [hn0, List.drop_length, firstR] at hf
    rw [← hf] at hp
    (repeat (first | refine cj_seq ?_ | (refine cj_region ?_; refine oj_run TT rfl ?_) | refine oj_then ?_ | refine cj_exit ?_ | refine cj_ret ?_ | refine nj_then ?_ | refine nj_then_exit ?_ | refine nj_then_ret ?_ | refine nj_block_ret ?_ | refine nj_block_out ?_ | refine nj_ng_ret ?_))
    refine nj_ret TT rfl fun β w' _ _ => ?_
    rw [← hp]
    rfl
  have hnl : n < ks.length := by have := of_decide_eq_true h; omega
  have hkr : (kidRows ks)[n]? = some [.v (.int .i64 (ks[n] : Nat))] := by unfold kidRows; rw [List.getElem?_map, List.getElem?_eq_getElem hnl]; rfl
  have hml := hklt ks[n] (List.getElem_mem hnl)
  obtain ⟨r, hr⟩ : ∃ r, L[ks[n]]? = some r := ⟨_, List.getElem?_eq_getElem hml⟩
  have hrec := recRows_get hr
  rw [List.drop_eq_getElem_cons hnl, firstR, hr] at hf
  dsimp only at hf
  generalize ks[n] = m at *
  (repeat (first | refine cj_seq ?_ | (refine cj_region ?_; refine oj_run TT rfl ?_) | refine cj_skip ?_ | refine cj_block ?_ | refine nj_then ?_))
  refine oj_idx TT rfl rfl rfl rfl rfl rfl rfl rfl rfl HK (by omega) hkr (oj_run TT rfl ?_)
  (repeat (first | refine cj_seq ?_ | refine oj_then ?_))
  refine cj_cutN (fun (_ : Unit) => σ1) (fun _ => [(0, .a (.v (.slice ao L.length cap))), (1, .a (.v (.slice so l.length sc))), (7, .a (.p 1 0)), (9, .a (.v (.int .i64 (m : Nat)))), (13, .a (.v (.slice so l.length sc))), (14, .a (.v (.int .i64 l.length))), (15, .a (.v (.int .i64 (k : Nat)))), (21, .a (.v (.slice oo ks.length oc))), (22, .a (.v (.int .i64 ks.length))), (23, .a (.v (.int .i64 (n : Nat)))), (65, .a (.b (fitsR st n r)))])
    (fun _ => [(1, .loc 129, stepCells st)]) (fun _ => []) 2 (fun _ => True) ?_ (fun _ _ => ?_)
  · refine cj_draw [(0,.pure),(1,.quiet),(2,.pure),(3,.pure),(4,.pure),(5,.pure),(6,.pure),(7,.quiet),(8,.pure),(9,.pure),(10,.pure),(11,.pure),(12,.pure),(13,.pure),(14,.quiet),(15,.pure),(16,.quiet),(17,.pure),(18,.pure),(19,.pure),(20,.pure),(21,.quiet),(22,.pure),(23,.pure),(24,.pure),(25,.pure),(26,.pure),(27,.pure),(28,.quiet),(29,.pure),(30,.pure),(31,.pure),(32,.pure),(33,.pure),(34,.quiet),(35,.pure),(36,.pure),(37,.pure)] mixed (by kernel_rfl) (oj_run TT rfl ?_)
    refine oj_split 30 rfl (fun h1 => ?_) (fun h1 => ?_)
    · have h1 : st.named = true := h1
      refine oj_run TT rfl ?_
      refine oj_idx TT rfl rfl rfl rfl rfl rfl rfl rfl rfl H (by omega) hrec (oj_run TT rfl ?_)
      refine oj_split 37 rfl (fun h2 => ?_) (fun h2 => ?_)
      · have h2 : r.nm = true := h2
        refine oj_run TT rfl ?_
        refine oj_idx TT rfl rfl rfl rfl rfl rfl rfl rfl rfl H (by omega) hrec (oj_run TT rfl ?_)
        refine oj_split 47 rfl (fun h3 => ?_) (fun h3 => ?_)
        · have h3 : decide (r.name = st.key) = true := h3
          refine oj_run TT rfl ?_
          (repeat refine oj_nil ?_)
          refine nj_set 65 (.a (.b (fitsR st n r))) rfl trivial (fun β => by unfold fitsR; rw [h1, h2, h3]; rfl) ?_
          refine nj_again () trivial Nat.zero_lt_one rfl (by (repeat (first | exact trivial | refine And.intro rfl ?_))) (by (repeat (first | exact trivial | refine And.intro rfl ?_))) rfl (by (repeat' (first | exact trivial | exact Nat.le_of_ble_eq_true rfl | constructor))) (by (repeat' (first | exact trivial | exact Nat.le_of_ble_eq_true rfl | refine AllLt.of ?_ | constructor)))
        · have h3 : decide (r.name = st.key) = false := h3
          refine oj_run TT rfl ?_
          refine oj_split 51 rfl (fun h4 => absurd (show (!st.named) = true from h4) (by rw [h1]; decide)) (fun _ => ?_)
          refine oj_run TT rfl ?_
          (repeat refine oj_nil ?_)
          refine nj_set 65 (.a (.b (fitsR st n r))) rfl trivial (fun β => by unfold fitsR; rw [h1, h2, h3]; rfl) ?_
          refine nj_again () trivial Nat.zero_lt_one rfl (by (repeat (first | exact trivial | refine And.intro rfl ?_))) (by (repeat (first | exact trivial | refine And.intro rfl ?_))) rfl (by (repeat' (first | exact trivial | exact Nat.le_of_ble_eq_true rfl | constructor))) (by (repeat' (first | exact trivial | exact Nat.le_of_ble_eq_true rfl | refine AllLt.of ?_ | constructor)))
      · have h2 : r.nm = false := h2
        refine oj_run TT rfl ?_
        refine oj_split 51 rfl (fun h4 => absurd (show (!st.named) = true from h4) (by rw [h1]; decide)) (fun _ => ?_)
        refine oj_run TT rfl ?_
        (repeat refine oj_nil ?_)
        refine nj_set 65 (.a (.b (fitsR st n r))) rfl trivial (fun β => by unfold fitsR; rw [h1, h2]; rfl) ?_
        refine nj_again () trivial Nat.zero_lt_one rfl (by (repeat (first | exact trivial | refine And.intro rfl ?_))) (by (repeat (first | exact trivial | refine And.intro rfl ?_))) rfl (by (repeat' (first | exact trivial | exact Nat.le_of_ble_eq_true rfl | constructor))) (by (repeat' (first | exact trivial | exact Nat.le_of_ble_eq_true rfl | refine AllLt.of ?_ | constructor)))
    · have h1 : st.named = false := h1
      refine oj_run TT rfl ?_
      refine oj_split 51 rfl (fun _ => ?_) (fun h4 => absurd (show (!st.named) = false from h4) (by rw [h1]; decide))
      refine oj_run TT rfl ?_
      refine oj_idx TT rfl rfl rfl rfl rfl rfl rfl rfl rfl H (by omega) hrec (oj_run TT rfl ?_)
      refine oj_split 59 rfl (fun h2 => ?_) (fun h2 => ?_)
      · have h2 : (!r.nm) = true := h2
        refine oj_run TT rfl ?_
        (repeat refine oj_nil ?_)
        refine nj_set 65 (.a (.b (fitsR st n r))) rfl trivial (fun β => by unfold fitsR; rw [h1, h2]; rfl) ?_
        refine nj_again () trivial Nat.zero_lt_one rfl (by (repeat (first | exact trivial | refine And.intro rfl ?_))) (by (repeat (first | exact trivial | refine And.intro rfl ?_))) rfl (by (repeat' (first | exact trivial | exact Nat.le_of_ble_eq_true rfl | constructor))) (by (repeat' (first | exact trivial | exact Nat.le_of_ble_eq_true rfl | refine AllLt.of ?_ | constructor)))
      · have h2 : (!r.nm) = false := h2
        refine oj_run TT rfl ?_
        (repeat refine oj_nil ?_)
        refine nj_set 65 (.a (.b (fitsR st n r))) rfl trivial (fun β => by unfold fitsR; rw [h1, h2]; rfl) ?_
        refine nj_again () trivial Nat.zero_lt_one rfl (by (repeat (first | exact trivial | refine And.intro rfl ?_))) (by (repeat (first | exact trivial | refine And.intro rfl ?_))) rfl (by (repeat' (first | exact trivial | exact Nat.le_of_ble_eq_true rfl | constructor))) (by (repeat' (first | exact trivial | exact Nat.le_of_ble_eq_true rfl | refine AllLt.of ?_ | constructor)))
  refine cj_if rfl (fun h => ?_) (fun h => ?_)
  · rw [h, if_pos rfl] at hf
    rw [← hf] at hp
    (repeat (first | refine cj_seq ?_ | (refine cj_region ?_; refine oj_run TT rfl ?_) | refine oj_then ?_ | refine oj_nil ?_ | refine cj_exit ?_ | refine nj_then ?_ | refine nj_then_exit ?_ | refine nj_block_out ?_ | refine nj_block_on rfl ?_ | (refine oj_add rfl rfl rfl rfl rfl rfl (by omega) ?_; refine oj_run TT rfl ?_)))
    refine nj_again (σ1, k + 1, m) ⟨Snap.le_trans hle hle1, hkl, hml, hp⟩ (by dsimp only; omega) rfl (by (repeat (first | exact trivial | refine And.intro rfl ?_))) (by (repeat (first | exact trivial | refine And.intro rfl ?_))) rfl (by (repeat' (first | exact trivial | constructor))) (by (repeat' exact trivial))
  · rw [h, if_neg (by simp)] at hf
    (repeat (first | (refine cj_region ?_; refine oj_run TT rfl ?_) | refine oj_nil ?_ | refine cj_skip ?_ | refine nj_then ?_ | refine nj_block ?_ | (refine oj_add rfl rfl rfl rfl rfl rfl (by omega) ?_; refine oj_run TT rfl ?_)))
    refine nj_again (n + 1) ⟨hnl, hf⟩ (by omega) rfl (by (repeat (first | exact trivial | refine And.intro rfl ?_))) (by (repeat (first | exact trivial | refine And.intro rfl ?_))) rfl (by (repeat' (first | exact trivial | exact Nat.le_of_ble_eq_true rfl | constructor))) (by (repeat' (first | exact trivial | exact Nat.le_of_ble_eq_true rfl | refine AllLt.of ?_ | constructor)))
end Go.Sy
/- Plain laws: what stands at a record's place, and the record that stands at a place. No program in sight. -/
namespace Go.Sy

/-! ### Kinds -/

mutual
def kinds : GVal → Prop
  | .mk k _ _ _ l ks vs => (l ≠ [] → k = 4) ∧ (ks ≠ [] → k = 5) ∧ kindss l ∧ kindss vs
def kindss : List GVal → Prop
  | [] => True
  | g :: gs => kinds g ∧ kindss gs
end
theorem kinds_eq (g : GVal) : kinds g ↔ (g.l ≠ [] → g.kind = 4) ∧ (g.ks ≠ [] → g.kind = 5) ∧ kindss g.l ∧ kindss g.vs := by cases g; simp only [kinds, GVal.l, GVal.kind, GVal.ks, GVal.vs]
theorem kindss_mem : ∀ {gs : List GVal} {g : GVal}, kindss gs → g ∈ gs → kinds g
  | _ :: _, _, h, hm => by
    cases hm with
    | head => exact h.1
    | tail _ hm => exact kindss_mem h.2 hm
mutual
theorem sane_kinds4 : ∀ (g : GVal) (deep c : Int), (saneG g deep c).1 = 0 → kinds g
  | .mk k b n s l ks vs, deep, c, h => by
    simp only [saneG] at h
    split at h
    · simp at h
    rename_i hf
    have hf : fieldsG (.mk k b n s l ks vs) = true := by simpa using hf
    obtain ⟨h1, h2⟩ := fields_kind hf
    simp only [GVal.l, GVal.ks, GVal.kind] at h1 h2
    split at h
    · simp at h
    split at h
    · simp at h
    split at h
    · simp at h
    simp only [kinds]
    have hl : (saneL l deep (c + 1)).1 = 0 := by
      by_cases h0 : (saneL l deep (c + 1)).1 = 0
      · exact h0
      · rw [if_pos h0] at h; exact h
    rw [if_neg (by simp [hl])] at h
    exact ⟨h1, h2, sane_kinds4s l _ _ hl, sane_kinds4s vs _ _ h⟩
theorem sane_kinds4s : ∀ (gs : List GVal) (deep c : Int), (saneL gs deep c).1 = 0 → kindss gs
  | [], _, _, _ => trivial
  | g :: gs, deep, c, h => by
    simp only [saneL] at h
    have hg : (saneG g (deep + 1) c).1 = 0 := by
      by_cases h0 : (saneG g (deep + 1) c).1 = 0
      · exact h0
      · rw [if_pos h0] at h; exact h
    rw [if_neg (by simp [hg])] at h
    exact ⟨sane_kinds4 g _ _ hg, sane_kinds4s gs _ _ h⟩
end
theorem its_kinds {g : GVal} {x : Itm} (h : g.wf) (hk : kinds g) (hx : x ∈ its g) : kinds x.v := by
  have h' := (kinds_eq g).1 hk
  rcases List.mem_append.1 (its_mem h hx) with hm | hm
  · exact kindss_mem h'.2.2.1 hm
  · exact kindss_mem h'.2.2.2 hm

/-! ### What stands at a place -/

theorem findG_first {α : Type} {q : α → Bool} : ∀ {l : List α} {k j : Nat} {x : α}, l[j]? = some x → q x = true → (∀ (i : Nat) y, i < j → l[i]? = some y → q y = false) → findG q l k = (k + j : Nat)
  | x :: l, k, 0, y, h, hq, _ => by
    simp only [List.getElem?_cons_zero, Option.some.injEq] at h
    subst h
    rw [findG, if_pos hq, Nat.add_zero]
  | x :: l, k, j + 1, y, h, hq, hn => by
    have h0 := hn 0 x (by omega) rfl
    rw [findG, h0, if_neg (by simp), findG_first (l := l) (k := k + 1) (j := j) (by simpa using h) hq fun i z hi hz => hn (i + 1) z (by omega) (by simpa using hz)]
    congr 1
    omega
  | [], _, _, _, h, _, _ => by simp at h

theorem its_split {g : GVal} {m : Nat} {x : Itm} (hx : (its g)[m]? = some x) : (x.nm = false ∧ m < g.l.length ∧ g.l[m]? = some x.v) ∨ (x.nm = true ∧ g.l.length ≤ m ∧ g.ks[m - g.l.length]? = some x.name ∧ g.vs[m - g.l.length]? = some x.v) := by
  have hl : (itsL g.l).length = g.l.length := by simp [itsL]
  unfold its at hx
  by_cases hm : m < g.l.length
  · rw [List.getElem?_append_left (by omega)] at hx
    simp only [itsL, List.getElem?_map, Option.map_eq_some_iff] at hx
    obtain ⟨y, h1, rfl⟩ := hx
    exact .inl ⟨rfl, hm, h1⟩
  · rw [List.getElem?_append_right (by omega), hl] at hx
    obtain ⟨h1, h2, h3⟩ := itsM_get _ _ _ _ hx
    exact .inr ⟨h1, by omega, h2, h3⟩

theorem stepV_its {g : GVal} (hk : keysOk g) (hd : kinds g) {m : Nat} {x : Itm} (hx : (its g)[m]? = some x) : stepV g (stepOf m x) = some x.v := by
  obtain ⟨k4, k5, -, -⟩ := (kinds_eq g).1 hd
  rcases its_split hx with ⟨h1, h2, h3⟩ | ⟨h1, h2, h3, h4⟩
  · have hk4 : g.kind = 4 := k4 (fun e => by rw [e] at h2; simp at h2)
    unfold stepV stepOf
    rw [h1, hk4]
    simp only [Bool.false_eq_true, if_false, if_true]
    rw [if_neg (by omega), if_pos (by omega), Int.toNat_natCast, h3]
  · have hk5 : g.kind = 5 := k5 (fun e => by rw [e] at h3; simp at h3)
    have hnd := (twice_nodup _ _ ((keysOk_eq g).1 hk).1).2
    have hlt := (List.getElem?_eq_some_iff.1 h3).1
    have hp : placeM g.ks x.name = (m - g.l.length : Nat) := by
      have := findG_first (q := fun k => decide (k = x.name)) (k := 0) h3 (by simp) fun i y hi hy => by
        have hne : y ≠ x.name := fun e => by
          have := (List.getElem?_inj (j := m - g.l.length) (i := i) (by omega) hnd).1 (by rw [hy, h3, e])
          omega
        simpa using hne
      rw [Nat.zero_add] at this
      exact this
    unfold stepV stepOf
    rw [h1]
    simp only [if_true]
    unfold getG
    rw [if_pos hk5, hp, if_neg (by omega), Int.toNat_natCast, h4]

theorem sub_at {gap : Int} {g : GVal} {p : Nat} {now : Int} {P : List GStep} {h : GVal} {q : Nat} {a : Int} (hs : Sub gap g p now P h q a) : g.wf → keysOk g → kinds g → atV g P = some h := by
  induction hs with
  | refl => intro _ _ _; rfl
  | @step g p now m x P h q a hx hs ih =>
    intro hw hk hd
    have hm := List.mem_of_getElem? hx
    rw [atV, stepV_its hk hd hx, Option.bind_some]
    exact ih (its_wf hw hm) (its_keys hw hk hm) (its_kinds hw hd hm)

/-! ### The record at a place -/

theorem Loc.kid_rec {gap : Int} (hg : 0 < gap) {L : List GRec} {g : GVal} {p : Nat} {now : Int} {pre : List GStep} (h : Loc gap L g p now pre) {m : Nat} {x : Itm} (hx : (its g)[m]? = some x) :
    ∃ r, L[p + 1 + cntI ((its g).take m)]? = some r ∧ r.nm = x.nm ∧ r.name = x.name := by
  obtain ⟨h1, h2⟩ := h.kid hg hx
  obtain ⟨nm, name, h3⟩ := h1.rec_
  have h4 := h1.place (p + 1 + cntI ((its g).take m) + 1) (by omega)
  unfold upF at h4
  rw [h2, if_neg (by omega), List.reverse_append] at h4
  have h5 : stepG L (p + 1 + cntI ((its g).take m)) ((p : Int).toNat) = stepOf m x := (List.cons.inj h4).1
  unfold stepG stepOf at h5
  rw [h3] at h5
  dsimp only at h5
  injection h5 with h6 h7 h8
  exact ⟨_, h3, h8, h6⟩

theorem firstR_at {L : List GRec} {s : GStep} : ∀ {ks : List Nat} {n m q : Nat} {r : GRec}, (∀ (j k : Nat), j < m → ks[j]? = some k → ∃ r, L[k]? = some r ∧ fitsR s (n + j) r = false) → ks[m]? = some q → L[q]? = some r → fitsR s (n + m) r = true →
    firstR L s ks n = some q
  | k :: ks, n, 0, q, r, _, h1, h2, h3 => by
    simp only [List.getElem?_cons_zero, Option.some.injEq] at h1
    subst h1
    unfold firstR
    rw [h2]
    dsimp only
    rw [Nat.add_zero] at h3
    rw [if_pos h3]
  | k :: ks, n, m + 1, q, r, h, h1, h2, h3 => by
    obtain ⟨r0, a1, a2⟩ := h 0 k (by omega) rfl
    unfold firstR
    rw [a1]
    dsimp only
    rw [Nat.add_zero] at a2
    rw [a2, if_neg (by simp)]
    refine firstR_at (m := m) (fun j k' hj hk' => ?_) (by simpa using h1) h2 (by rw [show n + 1 + m = n + (m + 1) by omega]; exact h3)
    have := h (j + 1) k' (by omega) (by simpa using hk')
    rw [show n + (j + 1) = n + 1 + j by omega] at this
    exact this
  | [], _, _, _, _, _, h1, _, _ => by simp at h1

theorem Loc.kid_pos {gap : Int} (hg : 0 < gap) {L : List GRec} {g : GVal} {p : Nat} {now : Int} {pre : List GStep} (h : Loc gap L g p now pre) {m : Nat} (hm : m < (its g).length) : (kidsG L p)[m]? = some (p + 1 + cntI ((its g).take m)) := by
  rw [h.kids hg, ← vals_its h.wf, pos_get _ _ _ (by simpa [valsI] using hm)]
  unfold cntI valsI
  rw [List.map_take]

theorem fits_self (m : Nat) (x : Itm) {r : GRec} (h1 : r.nm = x.nm) (h2 : r.name = x.name) : fitsR (stepOf m x) m r = true := by
  unfold fitsR stepOf
  rw [h1, h2]
  cases x.nm <;> simp
theorem fits_other {g : GVal} (hk : keysOk g) {j m : Nat} {x y : Itm} (hx : (its g)[m]? = some x) (hy : (its g)[j]? = some y) (hne : j ≠ m) {r : GRec} (h1 : r.nm = y.nm) (h2 : r.name = y.name) : fitsR (stepOf m x) j r = false := by
  have hst : stepOf j y ≠ stepOf m x := fun e => hne (stepOf_inj hk hy hx e)
  unfold fitsR stepOf at *
  rw [h1, h2]
  cases hxn : x.nm <;> cases hyn : y.nm <;> simp_all
  · omega

theorem loc_find {gap : Int} (hg : 0 < gap) {L : List GRec} {g : GVal} {p : Nat} {now : Int} {P : List GStep} {h : GVal} {q : Nat} {a : Int} (hs : Sub gap g p now P h q a) : ∀ {pre : List GStep}, Loc gap L g p now pre → findR L p P = q := by
  induction hs with
  | refl => intro pre _; rfl
  | @step g p now m x P h q a hx hs ih =>
    intro pre hl
    have hlt := (List.getElem?_eq_some_iff.1 hx).1
    obtain ⟨r, h1, h2, h3⟩ := hl.kid_rec hg hx
    have hf : firstR L (stepOf m x) (kidsG L p) 0 = some (p + 1 + cntI ((its g).take m)) := by
      refine firstR_at (m := m) (fun j k hj hk => ?_) (hl.kid_pos hg hlt) h1 (by rw [Nat.zero_add]; exact fits_self m x h2 h3)
      have hy : (its g)[j]? = some ((its g)[j]'(by omega)) := List.getElem?_eq_getElem _
      obtain ⟨r', a1, a2, a3⟩ := hl.kid_rec hg hy
      rw [hl.kid_pos hg (by omega)] at hk
      obtain rfl := Option.some.inj hk
      exact ⟨r', a1, by rw [Nat.zero_add]; exact fits_other hl.keys hx hy (by omega) a2 a3⟩
    rw [findR, hf]
    exact ih (hl.kid hg hx).1

/-! ### The last one in a record -/

theorem Loc.last {gap : Int} (hg : 0 < gap) {L : List GRec} {g : GVal} {p : Nat} {now : Int} {pre : List GStep} (h : Loc gap L g p now pre) : lastG L p = p + cntV g - 1 := by
  obtain ⟨nm, name, rest, h1, hfr⟩ := h.at_
  obtain ⟨nm', name', hr⟩ := h.rec_
  have h2 := congrArg (List.map se) h1
  rw [List.map_drop, List.map_append, (shredV_sk gap g _ nm name now h.wf).1, skV_eq, List.cons_append] at h2
  obtain ⟨-, h4⟩ := drop_at h2
  have hce := cntV_eq g
  have hwe := wV_eq gap g
  have hrun : runP (now + wV gap g) ((L.map se).drop (p + 1)) = cntL (g.l ++ g.vs) := by
    rw [h4, runP_block hfr _ (fun x hx => by have := skL_bd hg _ _ x hx; omega), skL_len]
  unfold lastG runK
  rw [hr]
  show ((p + 1 + runL (now + wV gap g) (L.drop (p + 1)) : Nat) : Int) - 1 = _
  rw [runL_se, List.map_drop, hrun, cntL_append]
  omega

theorem sub_weight {gap : Int} {g : GVal} {p : Nat} {now : Int} {P : List GStep} {h : GVal} {q : Nat} {a : Int} (hs : Sub gap g p now P h q a) : g.wf → h.weight ≤ g.weight := by
  induction hs with
  | refl => intro _; exact Nat.le_refl _
  | @step g p now m x P h q a hx hs ih =>
    intro hw
    have hm := List.mem_of_getElem? hx
    exact Nat.le_trans (ih (its_wf hw hm)) (Nat.le_of_lt (in_weight (its_mem hw hm)))

/-- WHAT IS SAID OF EACH RECORD'S PLACE. -/
theorem shred_places {gap : Int} (hg : 0 < gap) {g : GVal} {nm : Bool} {name : ByteArray} (hw : g.wf) (hk : keysOk g) (hd : kinds g) {L : List GRec} (hL : L = (shredV gap g 0 nm name 0).1) {a : Nat} (ha : a < cntV g) {r : GRec} (hr : L[a]? = some r) :
    ∃ h : GVal, atV g (placeG L a) = some h ∧ h.weight ≤ g.weight ∧ h.wf ∧ h.kind = r.kd ∧ h.s = r.s ∧ h.n = r.n ∧ h.b = r.b ∧ findR L 0 (placeG L a) = a ∧ (kidsG L a).length = h.l.length + h.vs.length ∧
      (∀ (m k : Nat), (kidsG L a)[m]? = some k → parentG L k = a ∧ k < cntV g) ∧ lastG L a = a + cntV h - 1 ∧ ((kidsG L a).length = 0 → cntV h = 1) ∧
      (∀ k, (kidsG L a)[(kidsG L a).length - 1]? = some k → lastG L k = lastG L a) := by
  subst hL
  obtain ⟨h, s, hs, hl⟩ := shred_loc hg (nm := nm) (name := name) hw hk ha
  obtain ⟨nx, mx, ex⟩ := hl.rec_
  rw [hr] at ex
  have ex := Option.some.inj ex
  have hlen : (kidsG (shredV gap g 0 nm name 0).1 a).length = (its h).length := by
    rw [hl.kids hg, ← vals_its hl.wf]
    have : ∀ (gs : List GVal) (p : Nat), (pos gs p).length = gs.length := by
      intro gs
      induction gs with
      | nil => intro p; rfl
      | cons g gs ih => intro p; simp [pos, ih]
    rw [this]
    simp [valsI]
  have hlv : (its h).length = h.l.length + h.vs.length := by
    have := congrArg List.length (vals_its hl.wf)
    simpa [valsI] using this
  have hcv := cntI_its hl.wf
  have hcnt := shredV_cnt gap g 0 nm name 0 hw
  have hkid : ∀ (m k : Nat), (kidsG (shredV gap g 0 nm name 0).1 a)[m]? = some k → ∃ x, (its h)[m]? = some x ∧ k = a + 1 + cntI ((its h).take m) := by
    intro m k hk'
    have hm : m < (its h).length := by
      have := (List.getElem?_eq_some_iff.1 hk').1
      omega
    rw [hl.kid_pos hg hm] at hk'
    exact ⟨(its h)[m], List.getElem?_eq_getElem hm, (Option.some.inj hk').symm⟩
  subst ex
  refine ⟨h, sub_at hs hw hk hd, sub_weight hs hw, hl.wf, rfl, rfl, rfl, rfl, loc_find hg hs (loc_root hw hk), by rw [hlen, hlv], fun m k hk' => ?_, hl.last hg, fun h0 => ?_, fun k hk' => ?_⟩
  · obtain ⟨x, hx, rfl⟩ := hkid m k hk'
    obtain ⟨b1, b2⟩ := hl.kid hg hx
    obtain ⟨_, _, b3⟩ := b1.rec_
    have := (List.getElem?_eq_some_iff.1 b3).1
    exact ⟨b2, by omega⟩
  · rw [hlen] at h0
    have : its h = [] := List.eq_nil_of_length_eq_zero h0
    rw [this] at hcv
    rw [hcv]
    rfl
  · obtain ⟨x, hx, rfl⟩ := hkid _ k hk'
    rw [(hl.kid hg hx).1.last hg, hl.last hg]
    have hsp := cntI_split hx
    have hlt := (List.getElem?_eq_some_iff.1 hx).1
    rw [hlen] at hsp hlt ⊢
    rw [List.drop_eq_nil_of_le (by omega : (its h).length ≤ (its h).length - 1 + 1)] at hsp
    have : cntI [] = 0 := rfl
    omega
end Go.Sy
namespace Go.Sy
open Go.Proofs

/-! ### ShredPlaces -/

/-- What is known of a sane value's records. -/
theorem shred_facts {σ : Snap} {g : GVal} {r : List AT} (hr : RepV σ g r) {gap : Int} (hg : 1 ≤ gap) (hg2 : gap ≤ 1000) (hw : g.weight ≤ 4000) (hs : sane g = 0) {L : List GRec} (hL : L = (shredV gap g 0 false emptyS 0).1) :
    L.length = cntV g ∧ L.length ≤ g.weight ∧ 0 < L.length ∧ soundG L = true ∧ RecsOk L ∧ buildR L = (g, 0) := by
  subst hL
  have hcnt := shredV_cnt gap g 0 false emptyS 0 hr.wf
  obtain ⟨hlen1, hlen2⟩ := shredV_len gap g 0 false emptyS 0
  have hfit := shredV_fit gap g _ 0 false emptyS 0 hr (by decide)
  have hpos := cntV_pos g
  have hnow := (shredV_now (gap := gap) g 0 false emptyS 0 (by omega) hg2).2
  have hbd : buildR (shredV gap g 0 false emptyS 0).1 = (g, 0) := by
    have := buildR_shred (φ := fun x => x) (fun a b _ h => h) (gap := gap) (by omega) (by omega) g hr.wf hs (by omega) (by omega)
    rw [stE_id, List.map_id] at this
    exact this
  have hBG : buildG (shredV gap g 0 false emptyS 0).1 = (g, []) := by
    have := build_shred (fun x => x) gap g false emptyS 0 hr.wf
    rw [stE_id, List.map_id] at this
    exact this
  have hsound : soundG (shredV gap g 0 false emptyS 0).1 = true := by
    unfold soundG
    rw [hbd]
    rfl
  exact ⟨hcnt, hlen1, by omega, hsound, ⟨by simp only [mostLen]; omega, hfit, fun _ => by rw [hBG]; show g.weight ≤ _; omega⟩, hbd⟩

set_option maxRecDepth 100000 in
set_option maxHeartbeats 1000000 in
theorem ShredPlaces_c (σ : Snap) (g : GVal) (r : List AT) (i : Int) (hr : RepV σ g r) :
    PlainS Tryd.prog 8 [.agg r, .a (.v (.int .i64 i))] σ (fun v => v = .bool true) := by
  obtain ⟨la, lc, lrows, ma, mc, vrows, rfl, V⟩ := hr.open
  refine enter_p Tryd.func8 rfl rfl (by (repeat' (first | exact trivial | exact vCells_lt _ _ _ _ _ _ | constructor))) fun w => ?_
  (repeat (first | refine cj_seq ?_ | (refine cj_region ?_; refine oj_run TT rfl ?_) | refine oj_then ?_))
  refine oj_callP rfl rfl rfl rfl rfl Tryd.call18 (by (repeat' exact trivial)) (awake11_c σ) fun v hv => ⟨.a .tt, trivial, hv.symm, ?_⟩
  refine oj_run TT rfl ?_
  (repeat (first | refine cj_seq ?_ | (refine cj_region ?_; refine oj_run TT rfl ?_) | refine oj_then ?_))
  refine oj_callP rfl rfl rfl rfl rfl Tryd.call19 (by (repeat' (first | exact trivial | exact vCells_lt _ _ _ _ _ _ | constructor))) (Few_c σ g _ 1500 V.rep (by omega) (by omega)) fun v ⟨fb, hv, hfew⟩ => ⟨.a (.b fb), trivial, hv.symm, ?_⟩
  refine oj_run TT rfl ?_
  (repeat refine oj_then ?_)
  refine cj_if rfl (fun h => ?_) (fun h => ?_)
  · (repeat (first | refine cj_seq ?_ | (refine cj_region ?_; refine oj_run TT rfl ?_) | refine oj_then ?_ | refine cj_ret ?_ | refine nj_then_ret ?_))
    refine nj_ret TT rfl fun β w' _ _ => ?_
    rfl
  have hw : g.weight ≤ 1500 := by
    have := hfew (by simpa using h)
    omega
  (repeat (first | refine cj_seq ?_ | (refine cj_region ?_; refine oj_run TT rfl ?_) | refine cj_skip ?_ | refine nj_then ?_))
  refine oj_callS rfl rfl rfl rfl rfl Tryd.call21 ⟨vCells_lt _ _ _ _ _ _, trivial, trivial⟩ (Shred_s σ g _ 1 V.rep (by omega)) fun v σ1 hle1 ⟨ao, cap, hv, H⟩ => ⟨.tup [.a (.v (.slice ao (shredG g 1).1.length cap)), .a (.v (.int .i64 (shredG g 1).2))], (by (repeat' (first | exact trivial | refine SV.lt_tup ?_ | constructor))), hv.symm, ?_⟩
  rw [shredG_k (by omega) (by omega)] at H ⊢
  by_cases hs : sane g ≠ 0
  · rw [if_pos hs] at H ⊢
    dsimp only at H ⊢
    refine oj_run TT rfl ?_
    (repeat (first | refine cj_seq ?_ | (refine cj_region ?_; refine oj_run TT rfl ?_) | refine oj_then ?_))
    refine oj_split 26 rfl (fun h => ?_) (fun h => absurd (by simpa using h) hs)
    refine oj_run TT rfl ?_
    (repeat (first | refine cj_seq ?_ | (refine cj_region ?_; refine oj_run TT rfl ?_) | refine oj_then ?_ | refine cj_if_t rfl ?_ | refine cj_ret ?_ | refine nj_then_ret ?_))
    refine nj_ret TT rfl fun β w' _ _ => ?_
    rfl
  have hs : sane g = 0 := by simpa using hs
  rw [if_neg (by simp [hs])] at H ⊢
  dsimp only at H ⊢
  generalize hLdef : (shredV 1 g 0 false emptyS 0).1 = L at *
  obtain ⟨hcnt, hlen1, hpos, hsound, R, -⟩ := shred_facts V.rep (by omega) (by omega) (by omega) hs hLdef.symm
  refine oj_run TT rfl ?_
  (repeat (first | refine cj_seq ?_ | (refine cj_region ?_; refine oj_run TT rfl ?_) | refine oj_then ?_))
  refine oj_split 26 rfl (fun h => absurd h (by decide)) (fun h => ?_)
  refine oj_run TT rfl ?_
  (repeat refine oj_then ?_)
  refine cj_if rfl (fun h => ?_) (fun h => ?_)
  · have := of_decide_eq_true h
    omega
  have hmi := bAnd_le i 65535 (by omega) (by omega)
  (repeat (first | refine cj_seq ?_ | (refine cj_region ?_; refine oj_run TT rfl ?_) | refine cj_skip ?_ | refine nj_then ?_ | (refine oj_band rfl rfl rfl rfl rfl rfl ?_; refine oj_run TT rfl ?_)))
  generalize bAnd .i64 i 65535 = m1 at hmi ⊢
  refine oj_rem rfl rfl rfl rfl rfl rfl (by omega) ?_
  obtain ⟨a, ha⟩ : ∃ a : Nat, m1.tmod L.length = a := ⟨(m1.tmod L.length).toNat, by
    have := Int.tmod_nonneg (L.length : Int) hmi.1
    omega⟩
  have hal : a < L.length := by
    have := Int.tmod_lt_of_pos m1 (show (0 : Int) < L.length by omega)
    omega
  rw [ha]
  have hra := recRows_get (List.getElem?_eq_getElem hal)
  obtain ⟨wv, hat, hww, hwwf, ekd, es, en, eb, hfind, hkl, hkp, hlast, hone, hkl2⟩ := shred_places (gap := 1) (by omega) V.rep.wf (sane_keys g 0 0 hs) (sane_kinds4 g 0 0 hs) hLdef.symm (a := a) (by omega) (List.getElem?_eq_getElem hal)
  have hkv := ((wf_eq wv).1 hwwf).1
  have hPl : (placeG L a).length ≤ a + 1 := by unfold placeG; rw [List.length_reverse]; exact upF_len L (a + 1) a
  have hkle : (kidsG L a).length ≤ L.length := by
    unfold kidsG
    exact Nat.le_trans (kidsF_len L _ L.length (a + 1)) (Nat.sub_le _ _)
  have hwc := cntV_le wv
  clear hLdef
  generalize L[a] = x at *
  refine oj_run TT rfl ?_
  (repeat (first | refine cj_seq ?_ | (refine cj_region ?_; refine oj_run TT rfl ?_) | refine oj_then ?_))
  refine oj_callS rfl rfl rfl rfl rfl Tryd.call27 ⟨trivial, trivial, trivial⟩ (Place_c σ1 L R ao cap H a hal hsound (by omega)) fun v σ2 hle2 ⟨xo, xc, hv, HX⟩ => ⟨.a (.v (.slice xo (placeG L a).length xc)), trivial, hv.symm, ?_⟩
  have H := H.mono hle2
  have V := V.monoC (Snap.le_trans hle1 hle2).cle
  generalize placeG L a = P at *
  refine oj_run TT rfl ?_
  (repeat (first | refine cj_seq ?_ | (refine cj_region ?_; refine oj_run TT rfl ?_) | refine oj_then ?_))
  refine oj_callP rfl rfl rfl rfl rfl Tryd.call45 (by (repeat' (first | exact trivial | exact vCells_lt _ _ _ _ _ _ | constructor))) (At_c σ2 g la lc lrows ma mc vrows V P (by omega) xo xc HX) fun v ⟨r, hv, hr⟩ => ?_
  rw [hat] at hv hr
  obtain ⟨la', lc', lrows', ma', mc', vrows', rfl, V'⟩ := hr.open
  have V' : VAt σ2 wv la' lc' lrows' ma' mc' vrows' := V'
  refine ⟨.tup [.agg (vCells wv la' lc' ma' mc'), .a .tt], (by (repeat' (first | exact trivial | exact vCells_lt _ _ _ _ _ _ | refine SV.lt_tup ?_ | constructor))), hv.symm, ?_⟩
  refine oj_run TT rfl ?_
  (repeat (first | refine cj_seq ?_ | refine oj_then ?_))
  refine cj_draw [(0,.pure),(1,.pure),(2,.pure),(3,.pure),(4,.quiet),(5,.pure),(6,.pure),(7,.pure),(8,.pure),(9,.quiet),(10,.pure),(11,.pure),(12,.pure),(13,.pure),(14,.quiet),(15,.pure),(16,.pure),(17,.pure),(18,.pure),(19,.quiet),(20,.pure),(21,.pure),(22,.pure),(23,.pure),(24,.quiet),(25,.pure),(26,.pure),(27,.pure),(28,.pure),(29,.quiet),(30,.pure),(31,.pure),(32,.pure),(33,.pure),(34,.quiet),(35,.pure),(36,.pure),(37,.pure),(38,.pure),(39,.quiet),(40,.pure),(41,.pure),(42,.pure),(43,.pure),(44,.pure),(46,.pure),(45,.keep),(47,.pure),(48,.pure)] mixed (by kernel_rfl) (oj_run TT rfl ?_)
  refine oj_idx TT rfl rfl rfl rfl rfl rfl rfl rfl rfl H (by omega) hra (oj_run TT rfl ?_)
  refine oj_split 58 rfl (fun h => absurd (show (!decide (wv.kind = x.kd)) = true from h) (by simp [ekd])) (fun _ => ?_)
  refine oj_run TT rfl ?_
  refine oj_idx TT rfl rfl rfl rfl rfl rfl rfl rfl rfl H (by omega) hra (oj_run TT rfl ?_)
  refine oj_split 68 rfl (fun h => absurd (show (!decide (wv.s = x.s)) = true from h) (by simp [es])) (fun _ => ?_)
  refine oj_run TT rfl ?_
  refine oj_idx TT rfl rfl rfl rfl rfl rfl rfl rfl rfl H (by omega) hra (oj_run TT rfl ?_)
  refine oj_neDec wv.n x.n rfl rfl rfl rfl rfl rfl rfl (fun _ => rfl) (fun _ => rfl) (oj_run TT rfl ?_)
  refine oj_split 78 rfl (fun h => absurd (show (!decide (wv.n = x.n)) = true from h) (by simp [en])) (fun _ => ?_)
  refine oj_run TT rfl ?_
  refine oj_idx TT rfl rfl rfl rfl rfl rfl rfl rfl rfl H (by omega) hra (oj_run TT rfl ?_)
  refine oj_split 88 rfl (fun h => absurd (show (wv.b != x.b) = true from h) (by simp [eb])) (fun _ => ?_)
  refine oj_run TT rfl ?_
  refine oj_callP rfl rfl rfl rfl rfl Tryd.call43 (by (repeat' (first | exact trivial | constructor))) (Find_c σ2 L R ao cap H hsound (by omega) hpos P (by omega) xo xc HX) fun v hv => ⟨.a (.v (.int .i64 (a : Nat))), trivial, (by rw [hv, hfind]; rfl), ?_⟩
  refine oj_run TT rfl ?_
  (repeat refine oj_then ?_)
  refine cj_if rfl (fun h => absurd (show (!decide ((a : Int) = a)) = true from h) (by simp)) (fun _ => ?_)
  (repeat (first | refine cj_seq ?_ | (refine cj_region ?_; refine oj_run TT rfl ?_) | refine cj_skip ?_ | refine nj_then ?_))
  refine oj_callS rfl rfl rfl rfl rfl Tryd.call26 ⟨trivial, trivial, trivial⟩ (Kids_c σ2 L R ao cap H a hal hsound (by omega)) fun v σ3 hle3 ⟨oo, oc, hv, HK⟩ => ⟨.a (.v (.slice oo (kidsG L a).length oc)), trivial, hv.symm, ?_⟩
  have H := H.mono hle3
  have V' := V'.monoC hle3.cle
  generalize kidsG L a = ks at *
  refine oj_run TT rfl ?_
  (repeat (first | refine cj_seq ?_ | (refine cj_region ?_; refine oj_run TT rfl ?_) | refine oj_then ?_ | (refine oj_add rfl rfl rfl rfl rfl rfl (by omega) ?_; refine oj_run TT rfl ?_)))
  refine cj_if rfl (fun h => ?_) (fun _ => ?_)
  · have h : ¬ (ks.length : Int) = wv.l.length + wv.ks.length := by simpa using h
    omega
  (repeat (first | refine cj_seq ?_ | (refine cj_region ?_; refine oj_run TT rfl ?_) | refine oj_then ?_ | refine cj_skip ?_ | refine cj_block ?_ | refine nj_then ?_))
  refine cj_cutB (α := Unit) (fun _ => σ3) (fun _ => [(5, .a .tt), (6, .a (.v (.slice ao L.length cap))), (8, .a (.v (.int .i64 (a : Nat)))), (10, .a (.p 1 0)), (12, .a (.v (.slice oo ks.length oc)))]) (fun _ => [(1, .loc 27, vCells wv la' lc' ma' mc')]) (fun _ => []) 2 (fun _ => True) ?_ (fun _ _ => ?_)
  · refine cj_loop (fun (_ : Nat) => σ3) (fun k => [(5, .a .tt), (6, .a (.v (.slice ao L.length cap))), (8, .a (.v (.int .i64 (a : Nat)))), (10, .a (.p 1 0)), (12, .a (.v (.slice oo ks.length oc))), (13, .a (.v (.int .i64 (k : Nat))))]) (fun _ => [(1, .loc 27, vCells wv la' lc' ma' mc')]) (fun _ => []) 2
      (fun k => k ≤ ks.length) (fun k => ks.length - k) 0 (Nat.zero_le _) rfl (by (repeat (first | exact trivial | refine And.intro rfl ?_))) (by (repeat (first | exact trivial | refine And.intro rfl ?_))) rfl (by (repeat' (first | exact trivial | exact Nat.le_of_ble_eq_true rfl | constructor))) (by (repeat' (first | exact trivial | exact Nat.le_of_ble_eq_true rfl | exact vCells_lt _ _ _ _ _ _ | constructor))) fun k hk => ?_
    (repeat (first | refine cj_seq ?_ | (refine cj_region ?_; refine oj_run TT rfl ?_) | refine oj_then ?_))
    refine cj_if rfl (fun h => ?_) (fun h => ?_)
    rotate_left
    · (repeat (first | refine cj_exit ?_ | refine nj_then_exit ?_ | refine nj_block_out ?_))
      refine nj_again () trivial Nat.zero_lt_one rfl (by (repeat (first | exact trivial | refine And.intro rfl ?_))) (by (repeat (first | exact trivial | refine And.intro rfl ?_))) rfl (by (repeat' (first | exact trivial | exact Nat.le_of_ble_eq_true rfl | constructor))) (by (repeat' (first | exact trivial | exact Nat.le_of_ble_eq_true rfl | exact vCells_lt _ _ _ _ _ _ | constructor)))
    have hkl' : k < ks.length := by have := of_decide_eq_true h; omega
    have hkr : (kidRows ks)[k]? = some [.v (.int .i64 (ks[k] : Nat))] := by unfold kidRows; rw [List.getElem?_map, List.getElem?_eq_getElem hkl']; rfl
    obtain ⟨hpar, hmc⟩ := hkp k ks[k] (List.getElem?_eq_getElem hkl')
    generalize ks[k] = m at *
    have hatm : atG L m = true := by
      unfold atG
      rw [hsound]
      simp
      omega
    (repeat (first | refine cj_seq ?_ | (refine cj_region ?_; refine oj_run TT rfl ?_) | refine cj_skip ?_ | refine cj_block ?_ | refine nj_then ?_))
    refine oj_idx TT rfl rfl rfl rfl rfl rfl rfl rfl rfl HK (by omega) hkr (oj_run TT rfl ?_)
    refine oj_callP rfl rfl rfl rfl rfl Tryd.call36 (by (repeat' (first | exact trivial | constructor))) (Parent_c σ3 L R ao cap H m) fun v hv => ⟨.a (.v (.int .i64 (a : Nat))), trivial, (by rw [hv, hatm, if_pos rfl, Int.toNat_natCast, hpar]; rfl), ?_⟩
    refine oj_run TT rfl ?_
    (repeat refine oj_then ?_)
    refine cj_if rfl (fun h => absurd (show (!decide ((a : Int) = a)) = true from h) (by simp)) (fun _ => ?_)
    (repeat (first | (refine cj_region ?_; refine oj_run TT rfl ?_) | refine oj_nil ?_ | refine cj_skip ?_ | refine nj_then ?_ | refine nj_block ?_ | (refine oj_add rfl rfl rfl rfl rfl rfl (by omega) ?_; refine oj_run TT rfl ?_)))
    refine nj_again (k + 1) hkl' (by omega) rfl (by (repeat (first | exact trivial | refine And.intro rfl ?_))) (by (repeat (first | exact trivial | refine And.intro rfl ?_))) rfl (by (repeat' (first | exact trivial | exact Nat.le_of_ble_eq_true rfl | constructor))) (by (repeat' (first | exact trivial | exact Nat.le_of_ble_eq_true rfl | exact vCells_lt _ _ _ _ _ _ | constructor)))
  (repeat (first | refine cj_seq ?_ | (refine cj_region ?_; refine oj_run TT rfl ?_) | refine oj_then ?_))
  refine cj_if rfl (fun h => ?_) (fun h => ?_)
  · have h0 : ks.length = 0 := by have := of_decide_eq_true h; omega
    have hc1 := hone h0
    have hla : lastG L a = a := by rw [hlast, hc1]; omega
    (repeat (first | refine cj_seq ?_ | (refine cj_region ?_; refine oj_run TT rfl ?_)))
    refine oj_callP rfl rfl rfl rfl rfl Tryd.call40 (by (repeat' (first | exact trivial | constructor))) (Last_c σ3 L R ao cap H a hal hsound) fun v hv => ⟨.a (.v (.int .i64 (a : Nat))), trivial, (by rw [hv, hla]; rfl), ?_⟩
    refine oj_run TT rfl ?_
    refine oj_split 133 rfl (fun _ => ?_) (fun h => absurd (show decide ((a : Int) = a) = false from h) (by simp))
    refine oj_run TT rfl ?_
    refine oj_callP rfl rfl rfl rfl rfl Tryd.call25 (by (repeat' (first | exact trivial | exact vCells_lt _ _ _ _ _ _ | constructor))) (Count_c wv σ3 _ V'.rep (by omega)) fun v hv => ⟨.a (.v (.int .i64 1)), trivial, (by rw [hv, hc1]; rfl), ?_⟩
    refine oj_run TT rfl ?_
    (repeat (first | refine oj_then ?_ | refine cj_ret ?_ | refine nj_then_ret ?_))
    refine nj_ret TT rfl fun β w' _ _ => ?_
    rfl
  have h0 : ¬ ks.length = 0 := by have := of_decide_eq_false h; omega
  have hnl : ks.length - 1 < ks.length := by omega
  have hkr : (kidRows ks)[((ks.length : Int) - 1).toNat]? = some [.v (.int .i64 (ks[ks.length - 1] : Nat))] := by
    rw [show ((ks.length : Int) - 1).toNat = ks.length - 1 by omega]
    unfold kidRows
    rw [List.getElem?_map, List.getElem?_eq_getElem hnl]
    rfl
  have hkk := hkl2 _ (List.getElem?_eq_getElem hnl)
  obtain ⟨-, hmc⟩ := hkp _ _ (List.getElem?_eq_getElem hnl)
  generalize ks[ks.length - 1] = m at *
  (repeat (first | refine cj_seq ?_ | refine cj_skip ?_ | refine nj_then ?_))
  refine cj_draw [(0,.pure),(1,.pure),(2,.pure),(3,.pure),(5,.pure),(6,.pure),(7,.pure),(8,.pure),(9,.pure),(10,.pure),(11,.quiet),(4,.keep),(12,.keep),(13,.pure),(14,.pure),(15,.pure),(16,.pure),(17,.pure),(19,.pure),(22,.quiet),(18,.keep),(20,.pure),(21,.pure),(23,.keep),(24,.pure),(25,.pure),(26,.pure)] mixed (by kernel_rfl) (oj_run TT rfl ?_)
  refine oj_minus rfl rfl rfl rfl rfl rfl (by omega) (oj_run TT rfl ?_)
  refine oj_idx TT rfl rfl rfl rfl rfl rfl rfl rfl rfl HK (by omega) hkr (oj_run TT rfl ?_)
  refine oj_callP rfl rfl rfl rfl rfl Tryd.call40 (by (repeat' (first | exact trivial | constructor))) (Last_c σ3 L R ao cap H a hal hsound) fun v hv => ⟨.a (.v (.int .i64 (lastG L a))), trivial, hv.symm, ?_⟩
  refine oj_run TT rfl ?_
  refine oj_callP rfl rfl rfl rfl rfl Tryd.call40 (by (repeat' (first | exact trivial | constructor))) (Last_c σ3 L R ao cap H m (by omega) hsound) fun v hv => ⟨.a (.v (.int .i64 (lastG L a))), trivial, (by rw [hv, hkk]; rfl), ?_⟩
  refine oj_run TT rfl ?_
  refine oj_split 153 rfl (fun _ => ?_) (fun h => absurd (show decide (lastG L a = lastG L a) = false from h) (by simp))
  refine oj_run TT rfl ?_
  refine oj_callP rfl rfl rfl rfl rfl Tryd.call40 (by (repeat' (first | exact trivial | constructor))) (Last_c σ3 L R ao cap H a hal hsound) fun v hv => ⟨.a (.v (.int .i64 (lastG L a))), trivial, hv.symm, ?_⟩
  refine oj_run TT rfl ?_
  refine oj_minus rfl rfl rfl rfl rfl rfl (by omega) (oj_run TT rfl ?_)
  refine oj_add rfl rfl rfl rfl rfl rfl (by omega) (oj_run TT rfl ?_)
  refine oj_callP rfl rfl rfl rfl rfl Tryd.call25 (by (repeat' (first | exact trivial | exact vCells_lt _ _ _ _ _ _ | constructor))) (Count_c wv σ3 _ V'.rep (by omega)) fun v hv => ⟨.a (.v (.int .i64 (cntV wv))), trivial, hv.symm, ?_⟩
  refine oj_run TT rfl ?_
  (repeat (first | refine oj_then ?_ | refine cj_ret ?_))
  refine nj_ret TT rfl fun β w' _ _ => ?_
  exact congrArg Value.bool (decide_eq_true (show lastG L a - a + 1 = cntV wv by omega))
end Go.Sy
/- Plain laws: lists of records that are a value's, whatever their numbers, as long as these go up. No program in sight. -/
namespace Go.Sy

mutual
/-- L is a value's records; its numbers go up, above lo and up to hi. -/
inductive LayV : GVal → Int → Bool → ByteArray → Int → List GRec → Int → Prop
  | mk {g : GVal} {lv : Int} {nm : Bool} {name : ByteArray} {lo st en m hi : Int} {K : List GRec} (h1 : lo < st) (h2 : LayI (its g) (lv + 1) st K m) (h3 : m < en) (h4 : en ≤ hi) : LayV g lv nm name lo (⟨st, en, lv, g.kind, nm, name, g.b, g.n, g.s⟩ :: K) hi
inductive LayI : List Itm → Int → Int → List GRec → Int → Prop
  | nil {lv lo hi : Int} (h : lo ≤ hi) : LayI [] lv lo [] hi
  | cons {x : Itm} {xs : List Itm} {lv lo mid hi : Int} {A B : List GRec} (h1 : LayV x.v lv x.nm x.name lo A mid) (h2 : LayI xs lv mid B hi) : LayI (x :: xs) lv lo (A ++ B) hi
end

mutual
theorem LayV.le : ∀ {g : GVal} {lv : Int} {nm : Bool} {name : ByteArray} {lo hi : Int} {L : List GRec}, LayV g lv nm name lo L hi → lo + 2 ≤ hi
  | _, _, _, _, _, _, _, .mk h1 h2 h3 h4 => by have := h2.le; omega
theorem LayI.le : ∀ {xs : List Itm} {lv lo hi : Int} {L : List GRec}, LayI xs lv lo L hi → lo ≤ hi
  | _, _, _, _, _, .nil h => h
  | _, _, _, _, _, .cons h1 h2 => by have := h1.le; have := h2.le; omega
end

mutual
theorem LayV.bd : ∀ {g : GVal} {lv : Int} {nm : Bool} {name : ByteArray} {lo hi : Int} {L : List GRec}, LayV g lv nm name lo L hi → ∀ r ∈ L, lo < r.st ∧ r.st < r.en ∧ r.en ≤ hi
  | _, _, _, _, _, _, _, .mk h1 h2 h3 h4 => by
    intro r hr
    have hl := h2.le
    rcases List.mem_cons.1 hr with rfl | hr
    · dsimp only
      omega
    · have := h2.bd r hr
      omega
theorem LayI.bd : ∀ {xs : List Itm} {lv lo hi : Int} {L : List GRec}, LayI xs lv lo L hi → ∀ r ∈ L, lo < r.st ∧ r.st < r.en ∧ r.en ≤ hi
  | _, _, _, _, _, .nil h => by intro r hr; cases hr
  | _, _, _, _, _, .cons h1 h2 => by
    intro r hr
    have := h1.le
    have := h2.le
    rcases List.mem_append.1 hr with hr | hr
    · have := h1.bd r hr; omega
    · have := h2.bd r hr; omega
end

theorem LayV.up {g : GVal} {lv : Int} {nm : Bool} {name : ByteArray} {lo hi lo' hi' : Int} {L : List GRec} (h : LayV g lv nm name lo L hi) (h1 : lo' ≤ lo) (h2 : hi ≤ hi') : LayV g lv nm name lo' L hi' := by
  cases h with
  | mk a b c d => exact .mk (by omega) b c (by omega)
theorem LayI.hi_up : ∀ {xs : List Itm} {lv lo hi hi' : Int} {L : List GRec}, LayI xs lv lo L hi → hi ≤ hi' → LayI xs lv lo L hi'
  | [], _, _, _, _, _, h, h2 => by
    cases h with
    | nil h => exact .nil (by omega)
  | _ :: _, _, _, _, _, _, h, h2 => by
    cases h with
    | cons a b => exact .cons a (b.hi_up h2)
theorem LayI.up {xs : List Itm} {lv lo hi lo' hi' : Int} {L : List GRec} (h : LayI xs lv lo L hi) (h1 : lo' ≤ lo) (h2 : hi ≤ hi') : LayI xs lv lo' L hi' := by
  cases h with
  | nil h => exact .nil (by omega)
  | cons a b => exact .cons (a.up h1 (Int.le_refl _)) (b.hi_up h2)

theorem LayI.append : ∀ {xs ys : List Itm} {lv lo mid hi : Int} {A B : List GRec}, LayI xs lv lo A mid → LayI ys lv mid B hi → LayI (xs ++ ys) lv lo (A ++ B) hi
  | [], _, _, _, _, _, _, _, h1, h2 => by
    cases h1 with
    | nil h => exact h2.up h (Int.le_refl _)
  | _ :: _, _, _, _, _, _, _, _, h1, h2 => by
    cases h1 with
    | cons a b =>
      rw [List.append_assoc]
      exact .cons a (b.append h2)
theorem LayI.split : ∀ {xs ys : List Itm} {lv lo hi : Int} {L : List GRec}, LayI (xs ++ ys) lv lo L hi → ∃ A B mid, L = A ++ B ∧ LayI xs lv lo A mid ∧ LayI ys lv mid B hi
  | [], _, _, lo, _, L, h => ⟨[], L, lo, rfl, .nil (Int.le_refl _), h⟩
  | _ :: _, _, _, _, _, _, h => by
    cases h with
    | cons a b =>
      obtain ⟨A, B, mid, rfl, h1, h2⟩ := b.split
      exact ⟨_, B, mid, by rw [List.append_assoc], .cons a h1, h2⟩
theorem LayI.one {x : Itm} {lv lo hi : Int} {L : List GRec} : LayI [x] lv lo L hi ↔ LayV x.v lv x.nm x.name lo L hi := by
  constructor
  · intro h
    cases h with
    | cons a b =>
      cases b with
      | nil h =>
        rw [List.append_nil]
        exact a.up (Int.le_refl _) h
  · intro h
    have := LayI.cons h (.nil (lv := lv) (Int.le_refl hi))
    rwa [List.append_nil] at this

mutual
theorem LayV.len : ∀ {g : GVal} {lv : Int} {nm : Bool} {name : ByteArray} {lo hi : Int} {L : List GRec}, LayV g lv nm name lo L hi → g.wf → L.length = cntV g
  | _, _, _, _, _, _, _, .mk h1 h2 h3 h4, hw => by
    rw [List.length_cons, h2.len (wfs_its hw), cntI_its hw]
    omega
theorem LayI.len : ∀ {xs : List Itm} {lv lo hi : Int} {L : List GRec}, LayI xs lv lo L hi → GVal.wfs (valsI xs) → L.length = cntI xs
  | _, _, _, _, _, .nil h, _ => rfl
  | _, _, _, _, _, .cons h1 h2, hw => by
    simp only [valsI, List.map_cons, GVal.wfs] at hw
    rw [List.length_append, h1.len hw.1, h2.len hw.2]
    rfl
end

/-! ### A shred -/

mutual
theorem shredV_lay {gap : Int} (hg : 0 < gap) : ∀ (n : Nat) (g : GVal), cntV g ≤ n → g.wf → ∀ (lv : Int) (nm : Bool) (name : ByteArray) (now : Int), LayV g lv nm name now (shredV gap g lv nm name now).1 (now + wV gap g)
  | 0, g, hn, _, _, _, _, _ => by have := cntV_pos g; omega
  | n + 1, g, hn, hw, lv, nm, name, now => by
    rw [shredV_its gap g lv nm name now hw]
    have hc := cntI_its hw
    have hl := shredI_lay hg n (its g) (by omega) (wfs_its hw) (lv + 1) (now + gap)
    have hwe := wI_its (gap := gap) hw
    exact .mk (by omega) hl (by omega) (by omega)
termination_by n => (n, 0)
theorem shredI_lay {gap : Int} (hg : 0 < gap) : ∀ (n : Nat) (xs : List Itm), cntI xs ≤ n → GVal.wfs (valsI xs) → ∀ (lv now : Int), LayI xs lv now (shredI gap xs lv now).1 (now + wI gap xs)
  | _, [], _, _, _, now => .nil (by unfold wI; simp [valsI, wL])
  | n, x :: xs, hn, hw, lv, now => by
    simp only [valsI, List.map_cons, GVal.wfs] at hw
    have hc : cntI (x :: xs) = cntV x.v + cntI xs := rfl
    have he : wI gap (x :: xs) = wV gap x.v + wI gap xs := rfl
    have hs := (shredV_sk gap x.v lv x.nm x.name now hw.1).2
    have h1 := shredV_lay hg n x.v (by omega) hw.1 lv x.nm x.name now
    have h2 := shredI_lay hg n xs (by omega) hw.2 lv (now + wV gap x.v)
    unfold shredI
    dsimp only
    rw [hs, he, ← Int.add_assoc]
    exact .cons h1 h2
termination_by n xs => (n, xs.length + 1)
end
theorem shred_lay {gap : Int} (hg : 0 < gap) {g : GVal} (hw : g.wf) (lv : Int) (nm : Bool) (name : ByteArray) (now : Int) : LayV g lv nm name now (shredV gap g lv nm name now).1 (now + wV gap g) := shredV_lay hg _ g (Nat.le_refl _) hw lv nm name now
theorem shredI_lay' {gap : Int} (hg : 0 < gap) {xs : List Itm} (hw : GVal.wfs (valsI xs)) (lv now : Int) : LayI xs lv now (shredI gap xs lv now).1 (now + wI gap xs) := shredI_lay hg _ xs (Nat.le_refl _) hw lv now

mutual
theorem LayV.map {φ : Int → Int} (hφ : Incr φ) : ∀ {g : GVal} {lv : Int} {nm : Bool} {name : ByteArray} {lo hi : Int} {L : List GRec}, LayV g lv nm name lo L hi → 0 ≤ lo → LayV g lv nm name (φ lo) (L.map (stE φ)) (φ hi)
  | _, _, _, _, lo, hi, _, .mk (st := st) (en := en) (m := m) h1 h2 h3 h4, h0 => by
    have hl := h2.le
    have a1 := hφ lo st h0 h1
    have a2 := hφ m en (by omega) h3
    have a3 : φ en ≤ φ hi := by
      by_cases he : en = hi
      · rw [he]; exact Int.le_refl _
      · have := hφ en hi (by omega) (by omega); omega
    exact .mk a1 (h2.map hφ (by omega)) a2 a3
theorem LayI.map {φ : Int → Int} (hφ : Incr φ) : ∀ {xs : List Itm} {lv lo hi : Int} {L : List GRec}, LayI xs lv lo L hi → 0 ≤ lo → LayI xs lv (φ lo) (L.map (stE φ)) (φ hi)
  | _, _, lo, hi, _, .nil h, h0 => by
    refine .nil ?_
    by_cases he : lo = hi
    · rw [he]; exact Int.le_refl _
    · have := hφ lo hi h0 (by omega); omega
  | _, _, _, _, _, .cons h1 h2, h0 => by
    have := h1.le
    rw [List.map_append]
    exact .cons (h1.map hφ h0) (h2.map hφ (by omega))
end

/-! ### Nested -/

mutual
theorem LayV.nest : ∀ {g : GVal} {lv : Int} {nm : Bool} {name : ByteArray} {lo hi : Int} {L : List GRec}, LayV g lv nm name lo L hi → ∀ (k : Nat) (ro0 ro : List GRec) (last0 last : Int) (rest : List GRec), AtN lv ro0 last0 ro last → 0 ≤ lv → decide (lv = 0) = decide ((k : Int) = 0) → last ≤ lo →
    ∃ ro1 last1 last2, AtN lv ro1 last1 ro last2 ∧ last2 ≤ hi ∧ nestFrom k ro0 last0 (L ++ rest) = nestFrom (k + L.length) ro1 last1 rest
  | g, lv, nm, name, lo, hi, _, .mk (st := st) (en := en) (m := m) (K := K) h1 h2 h3 h4, k, ro0, ro, last0, last, rest, hA, h0, hk, hl => by
    have hlen := hA.len
    have hle := hA.le
    simp only [List.cons_append, nestFrom]
    rw [if_neg (by rw [hk]; simp; omega), hA.cl]
    dsimp only
    rw [if_neg (by omega)]
    generalize hr0 : (⟨st, en, lv, g.kind, nm, name, g.b, g.n, g.s⟩ : GRec) = r0
    have hen : r0.en = en := by rw [← hr0]
    obtain ⟨ro1, last1, last2, hA1, hl2, he1⟩ := h2.nest (k + 1) (r0 :: ro) (r0 :: ro) st st rest
      ⟨closeTo_same _ (by simp only [List.length_cons]; omega), by simp only [List.length_cons]; omega, by simp only [List.length_cons]; omega⟩ (by omega) (Nat.succ_pos k) (Int.le_refl _)
    refine ⟨ro1, last1, en, ⟨?_, hlen, by have := hA1.le; omega⟩, h4, ?_⟩
    · obtain ⟨x, hx⟩ := closeTo_suffix _ _ _ _ hA1.cl
      have hx : ro1 = x ++ (r0 :: ro) := hx
      have hlr : (((r0 :: ro).length : Nat) : Int) = lv + 1 := hA1.len
      have hcl := hA1.cl
      rw [← hlr, hx] at hcl
      rw [hx, closeTo_trans x (r0 :: ro) last1 last2 hcl lv (by omega), closeTo, if_pos (by omega), if_neg (by omega), hen]
      exact closeTo_same _ hlen
    · rw [he1, List.length_cons]
      congr 1
      omega
theorem LayI.nest : ∀ {xs : List Itm} {lv lo hi : Int} {L : List GRec}, LayI xs lv lo L hi → ∀ (k : Nat) (ro0 ro : List GRec) (last0 last : Int) (rest : List GRec), AtN lv ro0 last0 ro last → 1 ≤ lv → 0 < k → last ≤ lo →
    ∃ ro1 last1 last2, AtN lv ro1 last1 ro last2 ∧ last2 ≤ hi ∧ nestFrom k ro0 last0 (L ++ rest) = nestFrom (k + L.length) ro1 last1 rest
  | _, _, _, _, _, .nil h, k, ro0, ro, last0, last, rest, hA, h0, hk, hl => ⟨ro0, last0, last, hA, by omega, rfl⟩
  | _, lv, _, _, _, .cons (A := A) (B := B) h1 h2, k, ro0, ro, last0, last, rest, hA, h0, hk, hl => by
    rw [List.append_assoc, List.length_append]
    obtain ⟨ro1, last1, last2, hA1, hl2, he1⟩ := h1.nest k ro0 ro last0 last (B ++ rest) hA (by omega) (by rw [decide_eq_false (by omega), decide_eq_false (by omega)]) hl
    obtain ⟨ro2, last3, last4, hA2, hl4, he2⟩ := h2.nest (k + A.length) ro1 ro last1 last2 rest hA1 h0 (by omega) hl2
    exact ⟨ro2, last3, last4, hA2, hl4, by rw [he1, he2, Nat.add_assoc]⟩
end

theorem LayV.nested {g : GVal} {nm : Bool} {name : ByteArray} {lo hi : Int} {L : List GRec} (h : LayV g 0 nm name lo L hi) (h0 : -1 ≤ lo) : nestedG L = true := by
  unfold nestedG
  obtain ⟨ro1, last1, last2, hA, -, he⟩ := h.nest 0 [] [] (-1) (-1) [] ⟨rfl, rfl, Int.le_refl _⟩ (Int.le_refl _) rfl h0
  rw [List.append_nil] at he
  rw [he, nestFrom, closeAll_of ro1 last1 _ hA.cl, Bool.true_and]
  cases h
  rw [List.length_cons]
  exact decide_eq_true (by omega)

/-! ### Named, built -/

/-- A record without its numbers. -/
def er (r : GRec) : GRec := stE (fun _ => 0) r

mutual
theorem LayV.er_eq : ∀ {g : GVal} {lv : Int} {nm : Bool} {name : ByteArray} {lo hi : Int} {L : List GRec}, LayV g lv nm name lo L hi → g.wf → ∀ (gap now : Int), L.map er = (shredV gap g lv nm name now).1.map er
  | _, lv, nm, name, _, _, _, .mk h1 h2 h3 h4, hw, gap, now => by
    rw [shredV_its gap _ lv nm name now hw, List.map_cons, List.map_cons, h2.er_eq (wfs_its hw) gap (now + gap)]
    rfl
theorem LayI.er_eq : ∀ {xs : List Itm} {lv lo hi : Int} {L : List GRec}, LayI xs lv lo L hi → GVal.wfs (valsI xs) → ∀ (gap now : Int), L.map er = (shredI gap xs lv now).1.map er
  | _, _, _, _, _, .nil h, _, _, _ => rfl
  | x :: xs, lv, _, _, _, .cons h1 h2, hw, gap, now => by
    simp only [valsI, List.map_cons, GVal.wfs] at hw
    unfold shredI
    rw [List.map_append, List.map_append, h1.er_eq hw.1 gap now, h2.er_eq hw.2 gap (shredV gap x.v lv x.nm x.name now).2]
end

theorem namedFrom_er : ∀ (L : List GRec) (op : List Int), namedFrom op (L.map er) = namedFrom op L
  | [], _ => rfl
  | r :: l, op => by
    have ih := namedFrom_er l (op.take r.lv.toNat ++ [r.kd])
    rw [List.map_cons, namedFrom, namedFrom]
    show (if _ then false else namedFrom (op.take r.lv.toNat ++ [r.kd]) (l.map er)) = _
    rw [ih]
    rfl

mutual
theorem buildN_er : ∀ (n : Nat) (L : List GRec), buildN n (L.map er) = ((buildN n L).1, (buildN n L).2.map er)
  | 0, _ => rfl
  | _ + 1, [] => rfl
  | n + 1, r :: l => by
    rw [List.map_cons, buildN, buildN, show (er r).lv = r.lv from rfl, kidsN_er n r.lv l]
    rfl
theorem kidsN_er : ∀ (n : Nat) (lv : Int) (L : List GRec), kidsN n lv (L.map er) = ⟨(kidsN n lv L).ls, (kidsN n lv L).ks, (kidsN n lv L).vs, (kidsN n lv L).rest.map er⟩
  | 0, _, _ => rfl
  | _ + 1, _, [] => rfl
  | n + 1, lv, k :: l => by
    have h1 := buildN_er n (k :: l)
    rw [List.map_cons] at h1
    rw [List.map_cons, kidsN, kidsN, h1]
    dsimp only
    rw [kidsN_er n lv (buildN n (k :: l)).2]
    show (if lv < k.lv then if k.nm = true then _ else _ else _) = _
    by_cases ha : lv < k.lv
    · rw [if_pos ha, if_pos ha]
      by_cases hb : k.nm = true
      · rw [if_pos hb, if_pos hb]; rfl
      · rw [if_neg hb, if_neg hb]
    · rw [if_neg ha, if_neg ha]
      rfl
end

theorem LayV.named {g : GVal} {lo hi : Int} {L : List GRec} (h : LayV g 0 false emptyS lo L hi) (hw : g.wf) (hk : kindOk g) : namedG L = true := by
  have h1 := named_shred (fun _ => 0) 1 g hk
  have h2 := h.er_eq hw 1 0
  unfold namedG at h1 ⊢
  rw [← namedFrom_er, h2]
  exact h1
theorem LayV.built {g : GVal} {nm : Bool} {name : ByteArray} {lo hi : Int} {L : List GRec} (h : LayV g 0 nm name lo L hi) (hw : g.wf) : buildG L = (g, []) := by
  have h1 := build_shred (fun _ => 0) 1 g nm name 0 hw
  have h2 := h.er_eq hw 1 0
  have hl := congrArg List.length h2
  rw [List.length_map, List.length_map] at hl
  unfold buildG at h1 ⊢
  have h3 := buildN_er (enough L) L
  rw [h2] at h3
  have he : enough ((shredV 1 g 0 nm name 0).1.map (stE fun _ => 0)) = enough L := by unfold enough; rw [List.length_map, hl]
  rw [he] at h1
  have h4 : (((buildN (enough L) L).1, (buildN (enough L) L).2.map er) : GVal × List GRec) = (g, []) := by rw [← h3]; exact h1
  have h5 := congrArg Prod.fst h4
  have h6 := congrArg Prod.snd h4
  dsimp only at h5 h6
  rw [List.map_eq_nil_iff] at h6
  rw [← h5, ← h6]

/-- WHAT LIES AS A VALUE'S RECORDS IS BUILT. -/
theorem LayV.buildR {g : GVal} {lo hi : Int} {L : List GRec} (h : LayV g 0 false emptyS lo L hi) (h0 : -1 ≤ lo) (hw : g.wf) (hs : sane g = 0) (hl : L.length ≤ 4096) (hen : hi ≤ 1099511627776) : Go.Sy.buildR L = (g, 0) := by
  have h1 := h.nested h0
  have h2 := h.named hw (sane_kind g 0 0 hw hs)
  have h3 := h.built hw
  unfold Go.Sy.buildR
  rw [if_neg, if_neg, h3]
  · rw [h3]; simp [hs]
  · rw [h1, h2]
    have h4 : (L.head?.map GRec.en).getD 0 ≤ 1099511627776 := by
      cases h with
      | mk a b c d => show _ ≤ _; dsimp only [List.head?_cons, Option.map_some, Option.getD_some]; omega
    rintro (h | h | h | h)
    · omega
    · cases h
    · cases h
    · omega

/-! ### One value in another's place -/

/-- A value with what stands at m replaced. -/
def setIt (g : GVal) (m : Nat) (v : GVal) : GVal := if m < g.l.length then .mk g.kind g.b g.n g.s (g.l.set m v) g.ks g.vs else .mk g.kind g.b g.n g.s g.l g.ks (g.vs.set (m - g.l.length) v)

theorem itsM_set : ∀ (vs : List GVal) (ks : List ByteArray) (m : Nat) (v : GVal) (x : Itm), (itsM vs ks)[m]? = some x → itsM (vs.set m v) ks = (itsM vs ks).set m ⟨x.nm, x.name, v⟩
  | [], ks, m, v, x, h => by cases ks <;> simp [itsM] at h
  | g :: gs, [], m, v, x, h => by simp [itsM] at h
  | g :: gs, k :: ks, 0, v, x, h => by
    simp only [itsM, List.getElem?_cons_zero, Option.some.injEq] at h
    subst h
    rfl
  | g :: gs, k :: ks, m + 1, v, x, h => by
    simp only [itsM, List.getElem?_cons_succ] at h
    simp only [List.set_cons_succ, itsM, itsM_set gs ks m v x h]
theorem its_set {g : GVal} {m : Nat} {x : Itm} (v : GVal) (h : (its g)[m]? = some x) : its (setIt g m v) = (its g).set m ⟨x.nm, x.name, v⟩ := by
  have hlen : (itsL g.l).length = g.l.length := by simp [itsL]
  unfold setIt
  by_cases hm : m < g.l.length
  · rw [if_pos hm]
    unfold its at h ⊢
    rw [List.getElem?_append_left (by omega)] at h
    rw [List.set_append_left _ _ (by omega)]
    simp only [itsL, List.getElem?_map, Option.map_eq_some_iff] at h
    obtain ⟨_, _, rfl⟩ := h
    show itsL (g.l.set m v) ++ _ = _
    unfold itsL
    rw [List.map_set]
    rfl
  · rw [if_neg hm]
    unfold its at h ⊢
    rw [List.getElem?_append_right (by omega), hlen] at h
    rw [List.set_append_right _ _ (by omega), hlen]
    show _ ++ itsM (g.vs.set _ v) g.ks = _
    rw [itsM_set _ _ _ _ _ h]
    rfl
theorem setIt_kind (g : GVal) (m : Nat) (v : GVal) : (setIt g m v).kind = g.kind ∧ (setIt g m v).b = g.b ∧ (setIt g m v).n = g.n ∧ (setIt g m v).s = g.s := by
  unfold setIt
  split <;> exact ⟨rfl, rfl, rfl, rfl⟩
theorem wfs_set : ∀ {l : List GVal} {m : Nat} {v : GVal}, GVal.wfs l → v.wf → GVal.wfs (l.set m v)
  | [], _, _, h, _ => h
  | _ :: _, 0, _, h, hv => ⟨hv, h.2⟩
  | _ :: l, m + 1, _, h, hv => ⟨h.1, wfs_set (l := l) (m := m) h.2 hv⟩
theorem setIt_wf {g : GVal} {m : Nat} {v : GVal} (h : g.wf) (hv : v.wf) : (setIt g m v).wf := by
  obtain ⟨h1, h2, h3⟩ := (wf_eq g).1 h
  unfold setIt
  split
  · rw [wf_eq]
    exact ⟨h1, wfs_set h2 hv, h3⟩
  · rw [wf_eq]
    exact ⟨by show g.ks.length = (g.vs.set _ v).length; rw [List.length_set]; exact h1, h2, wfs_set h3 hv⟩

/-- g' is g with h' in the place of h, which stands at P. -/
inductive Swap : GVal → GVal → List GStep → GVal → GVal → Prop
  | refl (h h' : GVal) : Swap h h' [] h h'
  | step {g v' : GVal} {m : Nat} {x : Itm} {P : List GStep} {h h' : GVal} (hx : (its g)[m]? = some x) (hs : Swap x.v v' P h h') : Swap g (setIt g m v') (stepOf m x :: P) h h'

theorem Swap.wf {g g' : GVal} {P : List GStep} {h h' : GVal} (hs : Swap g g' P h h') (hw : g.wf) (hh : h'.wf) : g'.wf := by
  induction hs with
  | refl => exact hh
  | @step g v' m x P h h' hx hs ih => exact setIt_wf hw (ih (its_wf hw (List.mem_of_getElem? hx)) hh)

/-- WHAT LIES IN A PLACE GIVES WAY TO WHAT LIES WITHIN THE SAME NUMBERS. -/
theorem Sub.swap {gap : Int} (hg : 0 < gap) {g : GVal} {p : Nat} {now : Int} {P : List GStep} {h : GVal} {q : Nat} {now' : Int} (hs : Sub gap g p now P h q now') (h' : GVal) : g.wf → ∃ g', Swap g g' P h h' ∧ ∀ (lv : Int) (nm : Bool) (name : ByteArray),
    ∃ pre post nm' name', (shredV gap g lv nm name now).1 = pre ++ ((shredV gap h (lv + P.length) nm' name' now').1 ++ post) ∧ q = p + pre.length ∧ (P = [] → nm' = nm ∧ name' = name) ∧
      ∀ H' : List GRec, LayV h' (lv + P.length) nm' name' now' H' (now' + wV gap h) → LayV g' lv nm name now (pre ++ (H' ++ post)) (now + wV gap g) := by
  induction hs with
  | refl g p now =>
    intro hw
    refine ⟨h', .refl g h', fun lv nm name => ⟨[], [], nm, name, by simp, by simp, fun _ => ⟨rfl, rfl⟩, fun H' hl => ?_⟩⟩
    simpa using hl
  | @step g p now m x P h q now' hx hs ih =>
    intro hw
    have hm := List.mem_of_getElem? hx
    have hwx := its_wf hw hm
    obtain ⟨v', hv, hd⟩ := ih hwx
    refine ⟨setIt g m v', .step hx hv, fun lv nm name => ?_⟩
    obtain ⟨pre, post, nm', name', h1, h2, -, h4⟩ := hd (lv + 1) x.nm x.name
    have hwi := wfs_its hw
    have hsp := split_at hx
    have hwt : GVal.wfs (valsI ((its g).take m)) := by
      rw [hsp, valsI_append, wfs_append] at hwi
      exact hwi.1
    have hwd : GVal.wfs (valsI ((its g).drop (m + 1))) := by
      rw [hsp, valsI_append, wfs_append] at hwi
      exact hwi.2.2
    have hsk := shredI_sk gap ((its g).take m) (lv + 1) (now + gap) hwt
    have hl1 : (shredI gap ((its g).take m) (lv + 1) (now + gap)).1.length = cntI ((its g).take m) := by
      have := congrArg List.length hsk.1
      rw [List.length_map, skL_len] at this
      exact this
    have e2 : (shredI gap ((its g).take m) (lv + 1) (now + gap)).2 = now + gap + wI gap ((its g).take m) := hsk.2
    have hsv := (shredV_sk gap x.v (lv + 1) x.nm x.name (now + gap + wI gap ((its g).take m)) hwx).2
    have hI : (shredI gap (its g) (lv + 1) (now + gap)).1 = (shredI gap ((its g).take m) (lv + 1) (now + gap)).1 ++ ((pre ++ ((shredV gap h (lv + 1 + P.length) nm' name' now').1 ++ post)) ++ (shredI gap ((its g).drop (m + 1)) (lv + 1) (now + gap + wI gap ((its g).take m) + wV gap x.v)).1) := by
      conv => lhs; rw [hsp]
      rw [shredI_append, e2]
      dsimp only
      rw [shredI]
      dsimp only
      rw [hsv, h1]
    have hlv : lv + 1 + (P.length : Int) = lv + ((stepOf m x :: P).length : Nat) := by rw [List.length_cons]; omega
    have hwe := wI_its (gap := gap) hw
    have hws := wI_split (gap := gap) hx
    rw [hlv] at hI h4
    refine ⟨⟨now + gap, now + wV gap g, lv, g.kind, nm, name, g.b, g.n, g.s⟩ :: ((shredI gap ((its g).take m) (lv + 1) (now + gap)).1 ++ pre), post ++ (shredI gap ((its g).drop (m + 1)) (lv + 1) (now + gap + wI gap ((its g).take m) + wV gap x.v)).1, nm', name', ?_, ?_, fun h => (by cases h), fun H' hl => ?_⟩
    · rw [shredV_its gap g lv nm name now hw, hI]
      simp only [List.cons_append, List.append_assoc]
    · rw [h2, List.length_cons, List.length_append, hl1]
      omega
    · have h5 := h4 H' hl
      obtain ⟨k1, k2, k3, k4⟩ := setIt_kind g m v'
      have hits := its_set v' hx
      have hset : (its g).set m ⟨x.nm, x.name, v'⟩ = (its g).take m ++ (⟨x.nm, x.name, v'⟩ :: (its g).drop (m + 1)) := by
        rw [List.set_eq_take_append_cons_drop, if_pos (List.getElem?_eq_some_iff.1 hx).1]
      have hA := shredI_lay' hg hwt (lv + 1) (now + gap)
      have hC := shredI_lay' hg hwd (lv + 1) (now + gap + wI gap ((its g).take m) + wV gap x.v)
      have hB : LayI ((its g).take m ++ (⟨x.nm, x.name, v'⟩ :: (its g).drop (m + 1))) (lv + 1) (now + gap) ((shredI gap ((its g).take m) (lv + 1) (now + gap)).1 ++ ((pre ++ (H' ++ post)) ++ (shredI gap ((its g).drop (m + 1)) (lv + 1) (now + gap + wI gap ((its g).take m) + wV gap x.v)).1)) (now + gap + wI gap (its g)) :=
        hA.append (.cons h5 (hC.up (Int.le_refl _) (by omega)))
      rw [← hset, ← hits] at hB
      have := LayV.mk (nm := nm) (name := name) (lo := now) (st := now + gap) (en := now + wV gap g) (by omega) hB (by omega) (Int.le_refl _)
      rw [k1, k2, k3, k4] at this
      simpa only [List.cons_append, List.append_assoc] using this
end Go.Sy
