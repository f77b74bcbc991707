/- Parts of the proof of CShredPlaces: F26, F32, SyV, F33, Lf, F34, XCl, XRow, CFacts. No conditions. -/
import Derived.Test.YtadnijcgohflhaaDoorM9
import Derived.Scope
import Derived.Carry
import Derived.RowKit
import Derived.ChangeStays
import Derived.ChangeSame
import Derived.ReadAgain
import Derived.SizedLaws
import Derived.Deep.DeepHandedRow
import Derived.ProofKit
import Derived.OpenShut
import Derived.Lay
import Derived.SevenTiedAt
import Derived.Stop.Joined
import Derived.Test.YtadnijcgohflhaaDoorCards
import Derived.Test.YtadnijcgohflhaaDoorTie
namespace Go.Sy
open Go.Proofs

/-! ### Steps as texts -/

def strRows (l : List ByteArray) : List (List AT) := l.map fun s => [.v (.string s)]
theorem strRows_get {l : List ByteArray} {i : Nat} {s : ByteArray} (h : l[i]? = some s) : (strRows l)[i]? = some [.v (.string s)] := by unfold strRows; rw [List.getElem?_map, h]; rfl

theorem take_succ_eq {α : Type} {a b : List α} {k : Nat} (h : a.take k = b.take k) (ha : k < a.length) (hb : k < b.length) : a.take (k + 1) = b.take (k + 1) ↔ a[k] = b[k] := by
  rw [List.take_succ_eq_append_getElem ha, List.take_succ_eq_append_getElem hb, h, List.append_cancel_left_eq, List.cons.injEq]
  simp

set_option maxRecDepth 100000 in
set_option maxHeartbeats 1000000 in
theorem Equal_c (σ : Snap) (a b : List ByteArray) (hl : a.length ≤ 140737488355328) (ao bo : Option Addr) (ac bc : Nat) (HA : SlAt σ ao a.length ac 1 (strRows a)) (HB : SlAt σ bo b.length bc 1 (strRows b)) :
    PlainS Tryd.prog 99 [.a (.v (.slice ao a.length ac)), .a (.v (.slice bo b.length bc))] σ (fun x => x = .bool (decide (a = b))) := by
  refine enter_p Tryd.func99 rfl rfl (by (repeat' (first | exact trivial | constructor))) fun w => ?_
  (repeat (first | refine cj_seq ?_ | (refine cj_region ?_; refine oj_run TT rfl ?_) | refine oj_then ?_))
  refine cj_if rfl (fun h => ?_) (fun h => ?_)
  · have h : ¬ (a.length : Int) = b.length := by simpa using h
    (repeat (first | refine cj_seq ?_ | (refine cj_region ?_; refine oj_run TT rfl ?_) | refine oj_then ?_ | refine cj_ret ?_ | refine nj_then_ret ?_))
    refine nj_ret TT rfl fun β w' _ _ => ?_
    rw [decide_eq_false (fun e => h (by rw [e]))]
    rfl
  have hlen : a.length = b.length := by
    have h : (a.length : Int) = b.length := by simpa using h
    omega
  (repeat (first | refine cj_seq ?_ | (refine cj_region ?_; refine oj_run TT rfl ?_) | refine oj_then ?_ | refine cj_skip ?_ | refine cj_block ?_ | refine nj_then ?_))
  refine cj_loop (fun (_ : Nat) => σ) (fun k => [(0, .a (.v (.slice ao a.length ac))), (1, .a (.v (.slice bo b.length bc))), (12, .a (.v (.int .i64 a.length))), (13, .a (.v (.int .i64 k)))]) (fun _ => []) (fun _ => []) 0
    (fun k => k ≤ a.length ∧ a.take k = b.take k) (fun k => a.length - k) 0 ⟨Nat.zero_le _, rfl⟩ rfl (by (repeat (first | exact trivial | refine And.intro rfl ?_))) (by (repeat (first | exact trivial | refine And.intro rfl ?_))) rfl (by (repeat' (first | exact trivial | constructor))) (by (repeat' exact trivial)) fun k ⟨hk, hp⟩ => ?_
  (repeat (first | refine cj_seq ?_ | (refine cj_region ?_; refine oj_run TT rfl ?_) | refine oj_then ?_))
  refine cj_if rfl (fun h => ?_) (fun h => ?_)
  rotate_left
  · have hk0 : k = a.length := by have := of_decide_eq_false h; omega
    subst hk0
    rw [List.take_length, hlen, List.take_length] at hp
    (repeat (first | refine cj_seq ?_ | (refine cj_region ?_; refine oj_run TT rfl ?_) | refine oj_then ?_ | refine cj_exit ?_ | refine cj_ret ?_ | refine nj_then ?_ | refine nj_then_exit ?_ | refine nj_block_out ?_))
    refine nj_ret TT rfl fun β w' _ _ => ?_
    rw [decide_eq_true hp]
    rfl
  have hkl : k < a.length := by have := of_decide_eq_true h; omega
  have hkl' : k < b.length := by omega
  have hra := strRows_get (List.getElem?_eq_getElem hkl)
  have hrb := strRows_get (List.getElem?_eq_getElem hkl')
  have hne : a[k] ≠ b[k] → a ≠ b := fun hn e => hn (by subst e; rfl)
  have hiff := take_succ_eq hp hkl hkl'
  generalize a[k] = x at *
  generalize b[k] = y at *
  (repeat (first | refine cj_seq ?_ | (refine cj_region ?_; refine oj_run TT rfl ?_) | refine oj_then ?_ | refine cj_skip ?_ | refine cj_block ?_ | refine nj_then ?_))
  refine cj_draw [(0,.pure),(1,.pure),(2,.pure),(3,.quiet),(4,.pure),(5,.pure),(6,.pure),(7,.quiet),(8,.pure)] mixed (by kernel_rfl) (oj_run TT rfl ?_)
  refine oj_idx TT rfl rfl rfl rfl rfl rfl rfl rfl rfl HA (by omega) hra (oj_run TT rfl ?_)
  refine oj_idx TT rfl rfl rfl rfl rfl rfl rfl rfl rfl HB (by omega) hrb (oj_run TT rfl ?_)
  (repeat refine oj_then ?_)
  refine cj_if rfl (fun h => ?_) (fun h => ?_)
  · have h : ¬ x = y := by simpa using h
    (repeat (first | refine cj_seq ?_ | (refine cj_region ?_; refine oj_run TT rfl ?_) | refine oj_then ?_ | refine cj_ret ?_ | refine nj_then_ret ?_ | refine nj_block_ret ?_))
    refine nj_ret TT rfl fun β w' _ _ => ?_
    rw [decide_eq_false (hne h)]
    rfl
  · have h : x = y := by simpa using h
    (repeat (first | (refine cj_region ?_; refine oj_run TT rfl ?_) | refine oj_nil ?_ | refine cj_skip ?_ | refine nj_then ?_ | refine nj_block ?_ | (refine oj_add rfl rfl rfl rfl rfl rfl (by omega) ?_; refine oj_run TT rfl ?_)))
    refine nj_again (k + 1) ⟨hkl, hiff.2 h⟩ (by omega) rfl (by (repeat (first | exact trivial | refine And.intro rfl ?_))) (by (repeat (first | exact trivial | refine And.intro rfl ?_))) rfl (by (repeat' (first | exact trivial | constructor))) (by (repeat' exact trivial))

set_option maxRecDepth 100000 in
set_option maxHeartbeats 1000000 in
theorem SameSteps13_c (σ : Snap) (a b : List ByteArray) (hl : a.length ≤ 140737488355328) (ao bo : Option Addr) (ac bc : Nat) (HA : SlAt σ ao a.length ac 1 (strRows a)) (HB : SlAt σ bo b.length bc 1 (strRows b)) :
    PlainS Tryd.prog 54 [.a (.v (.slice ao a.length ac)), .a (.v (.slice bo b.length bc))] σ (fun x => x = .bool (decide (a = b))) := by
  refine enter_p Tryd.func54 rfl rfl (by (repeat' (first | exact trivial | constructor))) fun w => ?_
  (repeat (first | refine cj_seq ?_ | (refine cj_region ?_; refine oj_run TT rfl ?_) | refine oj_then ?_))
  refine cj_if rfl (fun h => ?_) (fun h => ?_)
  · have h : ¬ (a.length : Int) = b.length := by simpa using h
    (repeat (first | refine cj_seq ?_ | (refine cj_region ?_; refine oj_run TT rfl ?_) | refine oj_then ?_ | refine cj_ret ?_ | refine nj_then_ret ?_))
    refine nj_ret TT rfl fun β w' _ _ => ?_
    rw [decide_eq_false (fun e => h (by rw [e]))]
    rfl
  have hlen : a.length = b.length := by
    have h : (a.length : Int) = b.length := by simpa using h
    omega
  (repeat (first | refine cj_seq ?_ | (refine cj_region ?_; refine oj_run TT rfl ?_) | refine oj_then ?_ | refine cj_skip ?_ | refine cj_block ?_ | refine nj_then ?_))
  refine cj_loop (fun (_ : Nat) => σ) (fun k => [(0, .a (.v (.slice ao a.length ac))), (1, .a (.v (.slice bo b.length bc))), (5, .a (.v (.int .i64 k)))]) (fun _ => []) (fun _ => []) 0
    (fun k => k ≤ a.length ∧ a.take k = b.take k) (fun k => a.length - k) 0 ⟨Nat.zero_le _, rfl⟩ rfl (by (repeat (first | exact trivial | refine And.intro rfl ?_))) (by (repeat (first | exact trivial | refine And.intro rfl ?_))) rfl (by (repeat' (first | exact trivial | constructor))) (by (repeat' exact trivial)) fun k ⟨hk, hp⟩ => ?_
  (repeat (first | refine cj_seq ?_ | (refine cj_region ?_; refine oj_run TT rfl ?_) | refine oj_then ?_))
  refine cj_if rfl (fun h => ?_) (fun h => ?_)
  rotate_left
  · have hk0 : k = a.length := by have := of_decide_eq_false h; omega
    subst hk0
    rw [List.take_length, hlen, List.take_length] at hp
    (repeat (first | refine cj_seq ?_ | (refine cj_region ?_; refine oj_run TT rfl ?_) | refine oj_then ?_ | refine cj_exit ?_ | refine cj_ret ?_ | refine nj_then ?_ | refine nj_then_exit ?_ | refine nj_block_out ?_))
    refine nj_ret TT rfl fun β w' _ _ => ?_
    rw [decide_eq_true hp]
    rfl
  have hkl : k < a.length := by have := of_decide_eq_true h; omega
  have hkl' : k < b.length := by omega
  have hra := strRows_get (List.getElem?_eq_getElem hkl)
  have hrb := strRows_get (List.getElem?_eq_getElem hkl')
  have hne : a[k] ≠ b[k] → a ≠ b := fun hn e => hn (by subst e; rfl)
  have hiff := take_succ_eq hp hkl hkl'
  generalize a[k] = x at *
  generalize b[k] = y at *
  (repeat (first | refine cj_seq ?_ | refine cj_skip ?_ | refine cj_block ?_ | refine nj_then ?_))
  refine cj_draw [(0,.pure),(1,.pure),(2,.pure),(3,.quiet),(4,.pure),(5,.pure),(6,.pure),(7,.quiet),(8,.pure)] mixed (by kernel_rfl) (oj_run TT rfl ?_)
  refine oj_idx TT rfl rfl rfl rfl rfl rfl rfl rfl rfl HA (by omega) hra (oj_run TT rfl ?_)
  refine oj_idx TT rfl rfl rfl rfl rfl rfl rfl rfl rfl HB (by omega) hrb (oj_run TT rfl ?_)
  (repeat refine oj_then ?_)
  refine cj_if rfl (fun h => ?_) (fun h => ?_)
  · have h : ¬ x = y := by simpa using h
    (repeat (first | refine cj_seq ?_ | (refine cj_region ?_; refine oj_run TT rfl ?_) | refine oj_then ?_ | refine cj_ret ?_ | refine nj_then_ret ?_ | refine nj_block_ret ?_))
    refine nj_ret TT rfl fun β w' _ _ => ?_
    rw [decide_eq_false (hne h)]
    rfl
  · have h : x = y := by simpa using h
    (repeat (first | (refine cj_region ?_; refine oj_run TT rfl ?_) | refine oj_nil ?_ | refine cj_skip ?_ | refine nj_then ?_ | refine nj_block ?_ | (refine oj_add rfl rfl rfl rfl rfl rfl (by omega) ?_; refine oj_run TT rfl ?_)))
    refine nj_again (k + 1) ⟨hkl, hiff.2 h⟩ (by omega) rfl (by (repeat (first | exact trivial | refine And.intro rfl ?_))) (by (repeat (first | exact trivial | refine And.intro rfl ?_))) rfl (by (repeat' (first | exact trivial | constructor))) (by (repeat' exact trivial))

/-! ### Lines -/

structure GLine where
  id : Int
  ao : Option Addr
  cap : Nat
  st : List ByteArray
  cnt : Int

def lnCells (x : GLine) : List AT := [.v (.int .i64 x.id), .v (.slice x.ao x.st.length x.cap), .v (.int .i64 x.cnt)]
theorem lnCells_lt (n : Nat) (x : GLine) : ∀ c ∈ lnCells x, c.lt n := by simp [lnCells, AT.lt]
def lnRows (l : List GLine) : List (List AT) := l.map lnCells
theorem lnRows_get {l : List GLine} {i : Nat} {x : GLine} (h : l[i]? = some x) : (lnRows l)[i]? = some (lnCells x) := by unfold lnRows; rw [List.getElem?_map, h]; rfl
/-- A line's steps are there. -/
def LnOk (σ : Snap) (x : GLine) : Prop := x.st.length ≤ 140737488355328 ∧ SlAt σ x.ao x.st.length x.cap 1 (strRows x.st)
theorem LnOk.mono {σ σ' : Snap} {x : GLine} (h : LnOk σ x) (hle : σ.le σ') : LnOk σ' x := ⟨h.1, h.2.mono hle⟩

def findG {α : Type} (q : α → Bool) : List α → Nat → Int
  | [], _ => -1
  | x :: l, k => if q x then k else findG q l (k + 1)
theorem findG_bd {α : Type} (q : α → Bool) : ∀ (l : List α) (k : Nat), -1 ≤ findG q l k ∧ findG q l k < (k + l.length : Nat)
  | [], k => by simp only [findG, List.length_nil]; omega
  | x :: l, k => by
    have := findG_bd q l (k + 1)
    simp only [findG, List.length_cons]
    split <;> omega

set_option maxRecDepth 100000 in
set_option maxHeartbeats 1000000 in
theorem IndexFuncL_c (σ : Snap) (xs : List GLine) (hl : xs.length ≤ 140737488355328) (ao : Option Addr) (cap : Nat) (H : SlAt σ ao xs.length cap 3 (lnRows xs)) (f : FuncId) (caps : List PT) (hcap : LtAll (caps.map ptSV))
    (hcall : ∀ args w, (callFunc f args).run Tryd.prog w = .ok (.enter f args) w) (q : GLine → Bool) (hq : ∀ x ∈ xs, PlainS Tryd.prog f (.agg (lnCells x) :: caps.map ptSV) σ (fun v => v = .bool (q x))) (hlt : (SV.a (.fn (.func f) caps)).lt 0) :
    PlainS Tryd.prog 142 [.a (.v (.slice ao xs.length cap)), .a (.fn (.func f) caps)] σ (fun x => x = .int .i64 (findG q xs 0)) := by
  refine enter_p Tryd.func142 rfl rfl ⟨trivial, hlt, trivial⟩ fun w => ?_
  (repeat (first | refine cj_seq ?_ | (refine cj_region ?_; refine oj_run TT rfl ?_) | refine oj_then ?_ | refine cj_block ?_))
  refine cj_loop (fun (_ : Nat) => σ) (fun k => [(0, .a (.v (.slice ao xs.length cap))), (1, .a (.fn (.func f) caps)), (7, .a (.v (.int .i64 xs.length))), (8, .a (.v (.int .i64 k)))]) (fun _ => []) (fun _ => []) 0
    (fun k => k ≤ xs.length ∧ findG q (xs.drop k) k = findG q xs 0) (fun k => xs.length - k) 0 ⟨Nat.zero_le _, rfl⟩ rfl (by (repeat (first | exact trivial | refine And.intro rfl ?_))) (by (repeat (first | exact trivial | refine And.intro rfl ?_))) rfl ⟨trivial, hlt, trivial, trivial, trivial⟩ trivial fun k ⟨hk, hp⟩ => ?_
  (repeat (first | refine cj_seq ?_ | (refine cj_region ?_; refine oj_run TT rfl ?_) | refine oj_then ?_))
  refine cj_if rfl (fun h => ?_) (fun h => ?_)
  rotate_left
  · have hk0 : k = xs.length := by have := of_decide_eq_false h; omega
    subst hk0
    rw [List.drop_length] at hp
    (repeat (first | refine cj_seq ?_ | (refine cj_region ?_; refine oj_run TT rfl ?_) | refine oj_then ?_ | refine cj_exit ?_ | refine cj_ret ?_ | refine nj_then ?_ | refine nj_then_exit ?_ | refine nj_block_out ?_))
    refine nj_ret TT rfl fun β w' _ _ => ?_
    rw [← hp]
    rfl
  have hkl : k < xs.length := by have := of_decide_eq_true h; omega
  have hra := lnRows_get (List.getElem?_eq_getElem hkl)
  have hqx := hq xs[k] (List.getElem_mem hkl)
  rw [List.drop_eq_getElem_cons hkl, findG] at hp
  generalize xs[k] = x at *
  (repeat (first | refine cj_seq ?_ | (refine cj_region ?_; refine oj_run TT rfl ?_) | refine oj_then ?_ | refine cj_skip ?_ | refine cj_block ?_ | refine nj_then ?_))
  refine oj_idx TT rfl rfl rfl rfl rfl rfl rfl rfl rfl H (by omega) hra (oj_run TT rfl ?_)
  refine oj_callP (ys := .agg (lnCells x) :: caps.map ptSV) rfl rfl rfl rfl rfl hcall ⟨lnCells_lt 0 x, hcap⟩ hqx fun v hv => ⟨.a (.b (q x)), trivial, hv.symm, ?_⟩
  refine oj_run TT rfl ?_
  (repeat refine oj_then ?_)
  refine cj_if rfl (fun h => ?_) (fun h => ?_)
  · rw [h] at hp
    (repeat (first | refine cj_seq ?_ | (refine cj_region ?_; refine oj_run TT rfl ?_) | refine oj_then ?_ | refine cj_ret ?_ | refine nj_then_ret ?_ | refine nj_block_ret ?_))
    refine nj_ret TT rfl fun β w' _ _ => ?_
    rw [← hp]
    rfl
  · rw [h] at hp
    (repeat (first | (refine cj_region ?_; refine oj_run TT rfl ?_) | refine oj_nil ?_ | refine cj_skip ?_ | refine nj_then ?_ | refine nj_block ?_ | (refine oj_add rfl rfl rfl rfl rfl rfl (by omega) ?_; refine oj_run TT rfl ?_)))
    refine nj_again (k + 1) ⟨hkl, hp⟩ (by omega) rfl (by (repeat (first | exact trivial | refine And.intro rfl ?_))) (by (repeat (first | exact trivial | refine And.intro rfl ?_))) rfl ⟨trivial, hlt, trivial, trivial, trivial⟩ trivial

set_option maxRecDepth 100000 in
set_option maxHeartbeats 1000000 in
theorem where_c (σ : Snap) (xs : List GLine) (hl : xs.length ≤ 140737488355328) (ao : Option Addr) (cap : Nat) (next : Int) (H : SlAt σ ao xs.length cap 3 (lnRows xs)) (f : FuncId) (caps : List PT) (hcap : LtAll (caps.map ptSV))
    (hcall : ∀ args w, (callFunc f args).run Tryd.prog w = .ok (.enter f args) w) (q : GLine → Bool) (hq : ∀ x ∈ xs, PlainS Tryd.prog f (.agg (lnCells x) :: caps.map ptSV) σ (fun v => v = .bool (q x))) (hlt : (SV.a (.fn (.func f) caps)).lt 0) :
    PlainS Tryd.prog 125 [.agg [.v (.slice ao xs.length cap), .v (.int .i64 next)], .a (.fn (.func f) caps)] σ (fun x => x = .int .i64 (findG q xs 0)) := by
  refine enter_p Tryd.func125 rfl rfl ⟨(by (repeat' (first | exact trivial | refine AllLt.of ?_ | constructor))), hlt, trivial⟩ fun w => ?_
  (repeat (first | refine cj_seq ?_ | (refine cj_region ?_; refine oj_run TT rfl ?_) | refine oj_then ?_))
  refine oj_callP rfl rfl rfl rfl rfl Tryd.call142 ⟨trivial, hlt, trivial⟩ (IndexFuncL_c σ xs hl ao cap H f caps hcap hcall q hq hlt) fun v hv => ⟨.a (.v (.int .i64 (findG q xs 0))), trivial, hv.symm, ?_⟩
  refine oj_run TT rfl ?_
  (repeat (first | refine oj_then ?_ | refine cj_ret ?_))
  refine nj_ret TT rfl fun β w' _ _ => ?_
  rfl

def ptrTo (g : Nat) : PT := .val (.pointer (some ⟨g, 0, none⟩))
theorem fn_lt1 (f : Fn) (g n : Nat) : (SV.a (.fn f [ptrTo g])).lt n := by
  intro x hx
  rw [List.mem_singleton] at hx
  subst hx
  trivial

set_option maxRecDepth 100000 in
set_option maxHeartbeats 1000000 in
theorem line1_c (σ : Snap) (x : GLine) (hx : LnOk σ x) (s : List ByteArray) (so : Option Addr) (sc : Nat) (S : SlAt σ so s.length sc 1 (strRows s)) (g : Nat) (hg : σ.cell ⟨g, 0, none⟩ = some (.slice so s.length sc)) :
    PlainS Tryd.prog 126 (.agg (lnCells x) :: [ptrTo g].map ptSV) σ (fun v => v = .bool (decide (x.st = s))) := by
  refine enter_p Tryd.func126 rfl rfl ⟨lnCells_lt 0 x, trivial, trivial⟩ fun w => ?_
  (repeat (first | refine cj_seq ?_ | (refine cj_region ?_; refine oj_run TT rfl ?_) | refine oj_then ?_))
  refine oj_ldS (c := .v (.slice so s.length sc)) TT rfl rfl rfl rfl rfl rfl rfl rfl hg trivial (oj_run TT rfl ?_)
  refine oj_callP rfl rfl rfl rfl rfl Tryd.call99 (by (repeat' (first | exact trivial | constructor))) (Equal_c σ x.st s hx.1 x.ao so x.cap sc hx.2 S) fun v hv => ⟨.a (.b (decide (x.st = s))), trivial, hv.symm, ?_⟩
  refine oj_run TT rfl ?_
  (repeat (first | refine oj_then ?_ | refine cj_ret ?_))
  refine nj_ret TT rfl fun β w' _ _ => ?_
  rfl

/-- The place of the first line of these steps. -/
def lineG (xs : List GLine) (s : List ByteArray) : Int := findG (fun x => decide (x.st = s)) xs 0

set_option maxRecDepth 100000 in
set_option maxHeartbeats 1000000 in
theorem line_c (σ : Snap) (xs : List GLine) (hl : xs.length ≤ 140737488355328) (ao : Option Addr) (cap : Nat) (next : Int) (H : SlAt σ ao xs.length cap 3 (lnRows xs)) (hx : ∀ x ∈ xs, LnOk σ x)
    (s : List ByteArray) (so : Option Addr) (sc : Nat) (S : SlAt σ so s.length sc 1 (strRows s)) :
    PlainS Tryd.prog 92 [.agg [.v (.slice ao xs.length cap), .v (.int .i64 next)], .a (.v (.slice so s.length sc))] σ (fun v => v = .int .i64 (lineG xs s)) := by
  refine enter_p Tryd.func92 rfl rfl (by (repeat' (first | exact trivial | refine AllLt.of ?_ | constructor))) fun w => ?_
  (repeat (first | refine cj_seq ?_ | (refine cj_region ?_; refine oj_run TT rfl ?_) | refine oj_then ?_))
  refine oj_own 1 1 1 rfl (by (repeat' (first | exact trivial | refine AllLt.of ?_ | constructor))) rfl (by decide) fun g => ?_
  refine oj_seal 0 rfl rfl rfl fun σ1 hle1 hS => ?_
  have hg : σ1.cell ⟨g, 0, none⟩ = some (.slice so s.length sc) := by
    rcases hS with ⟨h, _⟩ | ⟨g', h1, h2⟩
    · cases h
    · obtain rfl : g = g' := by simpa using h1
      exact h2 0 _ rfl
  refine oj_callP rfl rfl rfl rfl rfl Tryd.call125 ⟨(by (repeat' (first | exact trivial | refine AllLt.of ?_ | constructor))), fn_lt1 (.func 126) g 0, trivial⟩ (where_c σ1 xs hl ao cap next (H.mono hle1) 126 [ptrTo g] ⟨trivial, trivial⟩ Tryd.call126 (fun x => decide (x.st = s)) (fun x hm => line1_c σ1 x ((hx x hm).mono hle1) s so sc (S.mono hle1) g hg) (fn_lt1 (.func 126) g 0)) fun v hv => ⟨.a (.v (.int .i64 (lineG xs s))), trivial, hv.symm, ?_⟩
  refine oj_run TT rfl ?_
  (repeat (first | refine oj_then ?_ | refine cj_ret ?_))
  refine nj_ret TT rfl fun β w' _ _ => ?_
  rfl
end Go.Sy
namespace Go.Sy
open Go.Proofs

/-! ### place, Get, step, At -/

set_option maxRecDepth 100000 in
set_option maxHeartbeats 1000000 in
theorem IndexFuncM_c (σ : Snap) (ks : List ByteArray) (rs : List (List AT)) (hkr : ks.length = rs.length) (hr8 : ∀ r ∈ rs, ∀ c ∈ r, c.lt 0) (hl : ks.length ≤ 140737488355328) (ao : Option Addr) (cap : Nat) (H : SlAt σ ao ks.length cap 9 (keyRows ks rs)) (f : FuncId) (caps : List PT) (hcap : LtAll (caps.map ptSV))
    (hcall : ∀ args w, (callFunc f args).run Tryd.prog w = .ok (.enter f args) w) (q : ByteArray → Bool) (hq : ∀ k r, r ∈ rs → PlainS Tryd.prog f (.agg (keyRow k r) :: caps.map ptSV) σ (fun v => v = .bool (q k))) (hlt : (SV.a (.fn (.func f) caps)).lt 0) :
    PlainS Tryd.prog 134 [.a (.v (.slice ao ks.length cap)), .a (.fn (.func f) caps)] σ (fun x => x = .int .i64 (findG q ks 0)) := by
  refine enter_p Tryd.func134 rfl rfl ⟨trivial, hlt, trivial⟩ fun w => ?_
  (repeat (first | refine cj_seq ?_ | (refine cj_region ?_; refine oj_run TT rfl ?_) | refine oj_then ?_ | refine cj_block ?_))
  refine cj_loop (fun (_ : Nat) => σ) (fun k => [(0, .a (.v (.slice ao ks.length cap))), (1, .a (.fn (.func f) caps)), (7, .a (.v (.int .i64 ks.length))), (8, .a (.v (.int .i64 k)))]) (fun _ => []) (fun _ => []) 0
    (fun k => k ≤ ks.length ∧ findG q (ks.drop k) k = findG q ks 0) (fun k => ks.length - k) 0 ⟨Nat.zero_le _, rfl⟩ rfl (by (repeat (first | exact trivial | refine And.intro rfl ?_))) (by (repeat (first | exact trivial | refine And.intro rfl ?_))) rfl ⟨trivial, hlt, trivial, trivial, trivial⟩ trivial fun k ⟨hk, hp⟩ => ?_
  (repeat (first | refine cj_seq ?_ | (refine cj_region ?_; refine oj_run TT rfl ?_) | refine oj_then ?_))
  refine cj_if rfl (fun h => ?_) (fun h => ?_)
  rotate_left
  · have hk0 : k = ks.length := by have := of_decide_eq_false h; omega
    subst hk0
    rw [List.drop_length] at hp
    (repeat (first | refine cj_seq ?_ | (refine cj_region ?_; refine oj_run TT rfl ?_) | refine oj_then ?_ | refine cj_exit ?_ | refine cj_ret ?_ | refine nj_then ?_ | refine nj_then_exit ?_ | refine nj_block_out ?_))
    refine nj_ret TT rfl fun β w' _ _ => ?_
    rw [← hp]
    rfl
  have hkl : k < ks.length := by have := of_decide_eq_true h; omega
  have hkl' : k < rs.length := by omega
  have hra := keyRows_get (List.getElem?_eq_getElem hkl) (List.getElem?_eq_getElem hkl')
  have hqx := hq ks[k] rs[k] (List.getElem_mem hkl')
  have hrlt := hr8 rs[k] (List.getElem_mem hkl')
  have hr9 := H.clo _ (List.mem_of_getElem? hra)
  rw [List.drop_eq_getElem_cons hkl, findG] at hp
  generalize ks[k] = x at *
  generalize rs[k] = r at *
  obtain ⟨hr91, hr92⟩ := hr9
  have hrl : r.length = 8 := by simpa [keyRow] using hr91
  match r, hrl with
  | [c0, c1, c2, c3, c4, c5, c6, c7], _ =>
  (repeat (first | refine cj_seq ?_ | (refine cj_region ?_; refine oj_run TT rfl ?_) | refine oj_then ?_ | refine cj_skip ?_ | refine cj_block ?_ | refine nj_then ?_))
  refine oj_idx TT rfl rfl rfl rfl rfl rfl rfl rfl rfl H (by omega) hra (oj_run TT rfl ?_)
  refine oj_callP (ys := .agg (keyRow x [c0, c1, c2, c3, c4, c5, c6, c7]) :: caps.map ptSV) rfl rfl rfl rfl rfl hcall ⟨hr92, hcap⟩ hqx fun v hv => ⟨.a (.b (q x)), trivial, hv.symm, ?_⟩
  refine oj_run TT rfl ?_
  (repeat refine oj_then ?_)
  refine cj_if rfl (fun h => ?_) (fun h => ?_)
  · rw [h] at hp
    (repeat (first | refine cj_seq ?_ | (refine cj_region ?_; refine oj_run TT rfl ?_) | refine oj_then ?_ | refine cj_ret ?_ | refine nj_then_ret ?_ | refine nj_block_ret ?_))
    refine nj_ret TT rfl fun β w' _ _ => ?_
    rw [← hp]
    rfl
  · rw [h] at hp
    (repeat (first | (refine cj_region ?_; refine oj_run TT rfl ?_) | refine oj_nil ?_ | refine cj_skip ?_ | refine nj_then ?_ | refine nj_block ?_ | (refine oj_add rfl rfl rfl rfl rfl rfl (by omega) ?_; refine oj_run TT rfl ?_)))
    refine nj_again (k + 1) ⟨hkl, hp⟩ (by omega) rfl (by (repeat (first | exact trivial | refine And.intro rfl ?_))) (by (repeat (first | exact trivial | refine And.intro rfl ?_))) rfl ⟨trivial, hlt, trivial, trivial, trivial⟩ trivial

set_option maxRecDepth 100000 in
set_option maxHeartbeats 1000000 in
theorem place1_c (σ : Snap) (k : ByteArray) (r : List AT) (hr : r.length = 8) (hlt : ∀ c ∈ r, c.lt 0) (hone : r.all AT.one = true) (key : ByteArray) (g : Nat) (hg : σ.cell ⟨g, 0, none⟩ = some (.string key)) :
    PlainS Tryd.prog 135 (.agg (keyRow k r) :: [ptrTo g].map ptSV) σ (fun v => v = .bool (decide (k = key))) := by
  match r, hr with
  | [c0, c1, c2, c3, c4, c5, c6, c7], _ =>
  refine enter_p Tryd.func135 rfl rfl ⟨fun c hc => (by cases hc with | head => trivial | tail _ h => exact hlt c h), trivial, trivial⟩ fun w => ?_
  (repeat (first | refine cj_seq ?_ | (refine cj_region ?_; refine oj_run TT rfl ?_) | refine oj_then ?_))
  refine oj_ldS (c := .v (.string key)) TT rfl rfl rfl rfl rfl rfl rfl rfl hg trivial (oj_run TT rfl ?_)
  (repeat (first | refine oj_then ?_ | refine cj_ret ?_))
  refine nj_ret TT rfl fun β w' _ _ => ?_
  rfl

def placeM (ks : List ByteArray) (key : ByteArray) : Int := findG (fun k => decide (k = key)) ks 0

set_option maxRecDepth 100000 in
set_option maxHeartbeats 1000000 in
theorem placeM_c (σ : Snap) (ks : List ByteArray) (gs : List GVal) (rs : List (List AT)) (hkg : ks.length = gs.length) (R : RepL σ gs rs) (hl : ks.length ≤ 140737488355328) (ao : Option Addr) (cap : Nat) (H : SlAt σ ao ks.length cap 9 (keyRows ks rs)) (key : ByteArray) :
    PlainS Tryd.prog 114 [.a (.v (.slice ao ks.length cap)), .a (.v (.string key))] σ (fun v => v = .int .i64 (placeM ks key)) := by
  refine enter_p Tryd.func114 rfl rfl (by (repeat' (first | exact trivial | constructor))) fun w => ?_
  (repeat (first | refine cj_seq ?_ | (refine cj_region ?_; refine oj_run TT rfl ?_) | refine oj_then ?_))
  refine oj_own 0 1 1 rfl (by (repeat' (first | exact trivial | refine AllLt.of ?_ | constructor))) rfl (by decide) fun g => ?_
  refine oj_seal 0 rfl rfl rfl fun σ1 hle1 hS => ?_
  have hg : σ1.cell ⟨g, 0, none⟩ = some (.string key) := by
    rcases hS with ⟨h, _⟩ | ⟨g', h1, h2⟩
    · cases h
    · obtain rfl : g = g' := by simpa using h1
      exact h2 0 _ rfl
  have hall : ∀ r ∈ rs, r.length = 8 ∧ (∀ c ∈ r, c.lt 0) ∧ r.all AT.one = true := fun r hr => R.rows r hr
  refine oj_callP rfl rfl rfl rfl rfl Tryd.call134 ⟨trivial, fn_lt1 (.func 135) g 0, trivial⟩ (IndexFuncM_c σ1 ks rs (by rw [hkg, R.len]) (fun r hr => (hall r hr).2.1) hl ao cap (H.mono hle1) 135 [ptrTo g] ⟨trivial, trivial⟩ Tryd.call135 (fun k => decide (k = key)) (fun k r hr => place1_c σ1 k r (hall r hr).1 (hall r hr).2.1 (hall r hr).2.2 key g hg) (fn_lt1 (.func 135) g 0)) fun v hv => ⟨.a (.v (.int .i64 (placeM ks key))), trivial, hv.symm, ?_⟩
  refine oj_run TT rfl ?_
  (repeat (first | refine oj_then ?_ | refine cj_ret ?_))
  refine nj_ret TT rfl fun β w' _ _ => ?_
  rfl

def nullV : GVal := .mk 0 false dec0 emptyS [] [] []
theorem nullV_rep (σ : Snap) : RepV σ nullV (vCells nullV none 0 none 0) := by
  simp only [nullV, RepV]
  exact ⟨none, 0, [], none, 0, [], rfl, SlAt.nil _ _ _ _, rfl, rfl, SlAt.nil _ _ _ _, rfl, by decide, by decide, by decide, by decide, fun k h => (by cases h)⟩
/-- A value that may be, and whether it is. -/
def OptV (σ : Snap) (o : Option GVal) (v : Value) : Prop := ∃ r, v = .tuple #[.agg (r.map (AT.den β0)).toArray, .bool o.isSome] ∧ RepV σ (o.getD nullV) r

def getG (g : GVal) (key : ByteArray) : Option GVal := if g.kind = 5 then (if placeM g.ks key < 0 then none else g.vs[(placeM g.ks key).toNat]?) else none

set_option maxRecDepth 100000 in
set_option maxHeartbeats 1000000 in
theorem Get_c (σ : Snap) (g : GVal) (la : Option Addr) (lc : Nat) (lrows : List (List AT)) (ma : Option Addr) (mc : Nat) (vrows : List (List AT)) (V : VAt σ g la lc lrows ma mc vrows) (key : ByteArray) :
    PlainS Tryd.prog 124 [.agg (vCells g la lc ma mc), .a (.v (.string key))] σ (OptV σ (getG g key)) := by
  have hkl := V.kl
  simp only [mostLen] at hkl
  have hbd : -1 ≤ placeM g.ks key ∧ placeM g.ks key < g.ks.length := by
    have := findG_bd (fun k => decide (k = key)) g.ks 0
    unfold placeM
    omega
  have hgd : getG g key = if g.kind = 5 then (if placeM g.ks key < 0 then none else g.vs[(placeM g.ks key).toNat]?) else none := rfl
  refine enter_p Tryd.func124 rfl rfl (by (repeat' (first | exact trivial | exact vCells_lt _ _ _ _ _ _ | constructor))) fun w => ?_
  (repeat (first | refine cj_seq ?_ | (refine cj_region ?_; refine oj_run TT rfl ?_) | refine oj_then ?_))
  refine oj_callP rfl rfl rfl rfl rfl Tryd.call114 (by (repeat' (first | exact trivial | constructor))) (placeM_c σ g.ks g.vs vrows V.kv V.v (by omega) ma mc V.M key) fun v hv => ⟨.a (.v (.int .i64 (placeM g.ks key))), trivial, hv.symm, ?_⟩
  refine oj_run TT rfl ?_
  (repeat (first | refine cj_seq ?_ | (refine cj_region ?_; refine oj_run TT rfl ?_) | refine oj_then ?_))
  refine oj_split 14 rfl (fun h => ?_) (fun h => ?_)
  · have h : ¬ g.kind = 5 := by simpa using (show (!decide (g.kind = 5)) = true from h)
    rw [if_neg h] at hgd
    refine oj_run TT rfl ?_
    (repeat (first | refine cj_seq ?_ | (refine cj_region ?_; refine oj_run TT rfl ?_) | refine oj_then ?_ | refine cj_if_t rfl ?_ | refine cj_ret ?_ | refine nj_then_ret ?_))
    refine nj_ret TT rfl fun β w' _ _ => ?_
    rw [hgd]
    exact ⟨vCells nullV none 0 none 0, rfl, nullV_rep σ⟩
  have h : g.kind = 5 := by simpa using (show (!decide (g.kind = 5)) = false from h)
  rw [if_pos h] at hgd
  refine oj_run TT rfl ?_
  (repeat refine oj_then ?_)
  refine cj_if rfl (fun h => ?_) (fun h => ?_)
  · rw [if_pos (of_decide_eq_true h)] at hgd
    (repeat (first | refine cj_seq ?_ | (refine cj_region ?_; refine oj_run TT rfl ?_) | refine oj_then ?_ | refine cj_ret ?_ | refine nj_then_ret ?_))
    refine nj_ret TT rfl fun β w' _ _ => ?_
    rw [hgd]
    exact ⟨vCells nullV none 0 none 0, rfl, nullV_rep σ⟩
  have h := of_decide_eq_false h
  rw [if_neg h] at hgd
  obtain ⟨j, hj⟩ : ∃ j : Nat, placeM g.ks key = j := ⟨(placeM g.ks key).toNat, by omega⟩
  rw [hj] at hgd ⊢
  rw [Int.toNat_natCast] at hgd
  have hjk : j < g.ks.length := by omega
  have hjv : j < g.vs.length := by rw [← V.kv]; exact hjk
  obtain ⟨r, hr, hrep⟩ := V.v.get (List.getElem?_eq_getElem hjv)
  have hrow := keyRows_get (List.getElem?_eq_getElem hjk) hr
  rw [List.getElem?_eq_getElem hjv] at hgd
  generalize g.vs[j] = x at *
  generalize g.ks[j] = kk at *
  obtain ⟨la', lc', lrows', ma', mc', vrows', rfl, V'⟩ := hrep.open
  (repeat (first | refine cj_seq ?_ | (refine cj_region ?_; refine oj_run TT rfl ?_) | refine cj_skip ?_ | refine nj_then ?_))
  refine oj_idx TT rfl rfl rfl rfl rfl rfl rfl rfl rfl V.M (by omega) hrow (oj_run TT rfl ?_)
  (repeat (first | refine oj_then ?_ | refine cj_ret ?_))
  refine nj_ret TT rfl fun β w' _ _ => ?_
  rw [hgd]
  exact ⟨vCells x la' lc' ma' mc', rfl, V'.rep⟩

def stepV (g : GVal) (s : GStep) : Option GVal := if s.named then getG g s.key else if g.kind = 4 then (if s.at_ < 0 then none else if s.at_ < g.l.length then g.l[s.at_.toNat]? else none) else none

set_option maxRecDepth 100000 in
set_option maxHeartbeats 1000000 in
theorem step_c (σ : Snap) (g : GVal) (la : Option Addr) (lc : Nat) (lrows : List (List AT)) (ma : Option Addr) (mc : Nat) (vrows : List (List AT)) (V : VAt σ g la lc lrows ma mc vrows) (s : GStep) :
    PlainS Tryd.prog 90 [.agg (vCells g la lc ma mc), .agg (stepCells s)] σ (OptV σ (stepV g s)) := by
  have hgd : stepV g s = if s.named then getG g s.key else if g.kind = 4 then (if s.at_ < 0 then none else if s.at_ < g.l.length then g.l[s.at_.toNat]? else none) else none := rfl
  refine enter_p Tryd.func90 rfl rfl ⟨vCells_lt _ _ _ _ _ _, (by unfold stepCells; (repeat' (first | exact trivial | refine AllLt.of ?_ | constructor))), trivial⟩ fun w => ?_
  (repeat (first | refine cj_seq ?_ | (refine cj_region ?_; refine oj_run TT rfl ?_) | refine oj_then ?_ | refine cj_block ?_))
  refine cj_if rfl (fun h => ?_) (fun h => ?_)
  · rw [if_pos h] at hgd
    (repeat (first | refine cj_seq ?_ | (refine cj_region ?_; refine oj_run TT rfl ?_)))
    refine oj_callP rfl rfl rfl rfl rfl Tryd.call124 (by (repeat' (first | exact trivial | exact vCells_lt _ _ _ _ _ _ | constructor))) (Get_c σ g la lc lrows ma mc vrows V s.key) fun v ⟨r, hv, hr⟩ => ?_
    obtain ⟨la', lc', lrows', ma', mc', vrows', rfl, V'⟩ := hr.open
    refine ⟨.tup [.agg (vCells ((getG g s.key).getD nullV) la' lc' ma' mc'), .a (.b (getG g s.key).isSome)], (by (repeat' (first | exact trivial | exact vCells_lt _ _ _ _ _ _ | refine SV.lt_tup ?_ | constructor))), hv.symm, ?_⟩
    refine oj_run TT rfl ?_
    (repeat (first | refine oj_then ?_ | refine cj_ret ?_ | refine nj_then_ret ?_ | refine nj_block_ret ?_))
    refine nj_ret TT rfl fun β w' _ _ => ?_
    rw [hgd]
    exact ⟨vCells ((getG g s.key).getD nullV) la' lc' ma' mc', rfl, V'.rep⟩
  rw [h, if_neg (by simp)] at hgd
  (repeat (first | refine cj_seq ?_ | (refine cj_region ?_; refine oj_run TT rfl ?_)))
  refine oj_split 19 rfl (fun h1 => ?_) (fun h1 => ?_)
  · have h1 : ¬ g.kind = 4 := by simpa using (show (!decide (g.kind = 4)) = true from h1)
    rw [if_neg h1] at hgd
    refine oj_run TT rfl ?_
    (repeat (first | refine cj_seq ?_ | (refine cj_region ?_; refine oj_run TT rfl ?_) | refine oj_then ?_ | refine cj_if_t rfl ?_ | refine cj_ret ?_ | refine nj_then_ret ?_ | refine nj_block_ret ?_))
    refine nj_ret TT rfl fun β w' _ _ => ?_
    rw [hgd]
    exact ⟨vCells nullV none 0 none 0, rfl, nullV_rep σ⟩
  have h1 : g.kind = 4 := by simpa using (show (!decide (g.kind = 4)) = false from h1)
  rw [if_pos h1] at hgd
  refine oj_run TT rfl ?_
  refine oj_split 24 rfl (fun h2 => ?_) (fun h2 => ?_)
  · have h2 : decide (s.at_ < 0) = true := h2
    rw [if_pos (of_decide_eq_true h2)] at hgd
    refine oj_run TT rfl ?_
    (repeat (first | refine cj_seq ?_ | (refine cj_region ?_; refine oj_run TT rfl ?_) | refine oj_then ?_ | refine cj_if_t rfl ?_ | refine cj_ret ?_ | refine nj_then_ret ?_ | refine nj_block_ret ?_))
    refine nj_ret TT rfl fun β w' _ _ => ?_
    rw [hgd]
    exact ⟨vCells nullV none 0 none 0, rfl, nullV_rep σ⟩
  have h2 : decide (s.at_ < 0) = false := h2
  have h2 := of_decide_eq_false h2
  rw [if_neg h2] at hgd
  refine oj_run TT rfl ?_
  (repeat refine oj_then ?_)
  refine cj_if rfl (fun h3 => ?_) (fun h3 => ?_)
  · have h3 := of_decide_eq_true h3
    rw [if_neg (by omega)] at hgd
    (repeat (first | refine cj_seq ?_ | (refine cj_region ?_; refine oj_run TT rfl ?_) | refine oj_then ?_ | refine cj_ret ?_ | refine nj_then_ret ?_ | refine nj_block_ret ?_))
    refine nj_ret TT rfl fun β w' _ _ => ?_
    rw [hgd]
    exact ⟨vCells nullV none 0 none 0, rfl, nullV_rep σ⟩
  have h3 := of_decide_eq_false h3
  rw [if_pos (by omega)] at hgd
  obtain ⟨j, hj⟩ : ∃ j : Nat, s.at_ = j := ⟨s.at_.toNat, by omega⟩
  rw [hj] at hgd ⊢
  rw [Int.toNat_natCast] at hgd
  have hjl : j < g.l.length := by omega
  obtain ⟨r, hr, hrep⟩ := V.l.get (List.getElem?_eq_getElem hjl)
  rw [List.getElem?_eq_getElem hjl] at hgd
  generalize g.l[j] = x at *
  obtain ⟨la', lc', lrows', ma', mc', vrows', rfl, V'⟩ := hrep.open
  (repeat (first | refine cj_seq ?_ | (refine cj_region ?_; refine oj_run TT rfl ?_) | refine cj_skip ?_ | refine nj_then ?_ | refine nj_block ?_))
  refine oj_idx TT rfl rfl rfl rfl rfl rfl rfl rfl rfl V.L (by omega) hr (oj_run TT rfl ?_)
  (repeat (first | refine oj_then ?_ | refine cj_ret ?_))
  refine nj_ret TT rfl fun β w' _ _ => ?_
  rw [hgd]
  exact ⟨vCells x la' lc' ma' mc', rfl, V'.rep⟩

def atV : GVal → List GStep → Option GVal
  | g, [] => some g
  | g, s :: l => (stepV g s).bind fun x => atV x l

def zV : List AT := [.v (.int .i64 0), .ff, .ff, .v (.string ⟨#[]⟩), .v (.int .i64 0), .v (.string ⟨#[]⟩), .v (.slice none 0 0), .v (.slice none 0 0)]
structure AtS where
  k : Nat
  ok : Bool
  g : GVal
  la : Option Addr
  lc : Nat
  ma : Option Addr
  mc : Nat

set_option maxRecDepth 100000 in
set_option maxHeartbeats 1000000 in
theorem At_c (σ : Snap) (g : GVal) (la : Option Addr) (lc : Nat) (lrows : List (List AT)) (ma : Option Addr) (mc : Nat) (vrows : List (List AT)) (V : VAt σ g la lc lrows ma mc vrows) (l : List GStep) (hl : l.length ≤ 1000000) (so : Option Addr) (sc : Nat) (S : SlAt σ so l.length sc 3 (stepRows l)) :
    PlainS Tryd.prog 45 [.agg (vCells g la lc ma mc), .a (.v (.slice so l.length sc))] σ (OptV σ (atV g l)) := by
  refine enter_p Tryd.func45 rfl rfl (by (repeat' (first | exact trivial | exact vCells_lt _ _ _ _ _ _ | constructor))) fun w => ?_
  (repeat (first | refine cj_seq ?_ | (refine cj_region ?_; refine oj_run TT rfl ?_) | refine oj_then ?_ | refine cj_block ?_))
  refine cj_set 6 (.a (.b true)) rfl trivial (fun β => rfl) ?_
  refine cj_loop (fun (_ : AtS) => σ) (fun t => [(1, .a (.v (.slice so l.length sc))), (2, .a (.p 0 0)), (4, .a (.p 1 0)), (6, .a (.b t.ok)), (7, .a (.v (.int .i64 (t.k : Nat))))]) (fun t => [(0, .loc 27, vCells t.g t.la t.lc t.ma t.mc), (1, .loc 27, zV)]) (fun _ => []) 2
    (fun t => t.k ≤ l.length ∧ (∃ lr vr, VAt σ t.g t.la t.lc lr t.ma t.mc vr) ∧ (if t.ok then atV t.g (l.drop t.k) = atV g l else t.g = nullV ∧ atV g l = none)) (fun t => l.length - t.k) ⟨0, true, g, la, lc, ma, mc⟩ ⟨Nat.zero_le _, ⟨_, _, V⟩, rfl⟩ rfl (by (repeat (first | exact trivial | refine And.intro rfl ?_))) (by (repeat (first | exact trivial | refine And.intro rfl ?_))) rfl (by (repeat' (first | exact trivial | exact Nat.le_of_ble_eq_true rfl | constructor))) (by (repeat' (first | exact trivial | exact Nat.le_of_ble_eq_true rfl | exact vCells_lt _ _ _ _ _ _ | refine AllLt.of ?_ | constructor))) fun ⟨k, ok, g', la', lc', ma', mc'⟩ ⟨hk, ⟨lr, vr, V'⟩, hp⟩ => ?_
  dsimp only at hk V' hp ⊢
  have hend : (k = l.length ∨ ok = false) → OptV σ (atV g l) (.tuple #[.agg ((vCells g' la' lc' ma' mc').map (AT.den β0)).toArray, .bool ok]) := by
    intro h
    cases ok with
    | true =>
      have hk0 : k = l.length := by simpa using h
      rw [if_pos rfl, hk0, List.drop_length, atV] at hp
      rw [← hp]
      exact ⟨_, rfl, V'.rep⟩
    | false =>
      rw [if_neg (by simp)] at hp
      rw [hp.2]
      refine ⟨_, rfl, ?_⟩
      have := V'.rep
      rw [hp.1] at this ⊢
      exact this
  (repeat (first | refine cj_seq ?_ | (refine cj_region ?_; refine oj_run TT rfl ?_)))
  refine oj_split 12 rfl (fun h => ?_) (fun h => ?_)
  rotate_left
  · have hk0 : k = l.length := by have := of_decide_eq_false (show decide ((k : Int) < l.length) = false from h); omega
    refine oj_run TT rfl ?_
    (repeat (first | refine cj_seq ?_ | (refine cj_region ?_; refine oj_run TT rfl ?_) | refine oj_then ?_ | refine cj_if_f rfl ?_ | refine cj_exit ?_ | refine cj_ret ?_ | refine nj_then ?_ | refine nj_then_exit ?_ | refine nj_block_out ?_))
    refine nj_ret TT rfl fun β w' _ _ => ?_
    exact hend (.inl hk0)
  have hkl : k < l.length := by have := of_decide_eq_true (show decide ((k : Int) < l.length) = true from h); omega
  refine oj_run TT rfl ?_
  (repeat refine oj_then ?_)
  refine cj_if rfl (fun h => ?_) (fun h => ?_)
  rotate_left
  · (repeat (first | refine cj_seq ?_ | (refine cj_region ?_; refine oj_run TT rfl ?_) | refine oj_then ?_ | refine cj_exit ?_ | refine cj_ret ?_ | refine nj_then ?_ | refine nj_then_exit ?_ | refine nj_block_out ?_))
    refine nj_ret TT rfl fun β w' _ _ => ?_
    exact hend (.inr h)
  have hrow := stepRows_get (List.getElem?_eq_getElem hkl)
  rw [if_pos h, List.drop_eq_getElem_cons hkl, atV] at hp
  generalize l[k] = s at *
  clear hend
  (repeat (first | refine cj_seq ?_ | refine cj_skip ?_ | refine cj_block ?_ | refine nj_then ?_))
  refine cj_draw [(0,.quiet),(1,.pure),(2,.pure),(3,.pure),(4,.quiet),(5,.keep),(6,.pure),(7,.pure),(8,.pure),(9,.sink),(10,.pure)] mixed (by kernel_rfl) (oj_run TT rfl ?_)
  refine oj_idx TT rfl rfl rfl rfl rfl rfl rfl rfl rfl S (by omega) hrow (oj_run TT rfl ?_)
  refine oj_callP rfl rfl rfl rfl rfl Tryd.call90 (by (repeat' (first | exact trivial | exact vCells_lt _ _ _ _ _ _ | refine AllLt.of ?_ | constructor))) (step_c σ g' la' lc' lr ma' mc' vr V' s) fun v ⟨r, hv, hr⟩ => ?_
  obtain ⟨la2, lc2, lr2, ma2, mc2, vr2, rfl, V2⟩ := hr.open
  refine ⟨.tup [.agg (vCells ((stepV g' s).getD nullV) la2 lc2 ma2 mc2), .a (.b (stepV g' s).isSome)], (by (repeat' (first | exact trivial | exact vCells_lt _ _ _ _ _ _ | refine SV.lt_tup ?_ | constructor))), hv.symm, ?_⟩
  refine oj_run TT rfl ?_
  (repeat (first | (refine cj_region ?_; refine oj_run TT rfl ?_) | refine oj_nil ?_ | refine nj_then ?_ | refine nj_block ?_ | (refine oj_add rfl rfl rfl rfl rfl rfl (by omega) ?_; refine oj_run TT rfl ?_)))
  refine nj_again (⟨k + 1, (stepV g' s).isSome, (stepV g' s).getD nullV, la2, lc2, ma2, mc2⟩ : AtS) ⟨hkl, ⟨_, _, V2⟩, ?_⟩ (by dsimp only; omega) rfl (by (repeat (first | exact trivial | refine And.intro rfl ?_))) (by (repeat (first | exact trivial | refine And.intro rfl ?_))) rfl (by (repeat' (first | exact trivial | exact Nat.le_of_ble_eq_true rfl | constructor))) (by (repeat' (first | exact trivial | exact Nat.le_of_ble_eq_true rfl | exact vCells_lt _ _ _ _ _ _ | refine AllLt.of ?_ | constructor)))
  dsimp only
  cases hst : stepV g' s with
  | none =>
    rw [hst, Option.bind_none] at hp
    exact ⟨rfl, hp.symm⟩
  | some x =>
    rw [hst, Option.bind_some] at hp
    exact hp
end Go.Sy
/- Scopes that nobody jumps in. No program in sight. -/
namespace Go.Sy
section
variable {cf : Cf} {Q : Exit → Act → World → Prop} {σ : Snap} {env : Env} {hp : HP} {A : List AE} {nh : Nat}
theorem cj_scope {c : Code} (hrd : cf.rd = none) (h : CJ cf c (Exit.noGoto Q) σ env hp A nh) : CJ cf (.scope c) Q σ env hp A nh := by
  refine ⟨fun hb a β w ha hw => ?_⟩
  have := h.run hb a β w ha hw
  rw [hrd] at this ⊢
  exact (wpIn_wide (n := 0)).2 (wp_scope_straight (wpR_none this))
theorem nj_ng_n (h : NJ cf .normal Q σ env hp A nh) : NJ cf .normal (Exit.noGoto Q) σ env hp A nh := ⟨h.run⟩
theorem nj_ng_ret (h : NJ cf .ret Q σ env hp A nh) : NJ cf .ret (Exit.noGoto Q) σ env hp A nh := ⟨h.run⟩
theorem nj_ng_exit {id : Nat} (h : NJ cf (.exit id) Q σ env hp A nh) : NJ cf (.exit id) (Exit.noGoto Q) σ env hp A nh := ⟨h.run⟩
end
end Go.Sy
namespace Go.Sy
open Go.Proofs

/-! ### Last -/

def lastG (L : List GRec) (i : Nat) : Int := (runK L ((L[i]?.map GRec.en).getD 0) (i + 1) : Nat) - 1

set_option maxRecDepth 100000 in
set_option maxHeartbeats 1000000 in
theorem Last_c (σ : Snap) (L : List GRec) (R : RecsOk L) (ao : Option Addr) (cap : Nat) (H : SlAt σ ao L.length cap 11 (recRows L)) (i : Nat) (hi : i < L.length) (hs : soundG L = true) :
    PlainS Tryd.prog 40 [.a (.v (.slice ao L.length cap)), .a (.v (.int .i64 i))] σ (fun v => v = .int .i64 (lastG L i)) := by
  have hat : atG L i = true := by
    unfold atG
    rw [hs]
    simp
    omega
  have hlg : lastG L i = (runK L L[i].en (i + 1) : Nat) - 1 := by unfold lastG; rw [List.getElem?_eq_getElem hi]; rfl
  rw [hlg]
  refine enter_p Tryd.func40 rfl rfl (by (repeat' (first | exact trivial | constructor))) fun w => ?_
  (repeat (first | refine cj_seq ?_ | (refine cj_region ?_; refine oj_run TT rfl ?_) | refine oj_then ?_))
  refine oj_callP rfl rfl rfl rfl rfl Tryd.call76 (by (repeat' (first | exact trivial | constructor))) (at_c σ L R ao cap H i) fun v hv => ⟨.a .tt, trivial, by rw [hv, hat]; rfl, ?_⟩
  refine oj_run TT rfl ?_
  (repeat (first | refine cj_seq ?_ | (refine cj_region ?_; refine oj_run TT rfl ?_) | refine oj_then ?_ | refine cj_if_f rfl ?_ | refine cj_skip ?_ | refine nj_then ?_))
  refine oj_callP rfl rfl rfl rfl rfl Tryd.call88 (by (repeat' (first | exact trivial | constructor))) (last_c σ L R.len ao cap H i hi) fun v hv => ⟨.a (.v (.int .i64 ((runK L L[i].en (i + 1) : Nat) - 1))), trivial, hv.symm, ?_⟩
  refine oj_run TT rfl ?_
  (repeat (first | refine oj_then ?_ | refine cj_ret ?_))
  refine nj_ret TT rfl fun β w' _ _ => ?_
  rfl

/-! ### Find -/

/-- Is the n-th kid, record r, what a step asks for? -/
def fitsR (s : GStep) (n : Nat) (r : GRec) : Bool := (s.named && r.nm && decide (r.name = s.key)) || (!s.named && !r.nm && decide ((n : Int) = s.at_))
/-- The first of the kids from n on that is asked for. -/
def firstR (L : List GRec) (s : GStep) : List Nat → Nat → Option Nat
  | [], _ => none
  | k :: ks, n => match L[k]? with
    | some r => if fitsR s n r then some k else firstR L s ks (n + 1)
    | none => none
def findR (L : List GRec) : Nat → List GStep → Int
  | i, [] => i
  | i, s :: l => match firstR L s (kidsG L i) 0 with
    | some k => findR L k l
    | none => -1
theorem firstR_mem {L : List GRec} {s : GStep} : ∀ {ks : List Nat} {n k : Nat}, firstR L s ks n = some k → k < L.length
  | x :: ks, n, k, h => by
    unfold firstR at h
    cases hx : L[x]? with
    | none => rw [hx] at h; cases h
    | some r =>
      rw [hx] at h
      dsimp only at h
      split at h
      · obtain rfl := Option.some.inj h
        exact (List.getElem?_eq_some_iff.1 hx).1
      · exact firstR_mem h

theorem kidsF_lt (L : List GRec) (en : Int) : ∀ n k, ∀ m ∈ kidsF L en n k, m < L.length
  | 0, _, m, h => by simp [kidsF] at h
  | n + 1, k, m, h => by
    unfold kidsF at h
    split at h
    · rename_i hk
      split at h
      · cases h with
        | head => exact hk
        | tail _ h => exact kidsF_lt L en n _ m h
      · cases h
    · cases h

set_option maxRecDepth 100000 in
set_option maxHeartbeats 1000000 in
theorem Find_c (σ : Snap) (L : List GRec) (R : RecsOk L) (ao : Option Addr) (cap : Nat) (H : SlAt σ ao L.length cap 11 (recRows L)) (hs : soundG L = true) (hL : L.length ≤ 100000) (hpos : 0 < L.length) (l : List GStep) (hl : l.length ≤ 1000000) (so : Option Addr) (sc : Nat) (S : SlAt σ so l.length sc 3 (stepRows l)) :
    PlainS Tryd.prog 43 [.a (.v (.slice ao L.length cap)), .a (.v (.slice so l.length sc))] σ (fun v => v = .int .i64 (findR L 0 l)) := by
  refine enter_p Tryd.func43 rfl rfl (by (repeat' (first | exact trivial | constructor))) fun w => ?_
  (repeat (first | refine cj_seq ?_ | (refine cj_region ?_; refine oj_run TT rfl ?_) | refine oj_then ?_ | refine cj_scope rfl ?_))
  refine oj_callP rfl rfl rfl rfl rfl Tryd.call24 (by (repeat' (first | exact trivial | constructor))) (Sound_c σ L R.len R.fit R.bw ao cap H) fun v hv => ⟨.a .tt, trivial, by rw [hv, hs]; rfl, ?_⟩
  refine oj_run TT rfl ?_
  (repeat (first | refine cj_seq ?_ | (refine cj_region ?_; refine oj_run TT rfl ?_) | refine oj_then ?_ | refine cj_if_f rfl ?_ | refine cj_skip ?_ | refine cj_block ?_ | refine nj_then ?_ | refine cj_label ?_))
  refine cj_loop2 (fun (s : Snap) (_ : Nat × Nat) => s) (fun _ t => [(0, .a (.v (.slice ao L.length cap))), (1, .a (.v (.slice so l.length sc))), (5, .a (.v (.int .i64 (t.2 : Nat)))), (13, .a (.v (.slice so l.length sc))), (14, .a (.v (.int .i64 l.length))), (15, .a (.v (.int .i64 (t.1 : Nat))))]) (fun _ _ => []) (fun _ _ => []) 0
    (fun s t => σ.le s ∧ t.1 ≤ l.length ∧ t.2 < L.length ∧ findR L t.2 (l.drop t.1) = findR L 0 l) (fun _ t => l.length - t.1) σ (0, 0) ⟨Snap.le_refl _, Nat.zero_le _, hpos, rfl⟩ rfl (by (repeat (first | exact trivial | refine And.intro rfl ?_))) (by (repeat (first | exact trivial | refine And.intro rfl ?_))) rfl (by (repeat' (first | exact trivial | constructor))) (by (repeat' exact trivial)) fun s ⟨k, i⟩ ⟨hle, hk, hi, hp⟩ => ?_
  dsimp only at hk hi hp ⊢
  (repeat (first | refine cj_seq ?_ | (refine cj_region ?_; refine oj_run TT rfl ?_) | refine oj_then ?_))
  refine cj_if rfl (fun h => ?_) (fun h => ?_)
  rotate_left
  · have hk0 : k = l.length := by have := of_decide_eq_false h; omega
    rw [hk0, List.drop_length, findR] at hp
    (repeat (first | refine cj_seq ?_ | (refine cj_region ?_; refine oj_run TT rfl ?_) | refine oj_then ?_ | refine cj_exit ?_ | refine cj_ret ?_ | refine nj_then ?_ | refine nj_then_exit ?_ | refine nj_block_out ?_ | refine nj_ng_ret ?_))
    refine nj_ret TT rfl fun β w' _ _ => ?_
    rw [← hp]
    rfl
  have hkl : k < l.length := by have := of_decide_eq_true h; omega
  have H := H.mono hle
  have S := S.mono hle
  have hrow := stepRows_get (List.getElem?_eq_getElem hkl)
  rw [List.drop_eq_getElem_cons hkl, findR] at hp
  generalize l[k] = st at *
  (repeat (first | refine cj_seq ?_ | (refine cj_region ?_; refine oj_run TT rfl ?_) | refine cj_skip ?_ | refine cj_block ?_ | refine nj_then ?_))
  refine oj_idx TT rfl rfl rfl rfl rfl rfl rfl rfl rfl S (by omega) hrow (oj_run TT rfl ?_)
  (repeat (first | refine cj_seq ?_ | (refine cj_region ?_; refine oj_run TT rfl ?_) | refine oj_then ?_))
  refine oj_callS rfl rfl rfl rfl rfl Tryd.call77 ⟨trivial, trivial, trivial⟩ (kids_c s L hL ao cap H i hi) fun v σ1 hle1 ⟨oo, oc, hv, HK⟩ => ⟨.a (.v (.slice oo (kidsG L i).length oc)), trivial, hv.symm, ?_⟩
  have H := H.mono hle1
  have hklt : ∀ m ∈ kidsG L i, m < L.length := fun m hm => kidsF_lt L _ _ _ m hm
  have hklen : (kidsG L i).length ≤ L.length := by
    unfold kidsG
    exact Nat.le_trans (kidsF_len L _ L.length (i + 1)) (Nat.sub_le _ _)
  generalize kidsG L i = ks at *
  refine oj_run TT rfl ?_
  (repeat (first | refine oj_then ?_ | refine cj_block ?_))
  refine cj_loop (fun (_ : Nat) => σ1) (fun n => [(0, .a (.v (.slice ao L.length cap))), (1, .a (.v (.slice so l.length sc))), (7, .a (.p 1 0)), (13, .a (.v (.slice so l.length sc))), (14, .a (.v (.int .i64 l.length))), (15, .a (.v (.int .i64 (k : Nat)))), (21, .a (.v (.slice oo ks.length oc))), (22, .a (.v (.int .i64 ks.length))), (23, .a (.v (.int .i64 (n : Nat))))])
    (fun _ => [(1, .loc 129, stepCells st)]) (fun _ => []) 2 (fun n => n ≤ ks.length ∧ firstR L st (ks.drop n) n = firstR L st ks 0) (fun n => ks.length - n) 0 ⟨Nat.zero_le _, rfl⟩ rfl (by (repeat (first | exact trivial | refine And.intro rfl ?_))) (by (repeat (first | exact trivial | refine And.intro rfl ?_))) rfl (by (repeat' (first | exact trivial | exact Nat.le_of_ble_eq_true rfl | constructor))) (by (repeat' (first | exact trivial | exact Nat.le_of_ble_eq_true rfl | refine AllLt.of ?_ | constructor))) fun n ⟨hn, hf⟩ => ?_
  (repeat (first | refine cj_seq ?_ | (refine cj_region ?_; refine oj_run TT rfl ?_) | refine oj_then ?_))
  refine cj_if rfl (fun h => ?_) (fun h => ?_)
  rotate_left
  · have hn0 : n = ks.length := by have := of_decide_eq_false h; omega
    rw [hn0, List.drop_length, firstR] at hf
    rw [← hf] at hp
    (repeat (first | refine cj_seq ?_ | (refine cj_region ?_; refine oj_run TT rfl ?_) | refine oj_then ?_ | refine cj_exit ?_ | refine cj_ret ?_ | refine nj_then ?_ | refine nj_then_exit ?_ | refine nj_then_ret ?_ | refine nj_block_ret ?_ | refine nj_block_out ?_ | refine nj_ng_ret ?_))
    refine nj_ret TT rfl fun β w' _ _ => ?_
    rw [← hp]
    rfl
  have hnl : n < ks.length := by have := of_decide_eq_true h; omega
  have hkr : (kidRows ks)[n]? = some [.v (.int .i64 (ks[n] : Nat))] := by unfold kidRows; rw [List.getElem?_map, List.getElem?_eq_getElem hnl]; rfl
  have hml := hklt ks[n] (List.getElem_mem hnl)
  obtain ⟨r, hr⟩ : ∃ r, L[ks[n]]? = some r := ⟨_, List.getElem?_eq_getElem hml⟩
  have hrec := recRows_get hr
  rw [List.drop_eq_getElem_cons hnl, firstR, hr] at hf
  dsimp only at hf
  generalize ks[n] = m at *
  (repeat (first | refine cj_seq ?_ | (refine cj_region ?_; refine oj_run TT rfl ?_) | refine cj_skip ?_ | refine cj_block ?_ | refine nj_then ?_))
  refine oj_idx TT rfl rfl rfl rfl rfl rfl rfl rfl rfl HK (by omega) hkr (oj_run TT rfl ?_)
  (repeat (first | refine cj_seq ?_ | refine oj_then ?_))
  refine cj_cutN (fun (_ : Unit) => σ1) (fun _ => [(0, .a (.v (.slice ao L.length cap))), (1, .a (.v (.slice so l.length sc))), (7, .a (.p 1 0)), (9, .a (.v (.int .i64 (m : Nat)))), (13, .a (.v (.slice so l.length sc))), (14, .a (.v (.int .i64 l.length))), (15, .a (.v (.int .i64 (k : Nat)))), (21, .a (.v (.slice oo ks.length oc))), (22, .a (.v (.int .i64 ks.length))), (23, .a (.v (.int .i64 (n : Nat)))), (65, .a (.b (fitsR st n r)))])
    (fun _ => [(1, .loc 129, stepCells st)]) (fun _ => []) 2 (fun _ => True) ?_ (fun _ _ => ?_)
  · refine cj_draw [(0,.pure),(1,.quiet),(2,.pure),(3,.pure),(4,.pure),(5,.pure),(6,.pure),(7,.quiet),(8,.pure),(9,.pure),(10,.pure),(11,.pure),(12,.pure),(13,.pure),(14,.quiet),(15,.pure),(16,.quiet),(17,.pure),(18,.pure),(19,.pure),(20,.pure),(21,.quiet),(22,.pure),(23,.pure),(24,.pure),(25,.pure),(26,.pure),(27,.pure),(28,.quiet),(29,.pure),(30,.pure),(31,.pure),(32,.pure),(33,.pure),(34,.quiet),(35,.pure),(36,.pure),(37,.pure)] mixed (by kernel_rfl) (oj_run TT rfl ?_)
    refine oj_split 30 rfl (fun h1 => ?_) (fun h1 => ?_)
    · have h1 : st.named = true := h1
      refine oj_run TT rfl ?_
      refine oj_idx TT rfl rfl rfl rfl rfl rfl rfl rfl rfl H (by omega) hrec (oj_run TT rfl ?_)
      refine oj_split 37 rfl (fun h2 => ?_) (fun h2 => ?_)
      · have h2 : r.nm = true := h2
        refine oj_run TT rfl ?_
        refine oj_idx TT rfl rfl rfl rfl rfl rfl rfl rfl rfl H (by omega) hrec (oj_run TT rfl ?_)
        refine oj_split 47 rfl (fun h3 => ?_) (fun h3 => ?_)
        · have h3 : decide (r.name = st.key) = true := h3
          refine oj_run TT rfl ?_
          (repeat refine oj_nil ?_)
          refine nj_set 65 (.a (.b (fitsR st n r))) rfl trivial (fun β => by unfold fitsR; rw [h1, h2, h3]; rfl) ?_
          refine nj_again () trivial Nat.zero_lt_one rfl (by (repeat (first | exact trivial | refine And.intro rfl ?_))) (by (repeat (first | exact trivial | refine And.intro rfl ?_))) rfl (by (repeat' (first | exact trivial | exact Nat.le_of_ble_eq_true rfl | constructor))) (by (repeat' (first | exact trivial | exact Nat.le_of_ble_eq_true rfl | refine AllLt.of ?_ | constructor)))
        · have h3 : decide (r.name = st.key) = false := h3
          refine oj_run TT rfl ?_
          refine oj_split 51 rfl (fun h4 => absurd (show (!st.named) = true from h4) (by rw [h1]; decide)) (fun _ => ?_)
          refine oj_run TT rfl ?_
          (repeat refine oj_nil ?_)
          refine nj_set 65 (.a (.b (fitsR st n r))) rfl trivial (fun β => by unfold fitsR; rw [h1, h2, h3]; rfl) ?_
          refine nj_again () trivial Nat.zero_lt_one rfl (by (repeat (first | exact trivial | refine And.intro rfl ?_))) (by (repeat (first | exact trivial | refine And.intro rfl ?_))) rfl (by (repeat' (first | exact trivial | exact Nat.le_of_ble_eq_true rfl | constructor))) (by (repeat' (first | exact trivial | exact Nat.le_of_ble_eq_true rfl | refine AllLt.of ?_ | constructor)))
      · have h2 : r.nm = false := h2
        refine oj_run TT rfl ?_
        refine oj_split 51 rfl (fun h4 => absurd (show (!st.named) = true from h4) (by rw [h1]; decide)) (fun _ => ?_)
        refine oj_run TT rfl ?_
        (repeat refine oj_nil ?_)
        refine nj_set 65 (.a (.b (fitsR st n r))) rfl trivial (fun β => by unfold fitsR; rw [h1, h2]; rfl) ?_
        refine nj_again () trivial Nat.zero_lt_one rfl (by (repeat (first | exact trivial | refine And.intro rfl ?_))) (by (repeat (first | exact trivial | refine And.intro rfl ?_))) rfl (by (repeat' (first | exact trivial | exact Nat.le_of_ble_eq_true rfl | constructor))) (by (repeat' (first | exact trivial | exact Nat.le_of_ble_eq_true rfl | refine AllLt.of ?_ | constructor)))
    · have h1 : st.named = false := h1
      refine oj_run TT rfl ?_
      refine oj_split 51 rfl (fun _ => ?_) (fun h4 => absurd (show (!st.named) = false from h4) (by rw [h1]; decide))
      refine oj_run TT rfl ?_
      refine oj_idx TT rfl rfl rfl rfl rfl rfl rfl rfl rfl H (by omega) hrec (oj_run TT rfl ?_)
      refine oj_split 59 rfl (fun h2 => ?_) (fun h2 => ?_)
      · have h2 : (!r.nm) = true := h2
        refine oj_run TT rfl ?_
        (repeat refine oj_nil ?_)
        refine nj_set 65 (.a (.b (fitsR st n r))) rfl trivial (fun β => by unfold fitsR; rw [h1, h2]; rfl) ?_
        refine nj_again () trivial Nat.zero_lt_one rfl (by (repeat (first | exact trivial | refine And.intro rfl ?_))) (by (repeat (first | exact trivial | refine And.intro rfl ?_))) rfl (by (repeat' (first | exact trivial | exact Nat.le_of_ble_eq_true rfl | constructor))) (by (repeat' (first | exact trivial | exact Nat.le_of_ble_eq_true rfl | refine AllLt.of ?_ | constructor)))
      · have h2 : (!r.nm) = false := h2
        refine oj_run TT rfl ?_
        (repeat refine oj_nil ?_)
        refine nj_set 65 (.a (.b (fitsR st n r))) rfl trivial (fun β => by unfold fitsR; rw [h1, h2]; rfl) ?_
        refine nj_again () trivial Nat.zero_lt_one rfl (by (repeat (first | exact trivial | refine And.intro rfl ?_))) (by (repeat (first | exact trivial | refine And.intro rfl ?_))) rfl (by (repeat' (first | exact trivial | exact Nat.le_of_ble_eq_true rfl | constructor))) (by (repeat' (first | exact trivial | exact Nat.le_of_ble_eq_true rfl | refine AllLt.of ?_ | constructor)))
  refine cj_if rfl (fun h => ?_) (fun h => ?_)
  · rw [h, if_pos rfl] at hf
    rw [← hf] at hp
    (repeat (first | refine cj_seq ?_ | (refine cj_region ?_; refine oj_run TT rfl ?_) | refine oj_then ?_ | refine oj_nil ?_ | refine cj_exit ?_ | refine nj_then ?_ | refine nj_then_exit ?_ | refine nj_block_out ?_ | refine nj_block_on rfl ?_ | (refine oj_add rfl rfl rfl rfl rfl rfl (by omega) ?_; refine oj_run TT rfl ?_)))
    refine nj_again (σ1, k + 1, m) ⟨Snap.le_trans hle hle1, hkl, hml, hp⟩ (by dsimp only; omega) rfl (by (repeat (first | exact trivial | refine And.intro rfl ?_))) (by (repeat (first | exact trivial | refine And.intro rfl ?_))) rfl (by (repeat' (first | exact trivial | constructor))) (by (repeat' exact trivial))
  · rw [h, if_neg (by simp)] at hf
    (repeat (first | (refine cj_region ?_; refine oj_run TT rfl ?_) | refine oj_nil ?_ | refine cj_skip ?_ | refine nj_then ?_ | refine nj_block ?_ | (refine oj_add rfl rfl rfl rfl rfl rfl (by omega) ?_; refine oj_run TT rfl ?_)))
    refine nj_again (n + 1) ⟨hnl, hf⟩ (by omega) rfl (by (repeat (first | exact trivial | refine And.intro rfl ?_))) (by (repeat (first | exact trivial | refine And.intro rfl ?_))) rfl (by (repeat' (first | exact trivial | exact Nat.le_of_ble_eq_true rfl | constructor))) (by (repeat' (first | exact trivial | exact Nat.le_of_ble_eq_true rfl | refine AllLt.of ?_ | constructor)))
end Go.Sy
/- Plain laws: what stands at a record's place, and the record that stands at a place. No program in sight. -/
namespace Go.Sy

/-! ### Kinds -/

mutual
def kinds : GVal → Prop
  | .mk k _ _ _ l ks vs => (l ≠ [] → k = 4) ∧ (ks ≠ [] → k = 5) ∧ kindss l ∧ kindss vs
def kindss : List GVal → Prop
  | [] => True
  | g :: gs => kinds g ∧ kindss gs
end
theorem kinds_eq (g : GVal) : kinds g ↔ (g.l ≠ [] → g.kind = 4) ∧ (g.ks ≠ [] → g.kind = 5) ∧ kindss g.l ∧ kindss g.vs := by cases g; simp only [kinds, GVal.l, GVal.kind, GVal.ks, GVal.vs]
theorem kindss_mem : ∀ {gs : List GVal} {g : GVal}, kindss gs → g ∈ gs → kinds g
  | _ :: _, _, h, hm => by
    cases hm with
    | head => exact h.1
    | tail _ hm => exact kindss_mem h.2 hm
mutual
theorem sane_kinds4 : ∀ (g : GVal) (deep c : Int), (saneG g deep c).1 = 0 → kinds g
  | .mk k b n s l ks vs, deep, c, h => by
    simp only [saneG] at h
    split at h
    · simp at h
    rename_i hf
    have hf : fieldsG (.mk k b n s l ks vs) = true := by simpa using hf
    obtain ⟨h1, h2⟩ := fields_kind hf
    simp only [GVal.l, GVal.ks, GVal.kind] at h1 h2
    split at h
    · simp at h
    split at h
    · simp at h
    split at h
    · simp at h
    simp only [kinds]
    have hl : (saneL l deep (c + 1)).1 = 0 := by
      by_cases h0 : (saneL l deep (c + 1)).1 = 0
      · exact h0
      · rw [if_pos h0] at h; exact h
    rw [if_neg (by simp [hl])] at h
    exact ⟨h1, h2, sane_kinds4s l _ _ hl, sane_kinds4s vs _ _ h⟩
theorem sane_kinds4s : ∀ (gs : List GVal) (deep c : Int), (saneL gs deep c).1 = 0 → kindss gs
  | [], _, _, _ => trivial
  | g :: gs, deep, c, h => by
    simp only [saneL] at h
    have hg : (saneG g (deep + 1) c).1 = 0 := by
      by_cases h0 : (saneG g (deep + 1) c).1 = 0
      · exact h0
      · rw [if_pos h0] at h; exact h
    rw [if_neg (by simp [hg])] at h
    exact ⟨sane_kinds4 g _ _ hg, sane_kinds4s gs _ _ h⟩
end
theorem its_kinds {g : GVal} {x : Itm} (h : g.wf) (hk : kinds g) (hx : x ∈ its g) : kinds x.v := by
  have h' := (kinds_eq g).1 hk
  rcases List.mem_append.1 (its_mem h hx) with hm | hm
  · exact kindss_mem h'.2.2.1 hm
  · exact kindss_mem h'.2.2.2 hm

/-! ### What stands at a place -/

theorem findG_first {α : Type} {q : α → Bool} : ∀ {l : List α} {k j : Nat} {x : α}, l[j]? = some x → q x = true → (∀ (i : Nat) y, i < j → l[i]? = some y → q y = false) → findG q l k = (k + j : Nat)
  | x :: l, k, 0, y, h, hq, _ => by
    simp only [List.getElem?_cons_zero, Option.some.injEq] at h
    subst h
    rw [findG, if_pos hq, Nat.add_zero]
  | x :: l, k, j + 1, y, h, hq, hn => by
    have h0 := hn 0 x (by omega) rfl
    rw [findG, h0, if_neg (by simp), findG_first (l := l) (k := k + 1) (j := j) (by simpa using h) hq fun i z hi hz => hn (i + 1) z (by omega) (by simpa using hz)]
    congr 1
    omega
  | [], _, _, _, h, _, _ => by simp at h

theorem its_split {g : GVal} {m : Nat} {x : Itm} (hx : (its g)[m]? = some x) : (x.nm = false ∧ m < g.l.length ∧ g.l[m]? = some x.v) ∨ (x.nm = true ∧ g.l.length ≤ m ∧ g.ks[m - g.l.length]? = some x.name ∧ g.vs[m - g.l.length]? = some x.v) := by
  have hl : (itsL g.l).length = g.l.length := by simp [itsL]
  unfold its at hx
  by_cases hm : m < g.l.length
  · rw [List.getElem?_append_left (by omega)] at hx
    simp only [itsL, List.getElem?_map, Option.map_eq_some_iff] at hx
    obtain ⟨y, h1, rfl⟩ := hx
    exact .inl ⟨rfl, hm, h1⟩
  · rw [List.getElem?_append_right (by omega), hl] at hx
    obtain ⟨h1, h2, h3⟩ := itsM_get _ _ _ _ hx
    exact .inr ⟨h1, by omega, h2, h3⟩

theorem stepV_its {g : GVal} (hk : keysOk g) (hd : kinds g) {m : Nat} {x : Itm} (hx : (its g)[m]? = some x) : stepV g (stepOf m x) = some x.v := by
  obtain ⟨k4, k5, -, -⟩ := (kinds_eq g).1 hd
  rcases its_split hx with ⟨h1, h2, h3⟩ | ⟨h1, h2, h3, h4⟩
  · have hk4 : g.kind = 4 := k4 (fun e => by rw [e] at h2; simp at h2)
    unfold stepV stepOf
    rw [h1, hk4]
    simp only [Bool.false_eq_true, if_false, if_true]
    rw [if_neg (by omega), if_pos (by omega), Int.toNat_natCast, h3]
  · have hk5 : g.kind = 5 := k5 (fun e => by rw [e] at h3; simp at h3)
    have hnd := (twice_nodup _ _ ((keysOk_eq g).1 hk).1).2
    have hlt := (List.getElem?_eq_some_iff.1 h3).1
    have hp : placeM g.ks x.name = (m - g.l.length : Nat) := by
      have := findG_first (q := fun k => decide (k = x.name)) (k := 0) h3 (by simp) fun i y hi hy => by
        have hne : y ≠ x.name := fun e => by
          have := (List.getElem?_inj (j := m - g.l.length) (i := i) (by omega) hnd).1 (by rw [hy, h3, e])
          omega
        simpa using hne
      rw [Nat.zero_add] at this
      exact this
    unfold stepV stepOf
    rw [h1]
    simp only [if_true]
    unfold getG
    rw [if_pos hk5, hp, if_neg (by omega), Int.toNat_natCast, h4]

theorem sub_at {gap : Int} {g : GVal} {p : Nat} {now : Int} {P : List GStep} {h : GVal} {q : Nat} {a : Int} (hs : Sub gap g p now P h q a) : g.wf → keysOk g → kinds g → atV g P = some h := by
  induction hs with
  | refl => intro _ _ _; rfl
  | @step g p now m x P h q a hx hs ih =>
    intro hw hk hd
    have hm := List.mem_of_getElem? hx
    rw [atV, stepV_its hk hd hx, Option.bind_some]
    exact ih (its_wf hw hm) (its_keys hw hk hm) (its_kinds hw hd hm)

/-! ### The record at a place -/

theorem Loc.kid_rec {gap : Int} (hg : 0 < gap) {L : List GRec} {g : GVal} {p : Nat} {now : Int} {pre : List GStep} (h : Loc gap L g p now pre) {m : Nat} {x : Itm} (hx : (its g)[m]? = some x) :
    ∃ r, L[p + 1 + cntI ((its g).take m)]? = some r ∧ r.nm = x.nm ∧ r.name = x.name := by
  obtain ⟨h1, h2⟩ := h.kid hg hx
  obtain ⟨nm, name, h3⟩ := h1.rec_
  have h4 := h1.place (p + 1 + cntI ((its g).take m) + 1) (by omega)
  unfold upF at h4
  rw [h2, if_neg (by omega), List.reverse_append] at h4
  have h5 : stepG L (p + 1 + cntI ((its g).take m)) ((p : Int).toNat) = stepOf m x := (List.cons.inj h4).1
  unfold stepG stepOf at h5
  rw [h3] at h5
  dsimp only at h5
  injection h5 with h6 h7 h8
  exact ⟨_, h3, h8, h6⟩

theorem firstR_at {L : List GRec} {s : GStep} : ∀ {ks : List Nat} {n m q : Nat} {r : GRec}, (∀ (j k : Nat), j < m → ks[j]? = some k → ∃ r, L[k]? = some r ∧ fitsR s (n + j) r = false) → ks[m]? = some q → L[q]? = some r → fitsR s (n + m) r = true →
    firstR L s ks n = some q
  | k :: ks, n, 0, q, r, _, h1, h2, h3 => by
    simp only [List.getElem?_cons_zero, Option.some.injEq] at h1
    subst h1
    unfold firstR
    rw [h2]
    dsimp only
    rw [Nat.add_zero] at h3
    rw [if_pos h3]
  | k :: ks, n, m + 1, q, r, h, h1, h2, h3 => by
    obtain ⟨r0, a1, a2⟩ := h 0 k (by omega) rfl
    unfold firstR
    rw [a1]
    dsimp only
    rw [Nat.add_zero] at a2
    rw [a2, if_neg (by simp)]
    refine firstR_at (m := m) (fun j k' hj hk' => ?_) (by simpa using h1) h2 (by rw [show n + 1 + m = n + (m + 1) by omega]; exact h3)
    have := h (j + 1) k' (by omega) (by simpa using hk')
    rw [show n + (j + 1) = n + 1 + j by omega] at this
    exact this
  | [], _, _, _, _, _, h1, _, _ => by simp at h1

theorem Loc.kid_pos {gap : Int} (hg : 0 < gap) {L : List GRec} {g : GVal} {p : Nat} {now : Int} {pre : List GStep} (h : Loc gap L g p now pre) {m : Nat} (hm : m < (its g).length) : (kidsG L p)[m]? = some (p + 1 + cntI ((its g).take m)) := by
  rw [h.kids hg, ← vals_its h.wf, pos_get _ _ _ (by simpa [valsI] using hm)]
  unfold cntI valsI
  rw [List.map_take]

theorem fits_self (m : Nat) (x : Itm) {r : GRec} (h1 : r.nm = x.nm) (h2 : r.name = x.name) : fitsR (stepOf m x) m r = true := by
  unfold fitsR stepOf
  rw [h1, h2]
  cases x.nm <;> simp
theorem fits_other {g : GVal} (hk : keysOk g) {j m : Nat} {x y : Itm} (hx : (its g)[m]? = some x) (hy : (its g)[j]? = some y) (hne : j ≠ m) {r : GRec} (h1 : r.nm = y.nm) (h2 : r.name = y.name) : fitsR (stepOf m x) j r = false := by
  have hst : stepOf j y ≠ stepOf m x := fun e => hne (stepOf_inj hk hy hx e)
  unfold fitsR stepOf at *
  rw [h1, h2]
  cases hxn : x.nm <;> cases hyn : y.nm <;> simp_all
  · omega

theorem loc_find {gap : Int} (hg : 0 < gap) {L : List GRec} {g : GVal} {p : Nat} {now : Int} {P : List GStep} {h : GVal} {q : Nat} {a : Int} (hs : Sub gap g p now P h q a) : ∀ {pre : List GStep}, Loc gap L g p now pre → findR L p P = q := by
  induction hs with
  | refl => intro pre _; rfl
  | @step g p now m x P h q a hx hs ih =>
    intro pre hl
    have hlt := (List.getElem?_eq_some_iff.1 hx).1
    obtain ⟨r, h1, h2, h3⟩ := hl.kid_rec hg hx
    have hf : firstR L (stepOf m x) (kidsG L p) 0 = some (p + 1 + cntI ((its g).take m)) := by
      refine firstR_at (m := m) (fun j k hj hk => ?_) (hl.kid_pos hg hlt) h1 (by rw [Nat.zero_add]; exact fits_self m x h2 h3)
      have hy : (its g)[j]? = some ((its g)[j]'(by omega)) := List.getElem?_eq_getElem _
      obtain ⟨r', a1, a2, a3⟩ := hl.kid_rec hg hy
      rw [hl.kid_pos hg (by omega)] at hk
      obtain rfl := Option.some.inj hk
      exact ⟨r', a1, by rw [Nat.zero_add]; exact fits_other hl.keys hx hy (by omega) a2 a3⟩
    rw [findR, hf]
    exact ih (hl.kid hg hx).1

/-! ### The last one in a record -/

theorem Loc.last {gap : Int} (hg : 0 < gap) {L : List GRec} {g : GVal} {p : Nat} {now : Int} {pre : List GStep} (h : Loc gap L g p now pre) : lastG L p = p + cntV g - 1 := by
  obtain ⟨nm, name, rest, h1, hfr⟩ := h.at_
  obtain ⟨nm', name', hr⟩ := h.rec_
  have h2 := congrArg (List.map se) h1
  rw [List.map_drop, List.map_append, (shredV_sk gap g _ nm name now h.wf).1, skV_eq, List.cons_append] at h2
  obtain ⟨-, h4⟩ := drop_at h2
  have hce := cntV_eq g
  have hwe := wV_eq gap g
  have hrun : runP (now + wV gap g) ((L.map se).drop (p + 1)) = cntL (g.l ++ g.vs) := by
    rw [h4, runP_block hfr _ (fun x hx => by have := skL_bd hg _ _ x hx; omega), skL_len]
  unfold lastG runK
  rw [hr]
  show ((p + 1 + runL (now + wV gap g) (L.drop (p + 1)) : Nat) : Int) - 1 = _
  rw [runL_se, List.map_drop, hrun, cntL_append]
  omega

theorem sub_weight {gap : Int} {g : GVal} {p : Nat} {now : Int} {P : List GStep} {h : GVal} {q : Nat} {a : Int} (hs : Sub gap g p now P h q a) : g.wf → h.weight ≤ g.weight := by
  induction hs with
  | refl => intro _; exact Nat.le_refl _
  | @step g p now m x P h q a hx hs ih =>
    intro hw
    have hm := List.mem_of_getElem? hx
    exact Nat.le_trans (ih (its_wf hw hm)) (Nat.le_of_lt (in_weight (its_mem hw hm)))

/-- WHAT IS SAID OF EACH RECORD'S PLACE. -/
theorem shred_places {gap : Int} (hg : 0 < gap) {g : GVal} {nm : Bool} {name : ByteArray} (hw : g.wf) (hk : keysOk g) (hd : kinds g) {L : List GRec} (hL : L = (shredV gap g 0 nm name 0).1) {a : Nat} (ha : a < cntV g) {r : GRec} (hr : L[a]? = some r) :
    ∃ h : GVal, atV g (placeG L a) = some h ∧ h.weight ≤ g.weight ∧ h.wf ∧ h.kind = r.kd ∧ h.s = r.s ∧ h.n = r.n ∧ h.b = r.b ∧ findR L 0 (placeG L a) = a ∧ (kidsG L a).length = h.l.length + h.vs.length ∧
      (∀ (m k : Nat), (kidsG L a)[m]? = some k → parentG L k = a ∧ k < cntV g) ∧ lastG L a = a + cntV h - 1 ∧ ((kidsG L a).length = 0 → cntV h = 1) ∧
      (∀ k, (kidsG L a)[(kidsG L a).length - 1]? = some k → lastG L k = lastG L a) := by
  subst hL
  obtain ⟨h, s, hs, hl⟩ := shred_loc hg (nm := nm) (name := name) hw hk ha
  obtain ⟨nx, mx, ex⟩ := hl.rec_
  rw [hr] at ex
  have ex := Option.some.inj ex
  have hlen : (kidsG (shredV gap g 0 nm name 0).1 a).length = (its h).length := by
    rw [hl.kids hg, ← vals_its hl.wf]
    have : ∀ (gs : List GVal) (p : Nat), (pos gs p).length = gs.length := by
      intro gs
      induction gs with
      | nil => intro p; rfl
      | cons g gs ih => intro p; simp [pos, ih]
    rw [this]
    simp [valsI]
  have hlv : (its h).length = h.l.length + h.vs.length := by
    have := congrArg List.length (vals_its hl.wf)
    simpa [valsI] using this
  have hcv := cntI_its hl.wf
  have hcnt := shredV_cnt gap g 0 nm name 0 hw
  have hkid : ∀ (m k : Nat), (kidsG (shredV gap g 0 nm name 0).1 a)[m]? = some k → ∃ x, (its h)[m]? = some x ∧ k = a + 1 + cntI ((its h).take m) := by
    intro m k hk'
    have hm : m < (its h).length := by
      have := (List.getElem?_eq_some_iff.1 hk').1
      omega
    rw [hl.kid_pos hg hm] at hk'
    exact ⟨(its h)[m], List.getElem?_eq_getElem hm, (Option.some.inj hk').symm⟩
  subst ex
  refine ⟨h, sub_at hs hw hk hd, sub_weight hs hw, hl.wf, rfl, rfl, rfl, rfl, loc_find hg hs (loc_root hw hk), by rw [hlen, hlv], fun m k hk' => ?_, hl.last hg, fun h0 => ?_, fun k hk' => ?_⟩
  · obtain ⟨x, hx, rfl⟩ := hkid m k hk'
    obtain ⟨b1, b2⟩ := hl.kid hg hx
    obtain ⟨_, _, b3⟩ := b1.rec_
    have := (List.getElem?_eq_some_iff.1 b3).1
    exact ⟨b2, by omega⟩
  · rw [hlen] at h0
    have : its h = [] := List.eq_nil_of_length_eq_zero h0
    rw [this] at hcv
    rw [hcv]
    rfl
  · obtain ⟨x, hx, rfl⟩ := hkid _ k hk'
    rw [(hl.kid hg hx).1.last hg, hl.last hg]
    have hsp := cntI_split hx
    have hlt := (List.getElem?_eq_some_iff.1 hx).1
    rw [hlen] at hsp hlt ⊢
    rw [List.drop_eq_nil_of_le (by omega : (its h).length ≤ (its h).length - 1 + 1)] at hsp
    have : cntI [] = 0 := rfl
    omega
end Go.Sy
namespace Go.Sy
open Go.Proofs

/-! ### ShredPlaces -/

/-- What is known of a sane value's records. -/
theorem shred_facts {σ : Snap} {g : GVal} {r : List AT} (hr : RepV σ g r) {gap : Int} (hg : 1 ≤ gap) (hg2 : gap ≤ 1000) (hw : g.weight ≤ 4000) (hs : sane g = 0) {L : List GRec} (hL : L = (shredV gap g 0 false emptyS 0).1) :
    L.length = cntV g ∧ L.length ≤ g.weight ∧ 0 < L.length ∧ soundG L = true ∧ RecsOk L ∧ buildR L = (g, 0) := by
  subst hL
  have hcnt := shredV_cnt gap g 0 false emptyS 0 hr.wf
  obtain ⟨hlen1, hlen2⟩ := shredV_len gap g 0 false emptyS 0
  have hfit := shredV_fit gap g _ 0 false emptyS 0 hr (by decide)
  have hpos := cntV_pos g
  have hnow := (shredV_now (gap := gap) g 0 false emptyS 0 (by omega) hg2).2
  have hbd : buildR (shredV gap g 0 false emptyS 0).1 = (g, 0) := by
    have := buildR_shred (φ := fun x => x) (fun a b _ h => h) (gap := gap) (by omega) (by omega) g hr.wf hs (by omega) (by omega)
    rw [stE_id, List.map_id] at this
    exact this
  have hBG : buildG (shredV gap g 0 false emptyS 0).1 = (g, []) := by
    have := build_shred (fun x => x) gap g false emptyS 0 hr.wf
    rw [stE_id, List.map_id] at this
    exact this
  have hsound : soundG (shredV gap g 0 false emptyS 0).1 = true := by
    unfold soundG
    rw [hbd]
    rfl
  exact ⟨hcnt, hlen1, by omega, hsound, ⟨by simp only [mostLen]; omega, hfit, fun _ => by rw [hBG]; show g.weight ≤ _; omega⟩, hbd⟩

set_option maxRecDepth 100000 in
set_option maxHeartbeats 1000000 in
theorem ShredPlaces_c (σ : Snap) (g : GVal) (r : List AT) (i : Int) (hr : RepV σ g r) :
    PlainS Tryd.prog 8 [.agg r, .a (.v (.int .i64 i))] σ (fun v => v = .bool true) := by
  obtain ⟨la, lc, lrows, ma, mc, vrows, rfl, V⟩ := hr.open
  refine enter_p Tryd.func8 rfl rfl (by (repeat' (first | exact trivial | exact vCells_lt _ _ _ _ _ _ | constructor))) fun w => ?_
  (repeat (first | refine cj_seq ?_ | (refine cj_region ?_; refine oj_run TT rfl ?_) | refine oj_then ?_))
  refine oj_callP rfl rfl rfl rfl rfl Tryd.call18 (by (repeat' exact trivial)) (awake11_c σ) fun v hv => ⟨.a .tt, trivial, hv.symm, ?_⟩
  refine oj_run TT rfl ?_
  (repeat (first | refine cj_seq ?_ | (refine cj_region ?_; refine oj_run TT rfl ?_) | refine oj_then ?_))
  refine oj_callP rfl rfl rfl rfl rfl Tryd.call19 (by (repeat' (first | exact trivial | exact vCells_lt _ _ _ _ _ _ | constructor))) (Few_c σ g _ 1500 V.rep (by omega) (by omega)) fun v ⟨fb, hv, hfew⟩ => ⟨.a (.b fb), trivial, hv.symm, ?_⟩
  refine oj_run TT rfl ?_
  (repeat refine oj_then ?_)
  refine cj_if rfl (fun h => ?_) (fun h => ?_)
  · (repeat (first | refine cj_seq ?_ | (refine cj_region ?_; refine oj_run TT rfl ?_) | refine oj_then ?_ | refine cj_ret ?_ | refine nj_then_ret ?_))
    refine nj_ret TT rfl fun β w' _ _ => ?_
    rfl
  have hw : g.weight ≤ 1500 := by
    have := hfew (by simpa using h)
    omega
  (repeat (first | refine cj_seq ?_ | (refine cj_region ?_; refine oj_run TT rfl ?_) | refine cj_skip ?_ | refine nj_then ?_))
  refine oj_callS rfl rfl rfl rfl rfl Tryd.call21 ⟨vCells_lt _ _ _ _ _ _, trivial, trivial⟩ (Shred_s σ g _ 1 V.rep (by omega)) fun v σ1 hle1 ⟨ao, cap, hv, H⟩ => ⟨.tup [.a (.v (.slice ao (shredG g 1).1.length cap)), .a (.v (.int .i64 (shredG g 1).2))], (by (repeat' (first | exact trivial | refine SV.lt_tup ?_ | constructor))), hv.symm, ?_⟩
  rw [shredG_k (by omega) (by omega)] at H ⊢
  by_cases hs : sane g ≠ 0
  · rw [if_pos hs] at H ⊢
    dsimp only at H ⊢
    refine oj_run TT rfl ?_
    (repeat (first | refine cj_seq ?_ | (refine cj_region ?_; refine oj_run TT rfl ?_) | refine oj_then ?_))
    refine oj_split 26 rfl (fun h => ?_) (fun h => absurd (by simpa using h) hs)
    refine oj_run TT rfl ?_
    (repeat (first | refine cj_seq ?_ | (refine cj_region ?_; refine oj_run TT rfl ?_) | refine oj_then ?_ | refine cj_if_t rfl ?_ | refine cj_ret ?_ | refine nj_then_ret ?_))
    refine nj_ret TT rfl fun β w' _ _ => ?_
    rfl
  have hs : sane g = 0 := by simpa using hs
  rw [if_neg (by simp [hs])] at H ⊢
  dsimp only at H ⊢
  generalize hLdef : (shredV 1 g 0 false emptyS 0).1 = L at *
  obtain ⟨hcnt, hlen1, hpos, hsound, R, -⟩ := shred_facts V.rep (by omega) (by omega) (by omega) hs hLdef.symm
  refine oj_run TT rfl ?_
  (repeat (first | refine cj_seq ?_ | (refine cj_region ?_; refine oj_run TT rfl ?_) | refine oj_then ?_))
  refine oj_split 26 rfl (fun h => absurd h (by decide)) (fun h => ?_)
  refine oj_run TT rfl ?_
  (repeat refine oj_then ?_)
  refine cj_if rfl (fun h => ?_) (fun h => ?_)
  · have := of_decide_eq_true h
    omega
  have hmi := bAnd_le i 65535 (by omega) (by omega)
  (repeat (first | refine cj_seq ?_ | (refine cj_region ?_; refine oj_run TT rfl ?_) | refine cj_skip ?_ | refine nj_then ?_ | (refine oj_band rfl rfl rfl rfl rfl rfl ?_; refine oj_run TT rfl ?_)))
  generalize bAnd .i64 i 65535 = m1 at hmi ⊢
  refine oj_rem rfl rfl rfl rfl rfl rfl (by omega) ?_
  obtain ⟨a, ha⟩ : ∃ a : Nat, m1.tmod L.length = a := ⟨(m1.tmod L.length).toNat, by
    have := Int.tmod_nonneg (L.length : Int) hmi.1
    omega⟩
  have hal : a < L.length := by
    have := Int.tmod_lt_of_pos m1 (show (0 : Int) < L.length by omega)
    omega
  rw [ha]
  have hra := recRows_get (List.getElem?_eq_getElem hal)
  obtain ⟨wv, hat, hww, hwwf, ekd, es, en, eb, hfind, hkl, hkp, hlast, hone, hkl2⟩ := shred_places (gap := 1) (by omega) V.rep.wf (sane_keys g 0 0 hs) (sane_kinds4 g 0 0 hs) hLdef.symm (a := a) (by omega) (List.getElem?_eq_getElem hal)
  have hkv := ((wf_eq wv).1 hwwf).1
  have hPl : (placeG L a).length ≤ a + 1 := by unfold placeG; rw [List.length_reverse]; exact upF_len L (a + 1) a
  have hkle : (kidsG L a).length ≤ L.length := by
    unfold kidsG
    exact Nat.le_trans (kidsF_len L _ L.length (a + 1)) (Nat.sub_le _ _)
  have hwc := cntV_le wv
  clear hLdef
  generalize L[a] = x at *
  refine oj_run TT rfl ?_
  (repeat (first | refine cj_seq ?_ | (refine cj_region ?_; refine oj_run TT rfl ?_) | refine oj_then ?_))
  refine oj_callS rfl rfl rfl rfl rfl Tryd.call27 ⟨trivial, trivial, trivial⟩ (Place_c σ1 L R ao cap H a hal hsound (by omega)) fun v σ2 hle2 ⟨xo, xc, hv, HX⟩ => ⟨.a (.v (.slice xo (placeG L a).length xc)), trivial, hv.symm, ?_⟩
  have H := H.mono hle2
  have V := V.monoC (Snap.le_trans hle1 hle2).cle
  generalize placeG L a = P at *
  refine oj_run TT rfl ?_
  (repeat (first | refine cj_seq ?_ | (refine cj_region ?_; refine oj_run TT rfl ?_) | refine oj_then ?_))
  refine oj_callP rfl rfl rfl rfl rfl Tryd.call45 (by (repeat' (first | exact trivial | exact vCells_lt _ _ _ _ _ _ | constructor))) (At_c σ2 g la lc lrows ma mc vrows V P (by omega) xo xc HX) fun v ⟨r, hv, hr⟩ => ?_
  rw [hat] at hv hr
  obtain ⟨la', lc', lrows', ma', mc', vrows', rfl, V'⟩ := hr.open
  have V' : VAt σ2 wv la' lc' lrows' ma' mc' vrows' := V'
  refine ⟨.tup [.agg (vCells wv la' lc' ma' mc'), .a .tt], (by (repeat' (first | exact trivial | exact vCells_lt _ _ _ _ _ _ | refine SV.lt_tup ?_ | constructor))), hv.symm, ?_⟩
  refine oj_run TT rfl ?_
  (repeat (first | refine cj_seq ?_ | refine oj_then ?_))
  refine cj_draw [(0,.pure),(1,.pure),(2,.pure),(3,.pure),(4,.quiet),(5,.pure),(6,.pure),(7,.pure),(8,.pure),(9,.quiet),(10,.pure),(11,.pure),(12,.pure),(13,.pure),(14,.quiet),(15,.pure),(16,.pure),(17,.pure),(18,.pure),(19,.quiet),(20,.pure),(21,.pure),(22,.pure),(23,.pure),(24,.quiet),(25,.pure),(26,.pure),(27,.pure),(28,.pure),(29,.quiet),(30,.pure),(31,.pure),(32,.pure),(33,.pure),(34,.quiet),(35,.pure),(36,.pure),(37,.pure),(38,.pure),(39,.quiet),(40,.pure),(41,.pure),(42,.pure),(43,.pure),(44,.pure),(46,.pure),(45,.keep),(47,.pure),(48,.pure)] mixed (by kernel_rfl) (oj_run TT rfl ?_)
  refine oj_idx TT rfl rfl rfl rfl rfl rfl rfl rfl rfl H (by omega) hra (oj_run TT rfl ?_)
  refine oj_split 58 rfl (fun h => absurd (show (!decide (wv.kind = x.kd)) = true from h) (by simp [ekd])) (fun _ => ?_)
  refine oj_run TT rfl ?_
  refine oj_idx TT rfl rfl rfl rfl rfl rfl rfl rfl rfl H (by omega) hra (oj_run TT rfl ?_)
  refine oj_split 68 rfl (fun h => absurd (show (!decide (wv.s = x.s)) = true from h) (by simp [es])) (fun _ => ?_)
  refine oj_run TT rfl ?_
  refine oj_idx TT rfl rfl rfl rfl rfl rfl rfl rfl rfl H (by omega) hra (oj_run TT rfl ?_)
  refine oj_neDec wv.n x.n rfl rfl rfl rfl rfl rfl rfl (fun _ => rfl) (fun _ => rfl) (oj_run TT rfl ?_)
  refine oj_split 78 rfl (fun h => absurd (show (!decide (wv.n = x.n)) = true from h) (by simp [en])) (fun _ => ?_)
  refine oj_run TT rfl ?_
  refine oj_idx TT rfl rfl rfl rfl rfl rfl rfl rfl rfl H (by omega) hra (oj_run TT rfl ?_)
  refine oj_split 88 rfl (fun h => absurd (show (wv.b != x.b) = true from h) (by simp [eb])) (fun _ => ?_)
  refine oj_run TT rfl ?_
  refine oj_callP rfl rfl rfl rfl rfl Tryd.call43 (by (repeat' (first | exact trivial | constructor))) (Find_c σ2 L R ao cap H hsound (by omega) hpos P (by omega) xo xc HX) fun v hv => ⟨.a (.v (.int .i64 (a : Nat))), trivial, (by rw [hv, hfind]; rfl), ?_⟩
  refine oj_run TT rfl ?_
  (repeat refine oj_then ?_)
  refine cj_if rfl (fun h => absurd (show (!decide ((a : Int) = a)) = true from h) (by simp)) (fun _ => ?_)
  (repeat (first | refine cj_seq ?_ | (refine cj_region ?_; refine oj_run TT rfl ?_) | refine cj_skip ?_ | refine nj_then ?_))
  refine oj_callS rfl rfl rfl rfl rfl Tryd.call26 ⟨trivial, trivial, trivial⟩ (Kids_c σ2 L R ao cap H a hal hsound (by omega)) fun v σ3 hle3 ⟨oo, oc, hv, HK⟩ => ⟨.a (.v (.slice oo (kidsG L a).length oc)), trivial, hv.symm, ?_⟩
  have H := H.mono hle3
  have V' := V'.monoC hle3.cle
  generalize kidsG L a = ks at *
  refine oj_run TT rfl ?_
  (repeat (first | refine cj_seq ?_ | (refine cj_region ?_; refine oj_run TT rfl ?_) | refine oj_then ?_ | (refine oj_add rfl rfl rfl rfl rfl rfl (by omega) ?_; refine oj_run TT rfl ?_)))
  refine cj_if rfl (fun h => ?_) (fun _ => ?_)
  · have h : ¬ (ks.length : Int) = wv.l.length + wv.ks.length := by simpa using h
    omega
  (repeat (first | refine cj_seq ?_ | (refine cj_region ?_; refine oj_run TT rfl ?_) | refine oj_then ?_ | refine cj_skip ?_ | refine cj_block ?_ | refine nj_then ?_))
  refine cj_cutB (α := Unit) (fun _ => σ3) (fun _ => [(5, .a .tt), (6, .a (.v (.slice ao L.length cap))), (8, .a (.v (.int .i64 (a : Nat)))), (10, .a (.p 1 0)), (12, .a (.v (.slice oo ks.length oc)))]) (fun _ => [(1, .loc 27, vCells wv la' lc' ma' mc')]) (fun _ => []) 2 (fun _ => True) ?_ (fun _ _ => ?_)
  · refine cj_loop (fun (_ : Nat) => σ3) (fun k => [(5, .a .tt), (6, .a (.v (.slice ao L.length cap))), (8, .a (.v (.int .i64 (a : Nat)))), (10, .a (.p 1 0)), (12, .a (.v (.slice oo ks.length oc))), (13, .a (.v (.int .i64 (k : Nat))))]) (fun _ => [(1, .loc 27, vCells wv la' lc' ma' mc')]) (fun _ => []) 2
      (fun k => k ≤ ks.length) (fun k => ks.length - k) 0 (Nat.zero_le _) rfl (by (repeat (first | exact trivial | refine And.intro rfl ?_))) (by (repeat (first | exact trivial | refine And.intro rfl ?_))) rfl (by (repeat' (first | exact trivial | exact Nat.le_of_ble_eq_true rfl | constructor))) (by (repeat' (first | exact trivial | exact Nat.le_of_ble_eq_true rfl | exact vCells_lt _ _ _ _ _ _ | constructor))) fun k hk => ?_
    (repeat (first | refine cj_seq ?_ | (refine cj_region ?_; refine oj_run TT rfl ?_) | refine oj_then ?_))
    refine cj_if rfl (fun h => ?_) (fun h => ?_)
    rotate_left
    · (repeat (first | refine cj_exit ?_ | refine nj_then_exit ?_ | refine nj_block_out ?_))
      refine nj_again () trivial Nat.zero_lt_one rfl (by (repeat (first | exact trivial | refine And.intro rfl ?_))) (by (repeat (first | exact trivial | refine And.intro rfl ?_))) rfl (by (repeat' (first | exact trivial | exact Nat.le_of_ble_eq_true rfl | constructor))) (by (repeat' (first | exact trivial | exact Nat.le_of_ble_eq_true rfl | exact vCells_lt _ _ _ _ _ _ | constructor)))
    have hkl' : k < ks.length := by have := of_decide_eq_true h; omega
    have hkr : (kidRows ks)[k]? = some [.v (.int .i64 (ks[k] : Nat))] := by unfold kidRows; rw [List.getElem?_map, List.getElem?_eq_getElem hkl']; rfl
    obtain ⟨hpar, hmc⟩ := hkp k ks[k] (List.getElem?_eq_getElem hkl')
    generalize ks[k] = m at *
    have hatm : atG L m = true := by
      unfold atG
      rw [hsound]
      simp
      omega
    (repeat (first | refine cj_seq ?_ | (refine cj_region ?_; refine oj_run TT rfl ?_) | refine cj_skip ?_ | refine cj_block ?_ | refine nj_then ?_))
    refine oj_idx TT rfl rfl rfl rfl rfl rfl rfl rfl rfl HK (by omega) hkr (oj_run TT rfl ?_)
    refine oj_callP rfl rfl rfl rfl rfl Tryd.call36 (by (repeat' (first | exact trivial | constructor))) (Parent_c σ3 L R ao cap H m) fun v hv => ⟨.a (.v (.int .i64 (a : Nat))), trivial, (by rw [hv, hatm, if_pos rfl, Int.toNat_natCast, hpar]; rfl), ?_⟩
    refine oj_run TT rfl ?_
    (repeat refine oj_then ?_)
    refine cj_if rfl (fun h => absurd (show (!decide ((a : Int) = a)) = true from h) (by simp)) (fun _ => ?_)
    (repeat (first | (refine cj_region ?_; refine oj_run TT rfl ?_) | refine oj_nil ?_ | refine cj_skip ?_ | refine nj_then ?_ | refine nj_block ?_ | (refine oj_add rfl rfl rfl rfl rfl rfl (by omega) ?_; refine oj_run TT rfl ?_)))
    refine nj_again (k + 1) hkl' (by omega) rfl (by (repeat (first | exact trivial | refine And.intro rfl ?_))) (by (repeat (first | exact trivial | refine And.intro rfl ?_))) rfl (by (repeat' (first | exact trivial | exact Nat.le_of_ble_eq_true rfl | constructor))) (by (repeat' (first | exact trivial | exact Nat.le_of_ble_eq_true rfl | exact vCells_lt _ _ _ _ _ _ | constructor)))
  (repeat (first | refine cj_seq ?_ | (refine cj_region ?_; refine oj_run TT rfl ?_) | refine oj_then ?_))
  refine cj_if rfl (fun h => ?_) (fun h => ?_)
  · have h0 : ks.length = 0 := by have := of_decide_eq_true h; omega
    have hc1 := hone h0
    have hla : lastG L a = a := by rw [hlast, hc1]; omega
    (repeat (first | refine cj_seq ?_ | (refine cj_region ?_; refine oj_run TT rfl ?_)))
    refine oj_callP rfl rfl rfl rfl rfl Tryd.call40 (by (repeat' (first | exact trivial | constructor))) (Last_c σ3 L R ao cap H a hal hsound) fun v hv => ⟨.a (.v (.int .i64 (a : Nat))), trivial, (by rw [hv, hla]; rfl), ?_⟩
    refine oj_run TT rfl ?_
    refine oj_split 133 rfl (fun _ => ?_) (fun h => absurd (show decide ((a : Int) = a) = false from h) (by simp))
    refine oj_run TT rfl ?_
    refine oj_callP rfl rfl rfl rfl rfl Tryd.call25 (by (repeat' (first | exact trivial | exact vCells_lt _ _ _ _ _ _ | constructor))) (Count_c wv σ3 _ V'.rep (by omega)) fun v hv => ⟨.a (.v (.int .i64 1)), trivial, (by rw [hv, hc1]; rfl), ?_⟩
    refine oj_run TT rfl ?_
    (repeat (first | refine oj_then ?_ | refine cj_ret ?_ | refine nj_then_ret ?_))
    refine nj_ret TT rfl fun β w' _ _ => ?_
    rfl
  have h0 : ¬ ks.length = 0 := by have := of_decide_eq_false h; omega
  have hnl : ks.length - 1 < ks.length := by omega
  have hkr : (kidRows ks)[((ks.length : Int) - 1).toNat]? = some [.v (.int .i64 (ks[ks.length - 1] : Nat))] := by
    rw [show ((ks.length : Int) - 1).toNat = ks.length - 1 by omega]
    unfold kidRows
    rw [List.getElem?_map, List.getElem?_eq_getElem hnl]
    rfl
  have hkk := hkl2 _ (List.getElem?_eq_getElem hnl)
  obtain ⟨-, hmc⟩ := hkp _ _ (List.getElem?_eq_getElem hnl)
  generalize ks[ks.length - 1] = m at *
  (repeat (first | refine cj_seq ?_ | refine cj_skip ?_ | refine nj_then ?_))
  refine cj_draw [(0,.pure),(1,.pure),(2,.pure),(3,.pure),(5,.pure),(6,.pure),(7,.pure),(8,.pure),(9,.pure),(10,.pure),(11,.quiet),(4,.keep),(12,.keep),(13,.pure),(14,.pure),(15,.pure),(16,.pure),(17,.pure),(19,.pure),(22,.quiet),(18,.keep),(20,.pure),(21,.pure),(23,.keep),(24,.pure),(25,.pure),(26,.pure)] mixed (by kernel_rfl) (oj_run TT rfl ?_)
  refine oj_minus rfl rfl rfl rfl rfl rfl (by omega) (oj_run TT rfl ?_)
  refine oj_idx TT rfl rfl rfl rfl rfl rfl rfl rfl rfl HK (by omega) hkr (oj_run TT rfl ?_)
  refine oj_callP rfl rfl rfl rfl rfl Tryd.call40 (by (repeat' (first | exact trivial | constructor))) (Last_c σ3 L R ao cap H a hal hsound) fun v hv => ⟨.a (.v (.int .i64 (lastG L a))), trivial, hv.symm, ?_⟩
  refine oj_run TT rfl ?_
  refine oj_callP rfl rfl rfl rfl rfl Tryd.call40 (by (repeat' (first | exact trivial | constructor))) (Last_c σ3 L R ao cap H m (by omega) hsound) fun v hv => ⟨.a (.v (.int .i64 (lastG L a))), trivial, (by rw [hv, hkk]; rfl), ?_⟩
  refine oj_run TT rfl ?_
  refine oj_split 153 rfl (fun _ => ?_) (fun h => absurd (show decide (lastG L a = lastG L a) = false from h) (by simp))
  refine oj_run TT rfl ?_
  refine oj_callP rfl rfl rfl rfl rfl Tryd.call40 (by (repeat' (first | exact trivial | constructor))) (Last_c σ3 L R ao cap H a hal hsound) fun v hv => ⟨.a (.v (.int .i64 (lastG L a))), trivial, hv.symm, ?_⟩
  refine oj_run TT rfl ?_
  refine oj_minus rfl rfl rfl rfl rfl rfl (by omega) (oj_run TT rfl ?_)
  refine oj_add rfl rfl rfl rfl rfl rfl (by omega) (oj_run TT rfl ?_)
  refine oj_callP rfl rfl rfl rfl rfl Tryd.call25 (by (repeat' (first | exact trivial | exact vCells_lt _ _ _ _ _ _ | constructor))) (Count_c wv σ3 _ V'.rep (by omega)) fun v hv => ⟨.a (.v (.int .i64 (cntV wv))), trivial, hv.symm, ?_⟩
  refine oj_run TT rfl ?_
  (repeat (first | refine oj_then ?_ | refine cj_ret ?_))
  refine nj_ret TT rfl fun β w' _ _ => ?_
  exact congrArg Value.bool (decide_eq_true (show lastG L a - a + 1 = cntV wv by omega))
end Go.Sy
/- From a row's data to what the walks ask: a value that is read in the world is a tree that lies in memory, all of it sealed. -/
namespace Go.Sy
open Go.ChangeShapes Go.RowKit

def snapOf (W : World) : Snap := fun b => W.heap[b]?
theorem snapOf_sealed (W : World) : Sealed (snapOf W) W := fun _ _ h => h
theorem snapOf_cell (W : World) (a : Addr) : (snapOf W).cell a = W.cell? a := rfl

/-- The types of a value: itself, its list, its members, a member, its number, text, number, truth. -/
structure VT (P : Program) (tV tL tM tE tD tS tI tB : TypeId) : Prop where
  v : ∃ fs : Array Field, P.underlying tV = some (.struct fs) ∧ fs.toList.map (fun f => (f.type, f.offset)) = [(tI, 0), (tB, 1), (tD, 2), (tS, 5), (tL, 6), (tM, 7)]
  l : P.underlying tL = some (.slice tV)
  m : P.underlying tM = some (.slice tE)
  e : ∃ fs : Array Field, P.underlying tE = some (.struct fs) ∧ fs.toList.map (fun f => (f.type, f.offset)) = [(tS, 0), (tV, 1)]
  d : ∃ fs : Array Field, P.underlying tD = some (.struct fs) ∧ fs.toList.map (fun f => (f.type, f.offset)) = [(tB, 0), (tS, 1), (tI, 2)]
  s : P.underlying tS = some .string
  i : P.underlying tI = some (.int .i64)
  b : P.underlying tB = some .bool
  cV : P.cellsOf tV = 8
  cE : P.cellsOf tE = 9
  cD : P.cellsOf tD = 3
  cS : P.cellsOf tS = 1
  cI : P.cellsOf tI = 1
  cB : P.cellsOf tB = 1
  cL : P.cellsOf tL = 1
  cM : P.cellsOf tM = 1
  bV : 0 < P.bytesOf tV
  bE : 0 < P.bytesOf tE

section
variable {H : Type} {enc : TypeId × Value → H} {P : Program} {w : World} {sp : Nat → Bool} {held : Bool}

theorem field_at {fs : Array Field} {l : List (TypeId × Nat)} (h : fs.toList.map (fun f => (f.type, f.offset)) = l) {i : Nat} {t : TypeId} {o : Nat} (hi : l[i]? = some (t, o)) :
    ∃ f, fs[i]? = some f ∧ f.type = t ∧ f.offset = o := by
  subst h
  rw [List.getElem?_map] at hi
  simp only [Option.map_eq_some_iff, Prod.mk.injEq] at hi
  obtain ⟨f, h1, h2, h3⟩ := hi
  exact ⟨f, by simpa using h1, h2, h3⟩

theorem open_struct {t : TypeId} {fs : Array Field} {l : List (TypeId × Nat)} {n : Nat} {cs : List Value} {x : DataW H × List MemPlace} (hu : P.underlying t = some (.struct fs)) (hl : fs.toList.map (fun f => (f.type, f.offset)) = l)
    (h : DataW.trod enc P w 0 sp held n t cs = some x) :
    ∃ m, m < n ∧ cs.length = P.cellsOf t ∧ ∀ (i : Nat) (u : TypeId) (o : Nat), l[i]? = some (u, o) → ∃ y : DataW H × List MemPlace, DataW.trod enc P w 0 sp held m u ((cs.drop o).take (P.cellsOf u)) = some y ∧ ∀ k ∈ y.1.weights P u, k ∈ x.1.weights P t := by
  obtain ⟨xs, m, rfl, rfl, h1, h2, h3⟩ := DataW.trod_struct hu h
  refine ⟨m, by omega, h1, fun i u o hi => ?_⟩
  obtain ⟨f, hf, rfl, rfl⟩ := field_at hl hi
  have hi' : i < xs.length := by
    rw [h2]
    have := (List.getElem?_eq_some_iff.1 (show fs.toList[i]? = some f by simpa using hf)).1
    simpa using this
  refine ⟨xs[i], by rw [h3 i f hf, List.getElem?_eq_getElem hi'], fun k hk => ?_⟩
  rw [DataW.weights.eq_def]
  simp only [hu]
  exact DataW.weights_mem_each (j := i) (t := f.type) (d := xs[i].1) (by simp; exact ⟨f, by simpa using hf, rfl⟩) (by simp [List.getElem?_eq_getElem hi']) k hk

theorem weightsAll_mem {e : TypeId} : ∀ {ds : List (DataW H)} {d : DataW H}, d ∈ ds → ∀ k ∈ d.weights P e, k ∈ DataW.weightsAll P e ds
  | _ :: _, _, .head _, k, hk => by rw [DataW.weightsAll]; exact List.mem_append_left _ hk
  | _ :: _, _, .tail _ h, k, hk => by rw [DataW.weightsAll]; exact List.mem_append_right _ (weightsAll_mem h k hk)

theorem open_sl {t e : TypeId} {n sz : Nat} {c : Value} {x : DataW H × List MemPlace} (hu : P.underlying t = some (.slice e)) (hc : P.cellsOf e = sz) (hb : 0 < P.bytesOf e) (h : DataW.trod enc P w 0 sp held n t [c] = some x)
    (hw : ∀ k ∈ x.1.weights P t, k ≤ reachBytes) :
    ∃ (ao : Option Addr) (len cap m : Nat), c = .slice ao len cap ∧ m < n ∧ len ≤ cap ∧ len ≤ reachBytes ∧
      (len = 0 ∨ ∃ a, ao = some a ∧ ∀ i, i < len → ∃ (cs : List Value) (y : DataW H × List MemPlace), cs.length = sz ∧ (∀ j v, cs[j]? = some v → w.cell? (a.add (i * sz + j)) = some v) ∧
        DataW.trod enc P w 0 sp held m e cs = some y ∧ ∀ k ∈ y.1.weights P e, k ∈ x.1.weights P t) := by
  rcases DataW.trod_slice hu h with ⟨h1, rfl⟩ | ⟨a, len, cap, elems, rest, m, rfl, h1, rfl, _, h3, h4, h5, h6, _, _⟩
  · injection h1 with h1
    subst h1
    refine ⟨none, 0, 0, 0, rfl, ?_, Nat.le_refl _, by decide, .inl rfl⟩
    cases n with
    | zero => simp [DataW.trod] at h
    | succ n => omega
  · injection h1 with h1
    subst h1
    have hwt : (DataW.slice (elems.map (·.1)) (rest.map (·.1)) : DataW H).weights P t = ((elems.map (·.1)).length + (rest.map (·.1)).length) * P.bytesOf e :: (DataW.weightsAll P e (elems.map (·.1)) ++ DataW.weightsAll P e (rest.map (·.1))) := by
      rw [DataW.weights.eq_def]
      simp only [hu]
    refine ⟨some a, len, cap, m, rfl, by omega, h3, ?_, .inr ⟨a, rfl, fun i hi => ?_⟩⟩
    · have := hw _ (by rw [hwt]; exact List.mem_cons_self)
      simp only [List.length_map] at this
      have h7 : elems.length ≤ (elems.length + rest.length) * P.bytesOf e := Nat.le_trans (Nat.le_add_right _ _) (Nat.le_mul_of_pos_right _ hb)
      omega
    · have hi' : i < elems.length := by omega
      have h8 := h6 i hi
      rw [List.getElem?_eq_getElem hi', hc] at h8
      obtain ⟨cs, h9, h10⟩ := Option.bind_eq_some_iff.1 h8
      obtain ⟨_, h11, h12⟩ := World.cells?_some h9
      refine ⟨cs, elems[i], h11, fun j v hj => ?_, h10, fun k hk => ?_⟩
      · have hj' : j < sz := by rw [← h11]; exact (List.getElem?_eq_some_iff.1 hj).1
        have := h12 j hj'
        rw [hj] at this
        rw [← this]
        congr 1
        exact (Addr.add_add _ _ _).symm
      · rw [hwt]
        exact List.mem_cons_of_mem _ (List.mem_append_left _ (weightsAll_mem (List.mem_map.2 ⟨elems[i], List.getElem_mem hi', rfl⟩) k hk))

theorem RepL.range {σ : Snap} {G : Nat → GVal} {R : Nat → List AT} : ∀ l : List Nat, (∀ i ∈ l, RepV σ (G i) (R i)) → RepL σ (l.map G) (l.map R)
  | [], _ => by simp [RepL]
  | a :: l, h => by
    simp only [List.map_cons, RepL]
    exact ⟨R a, l.map R, rfl, h a List.mem_cons_self, RepL.range l fun i hi => h i (List.mem_cons_of_mem _ hi)⟩

theorem keyRows_range (K : Nat → ByteArray) (R : Nat → List AT) : ∀ l : List Nat, keyRows (l.map K) (l.map R) = l.map fun i => keyRow (K i) (R i)
  | [] => rfl
  | a :: l => by simp [keyRows, keyRows_range K R l]

/-- What each of its elements is, read off the memory. -/
theorem slAt_range {ao : Option Addr} {len cap sz : Nat} {R : Nat → List AT} (h1 : len ≤ cap) (h2 : ∀ i, i < len → (R i).length = sz ∧ ∀ c ∈ R i, c.lt 0)
    (h3 : len = 0 ∨ ∃ a, ao = some a ∧ ∀ i, i < len → ∀ j v, ((R i).map (AT.den β0))[j]? = some v → w.cell? (a.add (i * sz + j)) = some v) : SlAt (snapOf w) ao len cap sz ((List.range len).map R) := by
  refine ⟨by simp, h1, fun r hr => ?_, ?_⟩
  · obtain ⟨i, hi, rfl⟩ := List.mem_map.1 hr
    exact h2 i (List.mem_range.1 hi)
  · rcases h3 with h3 | ⟨a, h3, h4⟩
    · exact .inl h3
    · refine .inr ⟨a, h3, fun i r j c hr hc => ?_⟩
      rw [List.getElem?_map] at hr
      obtain ⟨i', h5, rfl⟩ := Option.map_eq_some_iff.1 hr
      obtain ⟨h6, h7⟩ := List.getElem?_eq_some_iff.1 h5
      have h8 : i < len := by simpa using h6
      have h9 : i' = i := by simpa using h7.symm
      subst h9
      rw [snapOf_cell]
      exact h4 i' h8 j _ (by rw [List.getElem?_map, hc]; rfl)

variable {tV tL tM tE tD tS tI tB : TypeId}

theorem open_str {n : Nat} {t : TypeId} {c : Value} {x : DataW H × List MemPlace} (hu : P.underlying t = some .string) (h : DataW.trod enc P w 0 sp held n t [c] = some x) (hw : ∀ k ∈ x.1.weights P t, k ≤ reachBytes) :
    ∃ s : ByteArray, c = .string s ∧ s.size ≤ mostLen := by
  obtain ⟨s, h1, rfl, _⟩ := DataW.trod_string hu h
  injection h1 with h1
  subst h1
  refine ⟨s, rfl, ?_⟩
  have := hw s.data.toList.length (by rw [DataW.weights.eq_def]; exact List.mem_cons_self)
  have h2 : s.data.toList.length = s.size := rfl
  rw [h2] at this
  exact this

/-- A VALUE THAT IS READ is a tree, and lies there. -/
theorem open_val (T : VT P tV tL tM tE tD tS tI tB) : ∀ (n : Nat) (cs : List Value) (x : DataW H × List MemPlace), DataW.trod enc P w 0 sp held n tV cs = some x → (∀ k ∈ x.1.weights P tV, k ≤ reachBytes) →
    ∃ (g : GVal) (r : List AT), cs = r.map (AT.den β0) ∧ RepV (snapOf w) g r := by
  intro n
  induction n using Nat.strongRecOn with
  | _ n ih => ?_
  intro cs x h hw
  obtain ⟨fs, hu, hl⟩ := T.v
  obtain ⟨m, hm, hlen, hf⟩ := open_struct hu hl h
  rw [T.cV] at hlen
  match cs, hlen with
  | [c0, c1, c2, c3, c4, c5, c6, c7], _ =>
  obtain ⟨y0, h0, _⟩ := hf 0 tI 0 rfl
  obtain ⟨y1, h1, _⟩ := hf 1 tB 1 rfl
  obtain ⟨y2, h2, w2⟩ := hf 2 tD 2 rfl
  obtain ⟨y3, h3, w3⟩ := hf 3 tS 5 rfl
  obtain ⟨y4, h4, w4⟩ := hf 4 tL 6 rfl
  obtain ⟨y5, h5, w5⟩ := hf 5 tM 7 rfl
  rw [T.cI] at h0
  rw [T.cB] at h1
  rw [T.cD] at h2
  rw [T.cS] at h3
  rw [T.cL] at h4
  rw [T.cM] at h5
  simp only [List.drop_zero, List.drop_succ_cons, List.take_succ_cons, List.take_zero] at h0 h1 h2 h3 h4 h5
  obtain ⟨k, e0, -, -⟩ := DataW.trod_int T.i h0
  obtain ⟨b, e1, -⟩ := DataW.trod_bool T.b h1
  obtain ⟨s, e5, hs⟩ := open_str T.s h3 fun k hk => hw k (w3 k hk)
  obtain ⟨fd, hud, hld⟩ := T.d
  obtain ⟨md, hmd, -, hfd⟩ := open_struct hud hld h2
  obtain ⟨z0, g0, _⟩ := hfd 0 tB 0 rfl
  obtain ⟨z1, g1, v1⟩ := hfd 1 tS 1 rfl
  obtain ⟨z2, g2, _⟩ := hfd 2 tI 2 rfl
  rw [T.cB] at g0
  rw [T.cS] at g1
  rw [T.cI] at g2
  simp only [List.drop_zero, List.drop_succ_cons, List.take_succ_cons, List.take_zero] at g0 g1 g2
  obtain ⟨ng, e2, -⟩ := DataW.trod_bool T.b g0
  obtain ⟨dg, e3, hdg⟩ := open_str T.s g1 fun k hk => hw k (w2 k (v1 k hk))
  obtain ⟨ex, e4, -, -⟩ := DataW.trod_int T.i g2
  injection e0 with e0
  injection e1 with e1
  injection e2 with e2
  injection e4 with e4
  subst e0 e1 e2 e3 e4 e5
  obtain ⟨la, ll, lc, ml, rfl, hml, hll, hlr, hle⟩ := open_sl T.l T.cV T.bV h4 fun k hk => hw k (w4 k hk)
  obtain ⟨ma, lm, mc, mm, rfl, hmm, hlm, hmr, hme⟩ := open_sl T.m T.cE T.bE h5 fun k hk => hw k (w5 k hk)
  have HL : ∀ i, ∃ gr : GVal × List AT, i < ll → RepV (snapOf w) gr.1 gr.2 ∧ ∀ a, la = some a → ∀ j v, (gr.2.map (AT.den β0))[j]? = some v → w.cell? (a.add (i * 8 + j)) = some v := by
    intro i
    by_cases hi : i < ll
    · rcases hle with h0 | ⟨a, rfl, hle⟩
      · omega
      · obtain ⟨cs, y, _, q2, q3, q4⟩ := hle i hi
        obtain ⟨g, r, rfl, hr⟩ := ih ml (by omega) cs y q3 fun k hk => hw k (w4 k (q4 k hk))
        exact ⟨(g, r), fun _ => ⟨hr, fun a' ha => by injection ha with ha; subst ha; exact q2⟩⟩
    · exact ⟨(.mk 0 false ⟨false, ⟨#[]⟩, 0⟩ ⟨#[]⟩ [] [] [], []), fun h => absurd h hi⟩
  have HM : ∀ i, ∃ gr : ByteArray × GVal × List AT, i < lm → gr.1.size ≤ mostLen ∧ RepV (snapOf w) gr.2.1 gr.2.2 ∧ ∀ a, ma = some a → ∀ j v, ((keyRow gr.1 gr.2.2).map (AT.den β0))[j]? = some v → w.cell? (a.add (i * 9 + j)) = some v := by
    intro i
    by_cases hi : i < lm
    · rcases hme with h0 | ⟨a, rfl, hme⟩
      · omega
      · obtain ⟨cs, y, q1, q2, q3, q4⟩ := hme i hi
        obtain ⟨fe, hue, hle'⟩ := T.e
        obtain ⟨me, hme', -, hfe⟩ := open_struct hue hle' q3
        obtain ⟨u0, p0, x0⟩ := hfe 0 tS 0 rfl
        obtain ⟨u1, p1, x1⟩ := hfe 1 tV 1 rfl
        rw [T.cS] at p0
        rw [T.cV] at p1
        match cs, q1 with
        | c :: cs', q1 =>
          simp only [List.drop_zero, List.drop_succ_cons, List.take_succ_cons, List.take_zero] at p0 p1
          rw [List.take_of_length_le (by simp at q1; omega)] at p1
          obtain ⟨key, rfl, hk⟩ := open_str T.s p0 fun k hk => hw k (w5 k (q4 k (x0 k hk)))
          obtain ⟨g, r, rfl, hr⟩ := ih me (by omega) cs' u1 p1 fun k hk => hw k (w5 k (q4 k (x1 k hk)))
          exact ⟨(key, g, r), fun _ => ⟨hk, hr, fun a' ha => by injection ha with ha; subst ha; exact q2⟩⟩
    · exact ⟨(⟨#[]⟩, .mk 0 false ⟨false, ⟨#[]⟩, 0⟩ ⟨#[]⟩ [] [] [], []), fun h => absurd h hi⟩
  obtain ⟨FL, HL⟩ := Classical.axiomOfChoice HL
  obtain ⟨FM, HM⟩ := Classical.axiomOfChoice HM
  refine ⟨.mk k b ⟨ng, dg, ex⟩ s ((List.range ll).map fun i => (FL i).1) ((List.range lm).map fun i => (FM i).1) ((List.range lm).map fun i => (FM i).2.1),
    [.v (.int .i64 k), .b b, .b ng, .v (.string dg), .v (.int .i64 ex), .v (.string s), .v (.slice la ll lc), .v (.slice ma lm mc)], rfl, ?_⟩
  simp only [RepV]
  refine ⟨la, lc, (List.range ll).map fun i => (FL i).2, ma, mc, (List.range lm).map fun i => (FM i).2.2, by simp, ?_, RepL.range _ fun i hi => (HL i (List.mem_range.1 hi)).1, by simp, ?_, RepL.range _ fun i hi => (HM i (List.mem_range.1 hi)).2.1, hdg, hs, by simpa [mostLen, reachBytes] using hlr, by simpa [mostLen, reachBytes] using hmr, ?_⟩
  · simp only [List.length_map, List.length_range]
    refine slAt_range hll (fun i hi => ⟨(HL i hi).1.len, (HL i hi).1.clo⟩) ?_
    rcases hle with h0 | ⟨a, rfl, _⟩
    · exact .inl h0
    · exact .inr ⟨a, rfl, fun i hi => (HL i hi).2 a rfl⟩
  · rw [keyRows_range]
    simp only [List.length_map, List.length_range]
    refine slAt_range hlm (fun i hi => ⟨by simp [keyRow, (HM i hi).2.1.len], fun c hc => ?_⟩) ?_
    · cases hc with
      | head => trivial
      | tail _ hc => exact (HM i hi).2.1.clo c hc
    · rcases hme with h0 | ⟨a, rfl, _⟩
      · exact .inl h0
      · exact .inr ⟨a, rfl, fun i hi => (HM i hi).2.2 a rfl⟩
  · intro key hk
    obtain ⟨i, hi, rfl⟩ := List.mem_map.1 hk
    exact (HM i (List.mem_range.1 hi)).1

end
end Go.Sy
/- The closing of a law's row, alike from law to law. -/
namespace Go.Sy
open Go.ChangeShapes Go.RowKit

section
variable {H : Type} {enc : TypeId × Value → H} {P : Program} {W W' : World} {sp : Nat → Bool}

theorem trodAll_stays {T : TypeId → Prop} (K : _root_.Go.Kids P T) (hz : ∀ t e, T t → P.underlying t = some (.slice e) → 0 < P.cellsOf e) :
    ∀ {ts : List TypeId} {vs : List Value} {ds : List (DataW H)} {ps : List MemPlace}, (∀ t ∈ ts, T t) → DataW.TrodAll enc P W 0 (fun _ => true) true ts vs ds ps →
      (∀ p ∈ ps, W.sameAt W' p) → (∀ p ∈ ps, sp p.block = true) → DataW.TrodAll enc P W' 0 sp true ts vs ds ps
  | [], [], [], _, _, h, _, _ => h
  | _ :: _, _ :: _, _ :: _, _, hT, ⟨p, q, ⟨n, h1⟩, h2, e⟩, hs, hb =>
    ⟨p, q, ⟨n, DataW.trod_stays K (fun ht hu => hz _ _ ht hu) (fun h => by cases h) (hT _ List.mem_cons_self) h1 (fun x hx => hs x (by rw [e]; exact List.mem_append_left _ hx)) (fun x hx => hb x (by rw [e]; exact List.mem_append_left _ hx))⟩,
      trodAll_stays K hz (fun t ht => hT t (List.mem_cons_of_mem _ ht)) h2 (fun x hx => hs x (by rw [e]; exact List.mem_append_right _ hx)) (fun x hx => hb x (by rw [e]; exact List.mem_append_right _ hx)), e⟩

theorem below_of_fr {M : Nat → Prop} {w w' : World} (h : Fr M w w') (hM : ∀ b, ¬ M b) : Below w.heap.size w w' := ⟨h.os, h.tape, h.output, h.size, fun k hk => h.block k hk (hM k)⟩

/-- A law's answer is true and nothing that was there has turned. -/
theorem post_of_law {f : Func} {s : ChangeSpec} {apart fresh handsOn again : Bool} {args : Array Value} {ds gs : List (DataW H)} {before : List MemPlace} {tB : TypeId}
    (hl : laidOutB P = true) (hm : mapsRowed P = true) (hz : ∀ t e, t < P.types.size → P.underlying t = some (.slice e) → 0 < P.cellsOf e)
    (hts : ∀ t ∈ f.params.toList, t < P.types.size) (hr : f.resultTypes = #[tB]) (hB : P.underlying tB = some .bool) (hv : s.vars = [])
    (hres : (s.fn H (ds ++ gs)).results = [.lit (.bool true)]) (hargs : (s.fn H (ds ++ gs)).args = ds) (hvars : (s.fn H (ds ++ gs)).vars = [])
    (hW : DataW.Whole enc P f.params.toList s.vars apart W args.toList ds gs before) (hb : Below W.heap.size W W') :
    s.post enc P f apart fresh handsOn again W args (.bool true) W' := by
  have hW' := hW
  obtain ⟨p, q, hA, hV, rfl, hfz, hnd⟩ := hW
  rw [hv] at hV
  obtain ⟨rfl, rfl⟩ := trodVars_none hV
  have hlt : ∀ x ∈ p ++ ([] : List MemPlace), x.block < W.heap.size := fun x hx => hW'.lt x hx
  have h1 : ∀ (b : Nat) (sp : Nat → Bool) (hd : Bool), DataW.TrodAll enc P W' b sp hd f.resultTypes.toList ((Value.bool true).resultList f.resultTypes.size) (s.fn H (ds ++ [])).results [] := by
    intro b sp hd
    rw [hr, hres]
    exact trodAll_mk1 (shut_bool hB true)
  have h2 : ∀ sp : Nat → Bool, (∀ x ∈ p ++ ([] : List MemPlace), sp x.block = true) → DataW.TrodAll enc P W' 0 sp true f.params.toList args.toList (s.fn H (ds ++ [])).args p := by
    intro sp hs
    rw [hargs]
    exact trodAll_stays (T := (· < P.types.size)) (kids_rows hl hm) hz hts hA (fun x hx => hb.same (hlt x (List.mem_append_left _ hx))) (fun x hx => hs x (List.mem_append_left _ hx))
  have h3 : ∀ sp : Nat → Bool, DataW.TrodVars enc P W' sp s.vars (s.fn H (ds ++ [])).vars [] := by
    intro sp
    rw [hv, hvars]
    rfl
  have hold : ∀ x ∈ p ++ ([] : List MemPlace), (fun b => decide (b < W.heap.size)) x.block = true := fun x hx => by simpa using hlt x hx
  refine ⟨ds, [], _, [], p, [], hW', h1 _ _ _, h2 _ hold, h3 _, hb.frame _, fun _ => ⟨ok_one hr rfl (okWide_bool_mk hB _), _, _, ([] ++ p) ++ [], ⟨[] ++ p, [], trodAll_append (h2 _ (fun _ _ => rfl)) (h1 _ _ _), h3 _, rfl, ?_, ?_⟩, ?_⟩⟩
  · intro b off hp
    have hp' : MemPlace.cell b off ∈ p ++ ([] : List MemPlace) := by simpa using hp
    rw [hb.frozen (p := ⟨b, off, none⟩) (hlt _ hp')]
    exact hfz b off hp'
  · intro ha
    have := hnd ha
    simpa using this
  · intro x hp _
    simpa using hp

theorem okWide_agg {tV tL tM tE tD tS tI tB : TypeId} (T : VT P tV tL tM tE tD tS tI tB) {r : Reach} {base : Nat} {v : Value} (h : Value.okWide P W r base tV v) : ∃ cs : Array Value, v = .agg cs ∧ cs.size = P.cellsOf tV := by
  obtain ⟨fs, hu, _⟩ := T.v
  unfold Value.okWide at h
  rw [hu] at h
  obtain ⟨cs, h1, h2, _⟩ := h
  exact ⟨cs, h1, h2⟩

theorem weights_le {ts : List TypeId} {ds : List (DataW H)} (h : (DataW.weightsEach P ts ds).all (· ≤ reachBytes) = true) {j : Nat} {t : TypeId} {d : DataW H} (ht : ts[j]? = some t) (hd : ds[j]? = some d) : ∀ k ∈ d.weights P t, k ≤ reachBytes := by
  intro k hk
  have := List.all_eq_true.1 h k (DataW.weights_mem_each ht hd k hk)
  simpa using this

end
end Go.Sy
/- Closed facts of the program that every row's closing asks. -/
namespace Go.Proofs.YtadnijcgohflhaaDoor.Row
open Go Go.Proofs Go.Sy Go.ChangeShapes Go.WideShapes Go.ChangeAt Go.RowKit
set_option maxRecDepth 100000

theorem own : ownKnob Tryd.prog.godebug = none := by kernel_rfl
theorem laidOut : laidOutB Tryd.prog = true := by kernel_rfl
theorem rowed : mapsRowed Tryd.prog = true := by kernel_rfl
theorem full : ∀ t e, t < Tryd.prog.types.size → Tryd.prog.underlying t = some (.slice e) → 0 < Tryd.prog.cellsOf e := slices_full_of Tryd.prog (by kernel_rfl)
theorem vt : VT Tryd.prog 27 24 25 125 23 9 3 4 where
  v := ⟨_, Tryd.underlying27, rfl⟩
  l := by kernel_rfl
  m := by kernel_rfl
  e := ⟨_, Tryd.underlying125, rfl⟩
  d := ⟨_, Tryd.underlying23, rfl⟩
  s := by kernel_rfl
  i := by kernel_rfl
  b := by kernel_rfl
  cV := by kernel_rfl
  cE := by kernel_rfl
  cD := by kernel_rfl
  cS := by kernel_rfl
  cI := by kernel_rfl
  cB := by kernel_rfl
  cL := by kernel_rfl
  cM := by kernel_rfl
  bV := of_decide_eq_true (by kernel_rfl)
  bE := of_decide_eq_true (by kernel_rfl)
end Go.Proofs.YtadnijcgohflhaaDoor.Row
