/- Parts of the proof of CShredIs: F67, F68, Lr, F69, F70. No conditions. -/
import Derived.Test.YtadnijcgohflhaaDoorM8
namespace Go.Sy
open Go.Proofs

/-! ### The reference's characters -/

set_option maxRecDepth 100000 in
set_option maxHeartbeats 1000000 in
theorem rvalid_c (σ : Snap) (r : Int) : PlainS Tryd.prog 169 [.a (.v (.int .i64 r))] σ (fun v => v = .bool (soundR r)) := by
  refine enter_p Tryd.func169 rfl rfl (by (repeat' (first | exact trivial | constructor))) fun w => ?_
  (repeat (first | refine cj_seq ?_ | (refine cj_region ?_; refine oj_run TT rfl ?_) | refine oj_then ?_))
  refine oj_split 5 rfl (fun h => ?_) (fun h => ?_) <;> refine oj_run TT rfl ?_
  · refine oj_split 9 rfl (fun h' => ?_) (fun h' => ?_) <;> refine oj_run TT rfl ?_
    · (repeat (first | refine oj_then ?_ | refine cj_ret ?_))
      refine nj_ret TT rfl fun β w' _ _ => ?_
      show Value.bool true = _
      rw [soundR, h, h']
      rfl
    · refine oj_split 12 rfl (fun h2 => ?_) (fun h2 => ?_) <;> (refine oj_run TT rfl ?_) <;> (repeat (first | refine oj_then ?_ | refine cj_ret ?_))
      · refine nj_ret TT rfl fun β w' _ _ => ?_
        show Value.bool _ = _
        rw [soundR, h, h', h2]
        rfl
      · refine nj_ret TT rfl fun β w' _ _ => ?_
        show Value.bool _ = _
        rw [soundR, h, h', h2]
        rfl
  · refine oj_split 12 rfl (fun h2 => ?_) (fun h2 => ?_) <;> (refine oj_run TT rfl ?_) <;> (repeat (first | refine oj_then ?_ | refine cj_ret ?_))
    · refine nj_ret TT rfl fun β w' _ _ => ?_
      show Value.bool _ = _
      rw [soundR, h, h2]
      rfl
    · refine nj_ret TT rfl fun β w' _ _ => ?_
      show Value.bool _ = _
      rw [soundR, h, h2]
      rfl

/-- A character's bytes. -/
def enc (n : Nat) : List UInt8 :=
  if n < 128 then [UInt8.ofNat n]
  else if n < 2048 then [UInt8.ofNat (192 + n / 64), UInt8.ofNat (128 + n % 64)]
  else if n < 65536 then [UInt8.ofNat (224 + n / 4096), UInt8.ofNat (128 + n / 64 % 64), UInt8.ofNat (128 + n % 64)]
  else [UInt8.ofNat (240 + n / 262144), UInt8.ofNat (128 + n / 4096 % 64), UInt8.ofNat (128 + n / 64 % 64), UInt8.ofNat (128 + n % 64)]
theorem enc_len (n : Nat) : (enc n).length ≤ 4 := by
  unfold enc
  split
  · exact Nat.le_of_ble_eq_true rfl
  split
  · exact Nat.le_of_ble_eq_true rfl
  split
  · exact Nat.le_of_ble_eq_true rfl
  · exact Nat.le_of_ble_eq_true rfl
theorem w8 (k : Nat) : IntKind.u8.wrap (k : Int) = ((UInt8.ofNat k).toNat : Int) := by
  have e1 : (UInt8.ofNat k).toNat = k % 256 := UInt8.toNat_ofNat'
  rw [e1]
  show (k : Int) % 256 = _
  omega
theorem bRows_all (l : List UInt8) : ∀ r ∈ bRows l, r.length = 1 ∧ ∀ c ∈ r, c.lt 0 := by
  intro r hr
  obtain ⟨x, _, rfl⟩ := List.mem_map.1 hr
  exact ⟨rfl, fun c hc => by rw [List.mem_singleton.1 hc]; trivial⟩

set_option maxRecDepth 100000 in
set_option maxHeartbeats 1000000 in
theorem rbytes_c (σ : Snap) (n : Nat) (hn : n < 1114112) :
    PureS Tryd.prog 171 [.a (.v (.int .i64 n))] σ (fun v σ' => ∃ ao cap, v = .slice ao (enc n).length cap ∧ SlAt σ' ao (enc n).length cap 1 (bRows (enc n))) := by
  have q1 : ∀ a : Nat, ((a : Int)).tdiv 64 = ((a / 64 : Nat) : Int) := fun _ => rfl
  have q2 : ((n : Int)).tdiv 4096 = ((n / 4096 : Nat) : Int) := rfl
  have q3 : ((n : Int)).tdiv 262144 = ((n / 262144 : Nat) : Int) := rfl
  have q4 : ∀ a : Nat, ((a : Int)).tmod 64 = ((a % 64 : Nat) : Int) := fun _ => rfl
  unfold enc
  refine enter_s Tryd.func171 rfl rfl (by (repeat' (first | exact trivial | constructor))) fun w => ?_
  (repeat (first | refine cj_seq ?_ | (refine cj_region ?_; refine oj_run TT rfl ?_) | refine oj_then ?_ | refine cj_block ?_))
  refine cj_if rfl (fun h => ?_) (fun h => ?_)
  · have h : n < 128 := by have := of_decide_eq_true h; omega
    rw [if_pos h]
    refine cj_seq ?_
    refine cj_region ?_
    refine oj_run TT rfl ?_
    refine oj_conv TT ((UInt8.ofNat n).toNat : Int) rfl rfl rfl rfl rfl rfl rfl rfl (w8 n) (oj_run TT rfl ?_)
    (repeat (first | refine oj_then ?_ | refine cj_ret ?_ | refine nj_then_ret ?_ | refine nj_block_ret ?_))
    refine nj_own 0 1 1 rfl (by (repeat' (first | exact trivial | refine AllLt.of ?_ | constructor))) rfl (by decide) fun g => ?_
    refine nj_seal 0 rfl rfl fun σ' hle hS => ?_
    refine nj_ret TT rfl fun β w' _ _ => ?_
    exact ⟨_, _, rfl, hS.sl (rows := bRows [UInt8.ofNat n]) rfl (bRows_all _) rfl rfl (Nat.le_refl _)⟩
  have h : ¬ n < 128 := by have := of_decide_eq_false h; omega
  rw [if_neg h]
  (repeat (first | refine cj_seq ?_ | (refine cj_region ?_; refine oj_run TT rfl ?_) | refine oj_then ?_))
  refine cj_if rfl (fun h2 => ?_) (fun h2 => ?_)
  · have h2 : n < 2048 := by have := of_decide_eq_true h2; omega
    rw [if_pos h2]
    refine cj_seq ?_
    refine cj_region ?_
    refine oj_run TT rfl ?_
    refine oj_quo rfl rfl rfl rfl rfl rfl (by decide) (by rw [q1]; omega) ?_
    rw [q1]
    refine oj_run TT rfl ?_
    refine oj_add rfl rfl rfl rfl rfl rfl (by omega) (oj_run TT rfl ?_)
    refine oj_conv TT ((UInt8.ofNat (192 + n / 64)).toNat : Int) rfl rfl rfl rfl rfl rfl rfl rfl (w8 _) (oj_run TT rfl ?_)
    refine oj_rem rfl rfl rfl rfl rfl rfl (by decide) ?_
    rw [q4]
    refine oj_run TT rfl ?_
    refine oj_add rfl rfl rfl rfl rfl rfl (by omega) (oj_run TT rfl ?_)
    refine oj_conv TT ((UInt8.ofNat (128 + n % 64)).toNat : Int) rfl rfl rfl rfl rfl rfl rfl rfl (w8 _) (oj_run TT rfl ?_)
    (repeat (first | refine oj_then ?_ | refine cj_ret ?_ | refine nj_then_ret ?_ | refine nj_block_ret ?_))
    refine nj_own 0 2 1 rfl (by (repeat' (first | exact trivial | refine AllLt.of ?_ | constructor))) rfl (by decide) fun g => ?_
    refine nj_seal 0 rfl rfl fun σ' hle hS => ?_
    refine nj_ret TT rfl fun β w' _ _ => ?_
    exact ⟨_, _, rfl, hS.sl (rows := bRows [UInt8.ofNat (192 + n / 64), UInt8.ofNat (128 + n % 64)]) rfl (bRows_all _) rfl rfl (Nat.le_refl _)⟩
  have h2 : ¬ n < 2048 := by have := of_decide_eq_false h2; omega
  rw [if_neg h2]
  (repeat (first | refine cj_seq ?_ | (refine cj_region ?_; refine oj_run TT rfl ?_) | refine oj_then ?_))
  refine cj_if rfl (fun h3 => ?_) (fun h3 => ?_)
  · have h3 : n < 65536 := by have := of_decide_eq_true h3; omega
    rw [if_pos h3]
    refine cj_seq ?_
    refine cj_region ?_
    refine oj_run TT rfl ?_
    refine oj_quo rfl rfl rfl rfl rfl rfl (by decide) (by rw [q2]; omega) ?_
    rw [q2]
    refine oj_run TT rfl ?_
    refine oj_add rfl rfl rfl rfl rfl rfl (by omega) (oj_run TT rfl ?_)
    refine oj_conv TT ((UInt8.ofNat (224 + n / 4096)).toNat : Int) rfl rfl rfl rfl rfl rfl rfl rfl (w8 _) (oj_run TT rfl ?_)
    refine oj_quo rfl rfl rfl rfl rfl rfl (by decide) (by rw [q1]; omega) ?_
    rw [q1]
    refine oj_run TT rfl ?_
    refine oj_rem rfl rfl rfl rfl rfl rfl (by decide) ?_
    rw [q4]
    refine oj_run TT rfl ?_
    refine oj_add rfl rfl rfl rfl rfl rfl (by omega) (oj_run TT rfl ?_)
    refine oj_conv TT ((UInt8.ofNat (128 + n / 64 % 64)).toNat : Int) rfl rfl rfl rfl rfl rfl rfl rfl (w8 _) (oj_run TT rfl ?_)
    refine oj_rem rfl rfl rfl rfl rfl rfl (by decide) ?_
    rw [q4]
    refine oj_run TT rfl ?_
    refine oj_add rfl rfl rfl rfl rfl rfl (by omega) (oj_run TT rfl ?_)
    refine oj_conv TT ((UInt8.ofNat (128 + n % 64)).toNat : Int) rfl rfl rfl rfl rfl rfl rfl rfl (w8 _) (oj_run TT rfl ?_)
    (repeat (first | refine oj_then ?_ | refine cj_ret ?_ | refine nj_then_ret ?_ | refine nj_block_ret ?_))
    refine nj_own 0 3 1 rfl (by (repeat' (first | exact trivial | refine AllLt.of ?_ | constructor))) rfl (by decide) fun g => ?_
    refine nj_seal 0 rfl rfl fun σ' hle hS => ?_
    refine nj_ret TT rfl fun β w' _ _ => ?_
    exact ⟨_, _, rfl, hS.sl (rows := bRows [UInt8.ofNat (224 + n / 4096), UInt8.ofNat (128 + n / 64 % 64), UInt8.ofNat (128 + n % 64)]) rfl (bRows_all _) rfl rfl (Nat.le_refl _)⟩
  have h3 : ¬ n < 65536 := by have := of_decide_eq_false h3; omega
  rw [if_neg h3]
  (repeat (first | refine cj_seq ?_ | (refine cj_region ?_; refine oj_run TT rfl ?_) | refine cj_skip ?_ | refine nj_then ?_ | refine nj_block ?_))
  refine oj_quo rfl rfl rfl rfl rfl rfl (by decide) (by rw [q3]; omega) ?_
  rw [q3]
  refine oj_run TT rfl ?_
  refine oj_add rfl rfl rfl rfl rfl rfl (by omega) (oj_run TT rfl ?_)
  refine oj_conv TT ((UInt8.ofNat (240 + n / 262144)).toNat : Int) rfl rfl rfl rfl rfl rfl rfl rfl (w8 _) (oj_run TT rfl ?_)
  refine oj_quo rfl rfl rfl rfl rfl rfl (by decide) (by rw [q2]; omega) ?_
  rw [q2]
  refine oj_run TT rfl ?_
  refine oj_rem rfl rfl rfl rfl rfl rfl (by decide) ?_
  rw [q4]
  refine oj_run TT rfl ?_
  refine oj_add rfl rfl rfl rfl rfl rfl (by omega) (oj_run TT rfl ?_)
  refine oj_conv TT ((UInt8.ofNat (128 + n / 4096 % 64)).toNat : Int) rfl rfl rfl rfl rfl rfl rfl rfl (w8 _) (oj_run TT rfl ?_)
  refine oj_quo rfl rfl rfl rfl rfl rfl (by decide) (by rw [q1]; omega) ?_
  rw [q1]
  refine oj_run TT rfl ?_
  refine oj_rem rfl rfl rfl rfl rfl rfl (by decide) ?_
  rw [q4]
  refine oj_run TT rfl ?_
  refine oj_add rfl rfl rfl rfl rfl rfl (by omega) (oj_run TT rfl ?_)
  refine oj_conv TT ((UInt8.ofNat (128 + n / 64 % 64)).toNat : Int) rfl rfl rfl rfl rfl rfl rfl rfl (w8 _) (oj_run TT rfl ?_)
  refine oj_rem rfl rfl rfl rfl rfl rfl (by decide) ?_
  rw [q4]
  refine oj_run TT rfl ?_
  refine oj_add rfl rfl rfl rfl rfl rfl (by omega) (oj_run TT rfl ?_)
  refine oj_conv TT ((UInt8.ofNat (128 + n % 64)).toNat : Int) rfl rfl rfl rfl rfl rfl rfl rfl (w8 _) (oj_run TT rfl ?_)
  (repeat (first | refine oj_then ?_ | refine cj_ret ?_))
  refine nj_own 0 4 1 rfl (by (repeat' (first | exact trivial | refine AllLt.of ?_ | constructor))) rfl (by decide) fun g => ?_
  refine nj_seal 0 rfl rfl fun σ' hle hS => ?_
  refine nj_ret TT rfl fun β w' _ _ => ?_
  exact ⟨_, _, rfl, hS.sl (rows := bRows [UInt8.ofNat (240 + n / 262144), UInt8.ofNat (128 + n / 4096 % 64), UInt8.ofNat (128 + n / 64 % 64), UInt8.ofNat (128 + n % 64)]) rfl (bRows_all _) rfl rfl (Nat.le_refl _)⟩

/-! ### begins -/

def begB : List UInt8 → List UInt8 → Bool
  | _, [] => true
  | [], _ :: _ => false
  | x :: a, y :: b => decide (x = y) && begB a b
theorem begB_short : ∀ {a b : List UInt8}, a.length < b.length → begB a b = false
  | [], [], h => by simp at h
  | _ :: _, [], h => by simp at h
  | [], _ :: _, _ => rfl
  | x :: a, y :: b, h => by rw [begB, begB_short (a := a) (b := b) (by simpa using h), Bool.and_false]

set_option maxRecDepth 100000 in
set_option maxHeartbeats 1000000 in
theorem begins_c (σ : Snap) (a b : List UInt8) (ao bo : Option Addr) (ac bc : Nat) (HA : SlAt σ ao a.length ac 1 (bRows a)) (HB : SlAt σ bo b.length bc 1 (bRows b)) (hb : b.length ≤ mostLen) :
    PlainS Tryd.prog 170 [.a (.v (.slice ao a.length ac)), .a (.v (.slice bo b.length bc))] σ (fun v => v = .bool (begB a b)) := by
  simp only [mostLen] at hb
  refine enter_p Tryd.func170 rfl rfl (by (repeat' (first | exact trivial | constructor))) fun w => ?_
  (repeat (first | refine cj_seq ?_ | (refine cj_region ?_; refine oj_run TT rfl ?_) | refine oj_then ?_))
  refine cj_if rfl (fun h => ?_) (fun h => ?_)
  · have h : (a.length : Int) < b.length := of_decide_eq_true h
    rw [begB_short (by omega)]
    (repeat (first | refine cj_seq ?_ | (refine cj_region ?_; refine oj_run TT rfl ?_) | refine oj_then ?_ | refine cj_ret ?_ | refine nj_then_ret ?_))
    refine nj_ret TT rfl fun β w' _ _ => ?_
    rfl
  have hle : b.length ≤ a.length := by have := of_decide_eq_false h; omega
  (repeat (first | refine cj_seq ?_ | (refine cj_region ?_; refine oj_run TT rfl ?_) | refine oj_then ?_ | refine cj_skip ?_ | refine cj_block ?_ | refine nj_then ?_))
  refine cj_loop (fun (_ : Nat) => σ) (fun k => [(0, .a (.v (.slice ao a.length ac))), (1, .a (.v (.slice bo b.length bc))), (5, .a (.v (.int .i64 k)))]) (fun _ => []) (fun _ => []) 0
    (fun k => k ≤ b.length ∧ begB (a.drop k) (b.drop k) = begB a b) (fun k => b.length - k) 0 ⟨Nat.zero_le _, rfl⟩ rfl (by (repeat (first | exact trivial | refine And.intro rfl ?_))) (by (repeat (first | exact trivial | refine And.intro rfl ?_))) rfl (by (repeat' (first | exact trivial | constructor))) (by (repeat' exact trivial)) fun k ⟨hk, hp⟩ => ?_
  (repeat (first | refine cj_seq ?_ | (refine cj_region ?_; refine oj_run TT rfl ?_) | refine oj_then ?_))
  refine cj_if rfl (fun h => ?_) (fun h => ?_)
  rotate_left
  · have hk0 : k = b.length := by have := of_decide_eq_false h; omega
    subst hk0
    rw [List.drop_length, begB] at hp
    (repeat (first | refine cj_seq ?_ | (refine cj_region ?_; refine oj_run TT rfl ?_) | refine oj_then ?_ | refine cj_exit ?_ | refine cj_ret ?_ | refine nj_then ?_ | refine nj_then_exit ?_ | refine nj_block_out ?_))
    refine nj_ret TT rfl fun β w' _ _ => ?_
    rw [← hp]
    rfl
  have hkb : k < b.length := by have := of_decide_eq_true h; omega
  have hka : k < a.length := by omega
  have hra := bRows_get (List.getElem?_eq_getElem hka)
  have hrb := bRows_get (List.getElem?_eq_getElem hkb)
  rw [List.drop_eq_getElem_cons hka, List.drop_eq_getElem_cons hkb, begB] at hp
  generalize a[k] = x at *
  generalize b[k] = y at *
  (repeat (first | refine cj_seq ?_ | refine cj_skip ?_ | refine cj_block ?_ | refine nj_then ?_))
  refine cj_draw [(0,.pure),(1,.pure),(2,.pure),(3,.quiet),(4,.pure),(5,.pure),(6,.pure),(7,.quiet),(8,.pure)] mixed (by kernel_rfl) (oj_run TT rfl ?_)
  refine oj_idx TT rfl rfl rfl rfl rfl rfl rfl rfl rfl HA (by omega) hra (oj_run TT rfl ?_)
  refine oj_idx TT rfl rfl rfl rfl rfl rfl rfl rfl rfl HB (by omega) hrb (oj_run TT rfl ?_)
  (repeat refine oj_then ?_)
  refine cj_if rfl (fun h => ?_) (fun h => ?_)
  · have h : ¬ x = y := by
      have h : (!decide ((x.toNat : Int) = y.toNat)) = true := h
      intro e
      subst e
      simp at h
    rw [decide_eq_false h, Bool.false_and] at hp
    (repeat (first | refine cj_seq ?_ | (refine cj_region ?_; refine oj_run TT rfl ?_) | refine oj_then ?_ | refine cj_ret ?_ | refine nj_then_ret ?_ | refine nj_block_ret ?_))
    refine nj_ret TT rfl fun β w' _ _ => ?_
    rw [← hp]
    rfl
  · have h : x = y := by
      have h : (!decide ((x.toNat : Int) = y.toNat)) = false := h
      exact UInt8.toNat_inj.1 (by have : (x.toNat : Int) = y.toNat := by simpa using h
                                  omega)
    rw [decide_eq_true h, Bool.true_and] at hp
    (repeat (first | (refine cj_region ?_; refine oj_run TT rfl ?_) | refine oj_nil ?_ | refine cj_skip ?_ | refine nj_then ?_ | refine nj_block ?_ | (refine oj_add rfl rfl rfl rfl rfl rfl (by omega) ?_; refine oj_run TT rfl ?_)))
    refine nj_again (k + 1) ⟨hkb, hp⟩ (by omega) rfl (by (repeat (first | exact trivial | refine And.intro rfl ?_))) (by (repeat (first | exact trivial | refine And.intro rfl ?_))) rfl (by (repeat' (first | exact trivial | constructor))) (by (repeat' exact trivial))
end Go.Sy
namespace Go.Sy
open Go.Proofs

/-- What a first byte holds, and of how many it is the first. -/
def rLead (b : Nat) : Nat × Nat := if 240 ≤ b then (b % 8, 4) else if 224 ≤ b then (b % 16, 3) else if 192 ≤ b then (b % 32, 2) else (b, 1)
theorem rLead_bd (b : Nat) (h : b < 256) : (rLead b).1 < 256 ∧ 1 ≤ (rLead b).2 ∧ (rLead b).2 ≤ 4 := by
  unfold rLead
  split
  · dsimp only; omega
  split
  · dsimp only; omega
  split
  · dsimp only; omega
  · dsimp only; omega
def rTail : Nat → List UInt8 → Nat
  | r, [] => r
  | r, c :: l => rTail (r * 64 + c.toNat % 64) l
def rNextAt (l : List UInt8) (L : Nat × Nat) : Int × Int :=
  if l.length < L.2 then (0, 0)
  else if soundR (rTail L.1 ((l.take L.2).drop 1)) = true ∧ begB l (enc (rTail L.1 ((l.take L.2).drop 1))) = true ∧ (enc (rTail L.1 ((l.take L.2).drop 1))).length = L.2
  then (IntKind.i32.wrap (rTail L.1 ((l.take L.2).drop 1)), L.2) else (0, 0)
/-- The reference's Next. -/
def rNext (l : List UInt8) : Int × Int :=
  match l with
  | [] => (0, 0)
  | u :: _ => rNextAt l (rLead u.toNat)

theorem w64 (k : Nat) (h : k < 9223372036854775808) : IntKind.i64.wrap (k : Int) = k := by
  unfold IntKind.wrap
  show (if (true && decide ((k : Int) % 18446744073709551616 ≥ 9223372036854775808)) = true then _ else (k : Int) % 18446744073709551616) = _
  have e : (k : Int) % 18446744073709551616 = k := by omega
  rw [e, if_neg (by simp; omega)]

set_option maxRecDepth 100000 in
set_option maxHeartbeats 1000000 in
theorem rNext_c (σ : Snap) (ao : Option Addr) (cap : Nat) (l : List UInt8) (H : SlAt σ ao l.length cap 1 (bRows l)) (hl : l.length ≤ mostLen) :
    PlainS Tryd.prog 163 [.a (.v (.slice ao l.length cap))] σ (fun v => v = (SV.tup [.a (.v (.int .i32 (rNext l).1)), .a (.v (.int .i64 (rNext l).2))]).den β0) := by
  simp only [mostLen] at hl
  refine enter_p Tryd.func163 rfl rfl (by (repeat' (first | exact trivial | constructor))) fun w => ?_
  (repeat (first | refine cj_seq ?_ | (refine cj_region ?_; refine oj_run TT rfl ?_) | refine oj_then ?_))
  refine cj_if rfl (fun h => ?_) (fun h => ?_)
  · have h : l.length = 0 := by have := of_decide_eq_true h; omega
    rw [List.length_eq_zero_iff.1 h]
    (repeat (first | refine cj_seq ?_ | (refine cj_region ?_; refine oj_run TT rfl ?_) | refine oj_then ?_ | refine cj_ret ?_ | refine nj_then_ret ?_))
    refine nj_ret TT rfl fun β w' _ _ => ?_
    rfl
  have h0 : 0 < l.length := by
    have h : ¬ (l.length : Int) = 0 := of_decide_eq_false h
    omega
  have hu : l[0]? = some l[0] := List.getElem?_eq_getElem h0
  have hnx : rNext l = rNextAt l (rLead l[0].toNat) := by
    cases l with
    | nil => simp at h0
    | cons u l => rfl
  rw [hnx]
  have hub : l[0].toNat < 256 := l[0].toNat_lt
  have hlb := rLead_bd l[0].toNat hub
  have hld : rLead l[0].toNat = if 240 ≤ l[0].toNat then (l[0].toNat % 8, 4) else if 224 ≤ l[0].toNat then (l[0].toNat % 16, 3) else if 192 ≤ l[0].toNat then (l[0].toNat % 32, 2) else (l[0].toNat, 1) := rfl
  have hr0 := bRows_get hu
  generalize l[0] = u at *
  generalize rLead u.toNat = L at *
  clear hnx hu
  (repeat (first | refine cj_seq ?_ | (refine cj_region ?_; refine oj_run TT rfl ?_) | refine cj_skip ?_ | refine nj_then ?_))
  refine oj_idx TT rfl rfl rfl rfl rfl rfl rfl rfl rfl H (by omega) hr0 (oj_run TT rfl ?_)
  refine oj_conv TT ((u.toNat : Nat) : Int) rfl rfl rfl rfl rfl rfl rfl rfl (w64 _ (by omega)) (oj_run TT rfl ?_)
  (repeat (first | refine cj_seq ?_ | (refine cj_region ?_; refine oj_run TT rfl ?_) | refine oj_then ?_ | refine cj_block ?_))
  refine cj_cutB (fun (_ : Unit) => σ) (fun _ => [(0, .a (.v (.slice ao l.length cap))), (4, .a (.v (.int .i64 L.1))), (5, .a (.v (.int .i64 L.2)))]) (fun _ => []) (fun _ => []) 0 (fun _ => True) ?_ (fun _ _ => ?_)
  · refine cj_if rfl (fun h => ?_) (fun h => ?_)
    · have h : 240 ≤ u.toNat := by have := of_decide_eq_true h; omega
      rw [if_pos h] at hld
      refine cj_seq ?_
      refine cj_region ?_
      refine oj_run TT rfl ?_
      refine oj_rem rfl rfl rfl rfl rfl rfl (by decide) ?_
      refine oj_run TT rfl ?_
      (repeat (first | (refine cj_region ?_; refine oj_run TT rfl ?_) | refine oj_then ?_ | refine oj_nil ?_ | refine nj_block ?_))
      rw [hld]
      refine nj_again () trivial Nat.zero_lt_one rfl (by (repeat (first | exact trivial | refine And.intro rfl ?_))) (by (repeat (first | exact trivial | refine And.intro rfl ?_))) rfl (by (repeat' (first | exact trivial | constructor))) (by (repeat' exact trivial))
    have h : ¬ 240 ≤ u.toNat := by have := of_decide_eq_false h; omega
    rw [if_neg h] at hld
    (repeat (first | refine cj_seq ?_ | (refine cj_region ?_; refine oj_run TT rfl ?_) | refine oj_then ?_))
    refine cj_if rfl (fun h2 => ?_) (fun h2 => ?_)
    · have h2 : 224 ≤ u.toNat := by have := of_decide_eq_true h2; omega
      rw [if_pos h2] at hld
      refine cj_seq ?_
      refine cj_region ?_
      refine oj_run TT rfl ?_
      refine oj_rem rfl rfl rfl rfl rfl rfl (by decide) ?_
      refine oj_run TT rfl ?_
      (repeat (first | (refine cj_region ?_; refine oj_run TT rfl ?_) | refine oj_then ?_ | refine oj_nil ?_ | refine nj_block ?_))
      rw [hld]
      refine nj_again () trivial Nat.zero_lt_one rfl (by (repeat (first | exact trivial | refine And.intro rfl ?_))) (by (repeat (first | exact trivial | refine And.intro rfl ?_))) rfl (by (repeat' (first | exact trivial | constructor))) (by (repeat' exact trivial))
    have h2 : ¬ 224 ≤ u.toNat := by have := of_decide_eq_false h2; omega
    rw [if_neg h2] at hld
    (repeat (first | refine cj_seq ?_ | (refine cj_region ?_; refine oj_run TT rfl ?_) | refine oj_then ?_))
    refine cj_if rfl (fun h3 => ?_) (fun h3 => ?_)
    · have h3 : 192 ≤ u.toNat := by have := of_decide_eq_true h3; omega
      rw [if_pos h3] at hld
      refine cj_seq ?_
      refine cj_region ?_
      refine oj_run TT rfl ?_
      refine oj_rem rfl rfl rfl rfl rfl rfl (by decide) ?_
      refine oj_run TT rfl ?_
      (repeat (first | (refine cj_region ?_; refine oj_run TT rfl ?_) | refine oj_then ?_ | refine oj_nil ?_ | refine nj_block ?_))
      rw [hld]
      refine nj_again () trivial Nat.zero_lt_one rfl (by (repeat (first | exact trivial | refine And.intro rfl ?_))) (by (repeat (first | exact trivial | refine And.intro rfl ?_))) rfl (by (repeat' (first | exact trivial | constructor))) (by (repeat' exact trivial))
    have h3 : ¬ 192 ≤ u.toNat := by have := of_decide_eq_false h3; omega
    rw [if_neg h3] at hld
    (repeat (first | refine cj_skip ?_ | refine nj_block ?_))
    rw [hld]
    refine nj_again () trivial Nat.zero_lt_one rfl (by (repeat (first | exact trivial | refine And.intro rfl ?_))) (by (repeat (first | exact trivial | refine And.intro rfl ?_))) rfl (by (repeat' (first | exact trivial | constructor))) (by (repeat' exact trivial))
  clear hld hr0 hub
  unfold rNextAt
  obtain ⟨L1, L2⟩ := L
  dsimp only at hlb ⊢
  (repeat (first | refine cj_seq ?_ | (refine cj_region ?_; refine oj_run TT rfl ?_) | refine oj_then ?_))
  refine cj_if rfl (fun h => ?_) (fun h => ?_)
  · have h : l.length < L2 := by have := of_decide_eq_true h; omega
    rw [if_pos h]
    (repeat (first | refine cj_seq ?_ | (refine cj_region ?_; refine oj_run TT rfl ?_) | refine oj_then ?_ | refine cj_ret ?_ | refine nj_then_ret ?_))
    refine nj_ret TT rfl fun β w' _ _ => ?_
    rfl
  have hle : L2 ≤ l.length := by have := of_decide_eq_false h; omega
  rw [if_neg (by omega)]
  (repeat (first | refine cj_seq ?_ | (refine cj_region ?_; refine oj_run TT rfl ?_) | refine oj_then ?_ | refine cj_skip ?_ | refine cj_block ?_ | refine nj_then ?_))
  refine cj_loop2 (fun _ _ => σ) (fun (k r : Nat) => [(0, .a (.v (.slice ao l.length cap))), (4, .a (.v (.int .i64 r))), (5, .a (.v (.int .i64 L2))), (6, .a (.v (.int .i64 k)))]) (fun _ _ => []) (fun _ _ => []) 0
    (fun k r => 1 ≤ k ∧ k ≤ L2 ∧ r < 4 * 64 ^ k ∧ rTail r ((l.take L2).drop k) = rTail L1 ((l.take L2).drop 1)) (fun k _ => L2 - k) 1 L1 ⟨Nat.le_refl _, hlb.2.1, by omega, rfl⟩ rfl (by (repeat (first | exact trivial | refine And.intro rfl ?_))) (by (repeat (first | exact trivial | refine And.intro rfl ?_))) rfl (by (repeat' (first | exact trivial | constructor))) (by (repeat' exact trivial)) fun k r ⟨hk1, hk2, hr, hp⟩ => ?_
  have hpw : 64 ^ k ≤ 64 ^ 4 := Nat.pow_le_pow_right (by decide) (by omega)
  have hpw' : 64 ^ (k + 1) = 64 ^ k * 64 := Nat.pow_succ ..
  have hpw4 : 64 ^ 4 = 16777216 := by decide
  (repeat (first | refine cj_seq ?_ | (refine cj_region ?_; refine oj_run TT rfl ?_) | refine oj_then ?_))
  refine cj_if rfl (fun h => ?_) (fun h => ?_)
  · have hkl : k < L2 := by have := of_decide_eq_true h; omega
    have hkt : k < (l.take L2).length := by rw [List.length_take]; omega
    have hkl' : k < l.length := by omega
    have hrow := bRows_get (List.getElem?_eq_getElem hkl')
    rw [List.drop_eq_getElem_cons hkt, List.getElem_take, rTail] at hp
    generalize l[k] = c at *
    have hc : c.toNat < 256 := c.toNat_lt
    have q1 : ∀ a : Nat, ((a : Int)).tmod 64 = ((a % 64 : Nat) : Int) := fun _ => rfl
    (repeat (first | refine cj_seq ?_ | (refine cj_region ?_; refine oj_run TT rfl ?_) | refine cj_skip ?_ | refine cj_block ?_ | refine nj_then ?_))
    refine oj_mul rfl rfl rfl rfl rfl rfl (by omega) (oj_run TT rfl ?_)
    refine oj_idx TT rfl rfl rfl rfl rfl rfl rfl rfl rfl H (by omega) hrow (oj_run TT rfl ?_)
    refine oj_conv TT ((c.toNat : Nat) : Int) rfl rfl rfl rfl rfl rfl rfl rfl (w64 _ (by omega)) (oj_run TT rfl ?_)
    refine oj_rem rfl rfl rfl rfl rfl rfl (by decide) ?_
    rw [q1]
    refine oj_run TT rfl ?_
    refine oj_add rfl rfl rfl rfl rfl rfl (by omega) (oj_run TT rfl ?_)
    (repeat (first | (refine cj_region ?_; refine oj_run TT rfl ?_) | refine oj_nil ?_ | refine nj_then ?_ | refine nj_block ?_ | (refine oj_add rfl rfl rfl rfl rfl rfl (by omega) ?_; refine oj_run TT rfl ?_)))
    refine nj_again (k + 1, r * 64 + c.toNat % 64) ⟨by dsimp only; omega, hkl, by dsimp only; omega, hp⟩ (by dsimp only; omega) rfl (by (repeat (first | exact trivial | refine And.intro rfl ?_))) (by (repeat (first | exact trivial | refine And.intro rfl ?_))) rfl (by (repeat' (first | exact trivial | constructor))) (by (repeat' exact trivial))
  have hk : k = L2 := by have := of_decide_eq_false h; omega
  rw [List.drop_of_length_le (by rw [List.length_take]; omega), rTail] at hp
  rw [← hp]
  (repeat (first | refine cj_seq ?_ | (refine cj_region ?_; refine oj_run TT rfl ?_) | refine cj_exit ?_ | refine nj_then ?_ | refine nj_then_exit ?_ | refine nj_block_out ?_))
  refine oj_callP rfl rfl rfl rfl rfl Tryd.call169 (by (repeat' (first | exact trivial | constructor))) (rvalid_c σ r) fun v hv => ⟨.a (.b (soundR r)), trivial, hv.symm, ?_⟩
  refine oj_run TT rfl ?_
  refine oj_split 50 rfl (fun h => ?_) (fun h => ?_)
  · have h : soundR r = false := by simpa using h
    rw [if_neg (by simp [h])]
    refine oj_run TT rfl ?_
    (repeat (first | refine cj_seq ?_ | (refine cj_region ?_; refine oj_run TT rfl ?_) | refine oj_then ?_ | refine cj_if_t rfl ?_ | refine cj_ret ?_ | refine nj_then_ret ?_))
    refine nj_ret TT rfl fun β w' _ _ => ?_
    rfl
  have h : soundR r = true := by simpa using h
  have hrb : r < 1114112 := by
    unfold soundR at h
    simp only [Bool.or_eq_true, Bool.and_eq_true, decide_eq_true_eq] at h
    omega
  refine oj_run TT rfl ?_
  refine oj_callS rfl rfl rfl rfl rfl Tryd.call171 (by (repeat' (first | exact trivial | constructor))) (rbytes_c σ r hrb) fun v σ2 hle2 ⟨ao2, cap2, hv, H2⟩ => ⟨.a (.v (.slice ao2 (enc r).length cap2)), trivial, hv.symm, ?_⟩
  refine oj_run TT rfl ?_
  refine oj_callP rfl rfl rfl rfl rfl Tryd.call170 (by (repeat' (first | exact trivial | constructor))) (begins_c σ2 l (enc r) ao ao2 cap cap2 (H.mono hle2) H2 (by have := enc_len r; simp only [mostLen]; omega)) fun v hv => ⟨.a (.b (begB l (enc r))), trivial, hv.symm, ?_⟩
  refine oj_run TT rfl ?_
  refine oj_split 57 rfl (fun h2 => ?_) (fun h2 => ?_)
  · have h2 : begB l (enc r) = false := by simpa using h2
    rw [if_neg (by simp [h2])]
    refine oj_run TT rfl ?_
    (repeat (first | refine cj_seq ?_ | (refine cj_region ?_; refine oj_run TT rfl ?_) | refine oj_then ?_ | refine cj_if_t rfl ?_ | refine cj_ret ?_ | refine nj_then_ret ?_))
    refine nj_ret TT rfl fun β w' _ _ => ?_
    rfl
  have h2 : begB l (enc r) = true := by simpa using h2
  refine oj_run TT rfl ?_
  refine oj_callS rfl rfl rfl rfl rfl Tryd.call171 (by (repeat' (first | exact trivial | constructor))) (rbytes_c σ2 r hrb) fun v σ3 hle3 ⟨ao3, cap3, hv, H3⟩ => ⟨.a (.v (.slice ao3 (enc r).length cap3)), trivial, hv.symm, ?_⟩
  refine oj_run TT rfl ?_
  (repeat refine oj_then ?_)
  refine cj_if rfl (fun h3 => ?_) (fun h3 => ?_)
  · have h3 : ¬ (enc r).length = L2 := by
      have h3 : (!decide (((enc r).length : Int) = L2)) = true := h3
      intro e
      rw [e] at h3
      simp at h3
    rw [if_neg (by simp [h3])]
    (repeat (first | refine cj_seq ?_ | (refine cj_region ?_; refine oj_run TT rfl ?_) | refine oj_then ?_ | refine cj_ret ?_ | refine nj_then_ret ?_))
    refine nj_ret TT rfl fun β w' _ _ => ?_
    rfl
  · have h3 : (enc r).length = L2 := by
      have h3 : (!decide (((enc r).length : Int) = L2)) = false := h3
      have : ((enc r).length : Int) = L2 := by simpa using h3
      omega
    rw [if_pos ⟨h, h2, h3⟩]
    (repeat (first | refine cj_seq ?_ | (refine cj_region ?_; refine oj_run TT rfl ?_) | refine oj_then ?_ | refine cj_skip ?_ | refine cj_ret ?_ | refine nj_then ?_ | (refine oj_conv TT _ rfl rfl rfl rfl rfl rfl rfl rfl rfl ?_; refine oj_run TT rfl ?_)))
    refine nj_ret TT rfl fun β w' _ _ => ?_
    rfl
end Go.Sy
/- The reference's characters are the program's. No program in sight. -/
namespace Go.Sy
open Go.Proofs

theorem cont_iff : ∀ n : Fin 256, (bAnd .u8 (n.val : Int) 192 = 128 ↔ 128 ≤ n.val ∧ n.val < 192) ∧ bAnd .u8 (n.val : Int) 63 = ((n.val % 64 : Nat) : Int) := by decide +kernel
theorem lead_iff : ∀ n : Fin 256, (bAnd .u8 (n.val : Int) 128 = 0 ↔ n.val < 128) ∧ (bAnd .u8 (n.val : Int) 224 = 192 ↔ 192 ≤ n.val ∧ n.val < 224) ∧ (bAnd .u8 (n.val : Int) 240 = 224 ↔ 224 ≤ n.val ∧ n.val < 240) ∧ (bAnd .u8 (n.val : Int) 248 = 240 ↔ 240 ≤ n.val ∧ n.val < 248) := by decide +kernel
theorem strip_iff : ∀ n : Fin 256, (n.val < 128 → bAndNot .u8 (n.val : Int) 128 = (n.val : Int)) ∧ bAndNot .u8 (n.val : Int) 224 = ((n.val % 32 : Nat) : Int) ∧ bAndNot .u8 (n.val : Int) 240 = ((n.val % 16 : Nat) : Int) ∧ bAndNot .u8 (n.val : Int) 248 = ((n.val % 8 : Nat) : Int) := by decide +kernel

theorem eqB (x : UInt8) (k : Nat) (h : k < 256) : x = UInt8.ofNat k ↔ x.toNat = k := by
  have e1 : (UInt8.ofNat k).toNat = k % 256 := UInt8.toNat_ofNat'
  rw [← UInt8.toNat_inj, e1]
  omega
theorem w32 (k : Nat) (h : k < 2147483648) : IntKind.i32.wrap (k : Int) = k := by
  unfold IntKind.wrap
  show (if (true && decide ((k : Int) % 4294967296 ≥ 2147483648)) = true then _ else (k : Int) % 4294967296) = _
  have e : (k : Int) % 4294967296 = k := by omega
  rw [e, if_neg (by simp; omega)]
theorem bOr6 (r c : Nat) (hr : r < 16777216) (hc : c < 64) : bOr .i32 (bShl .i32 (r : Int) 6) (IntKind.i32.wrap (c : Int)) = ((r * 64 + c : Nat) : Int) := by
  have e1 : bShl .i32 (r : Int) 6 = ((r * 64 : Nat) : Int) := by
    unfold bShl
    show IntKind.i32.wrap ((r : Int) * 64) = _
    exact w32 (r * 64) (by omega)
  rw [e1, w32 c (by omega)]
  unfold bOr
  have e2 : ∀ k : Nat, k < 4294967296 → (BitVec.ofInt 32 (k : Int)).toNat = k := by
    intro k hk
    rw [BitVec.toNat_ofInt]
    show ((k : Int) % 4294967296).toNat = k
    omega
  have e3 : ((BitVec.ofInt 32 ((r * 64 : Nat) : Int)) ||| (BitVec.ofInt 32 (c : Int))).toNat = r * 64 + c := by
    rw [BitVec.toNat_or, e2 _ (by omega), e2 _ (by omega)]
    have h := Nat.shiftLeft_add_eq_or_of_lt (i := 6) (b := c) (by omega) r
    rw [Nat.shiftLeft_eq] at h
    have h : r * 64 + c = r * 64 ||| c := h
    rw [← h]
  show IntKind.i32.wrap (((BitVec.ofInt 32 ((r * 64 : Nat) : Int)) ||| (BitVec.ofInt 32 (c : Int))).toNat : Nat) = _
  rw [e3]
  exact w32 _ (by omega)

theorem utf_cases (u : UInt8) (t : List UInt8) : utfNext (u :: t) = if u.toNat < 128 then nextAt (u :: t) 0 u else if (192 ≤ u.toNat ∧ u.toNat < 224) ∧ 1 < (u :: t).length then nextAt (u :: t) 1 u
    else if (224 ≤ u.toNat ∧ u.toNat < 240) ∧ 2 < (u :: t).length then nextAt (u :: t) 2 u else if (240 ≤ u.toNat ∧ u.toNat < 248) ∧ 3 < (u :: t).length then nextAt (u :: t) 3 u else (0, 0) := by
  obtain ⟨h0, h1, h2, h3⟩ := lead_iff ⟨u.toNat, u.toNat_lt⟩
  dsimp only at h0 h1 h2 h3
  have A0 : ((u :: t).length ≤ 0 ∨ bAnd .u8 u.toNat (spanAt 0).1 ≠ (spanAt 0).2.1) ↔ ¬ u.toNat < 128 := by
    rw [← h0]; simp [spanAt]
  have A1 : ((u :: t).length ≤ 1 ∨ bAnd .u8 u.toNat (spanAt 1).1 ≠ (spanAt 1).2.1) ↔ ¬ ((192 ≤ u.toNat ∧ u.toNat < 224) ∧ 1 < (u :: t).length) := by
    rw [← h1]
    show ((u :: t).length ≤ 1 ∨ ¬ _) ↔ _
    rw [← Nat.not_lt, Classical.not_and_iff_not_or_not, Or.comm]; rfl
  have A2 : ((u :: t).length ≤ 2 ∨ bAnd .u8 u.toNat (spanAt 2).1 ≠ (spanAt 2).2.1) ↔ ¬ ((224 ≤ u.toNat ∧ u.toNat < 240) ∧ 2 < (u :: t).length) := by
    rw [← h2]
    show ((u :: t).length ≤ 2 ∨ ¬ _) ↔ _
    rw [← Nat.not_lt, Classical.not_and_iff_not_or_not, Or.comm]; rfl
  have A3 : ((u :: t).length ≤ 3 ∨ bAnd .u8 u.toNat (spanAt 3).1 ≠ (spanAt 3).2.1) ↔ ¬ ((240 ≤ u.toNat ∧ u.toNat < 248) ∧ 3 < (u :: t).length) := by
    rw [← h3]
    show ((u :: t).length ≤ 3 ∨ ¬ _) ↔ _
    rw [← Nat.not_lt, Classical.not_and_iff_not_or_not, Or.comm]; rfl
  unfold utfNext
  rw [show nextFrom (u :: t) 4 0 = (if (u :: t).length ≤ 0 ∨ bAnd .u8 u.toNat (spanAt 0).1 ≠ (spanAt 0).2.1 then (if (u :: t).length ≤ 1 ∨ bAnd .u8 u.toNat (spanAt 1).1 ≠ (spanAt 1).2.1 then
    (if (u :: t).length ≤ 2 ∨ bAnd .u8 u.toNat (spanAt 2).1 ≠ (spanAt 2).2.1 then (if (u :: t).length ≤ 3 ∨ bAnd .u8 u.toNat (spanAt 3).1 ≠ (spanAt 3).2.1 then (0, 0) else nextAt (u :: t) 3 u) else nextAt (u :: t) 2 u) else nextAt (u :: t) 1 u) else nextAt (u :: t) 0 u) from rfl]
  simp only [A0, A1, A2, A3, ite_not]

def okB (c : UInt8) : Prop := 128 ≤ c.toNat ∧ c.toNat < 192

theorem tailR_eq : ∀ (l : List UInt8) (r : Nat), (r + 1) * 64 ^ l.length ≤ 16777216 → ((∀ c ∈ l, okB c) → tailR (r : Int) l = some ((rTail r l : Nat) : Int)) ∧ ((¬ ∀ c ∈ l, okB c) → tailR (r : Int) l = none)
  | [], r, _ => ⟨fun _ => rfl, fun h => absurd (fun c hc => by cases hc) h⟩
  | c :: l, r, hb => by
    obtain ⟨h1, h2⟩ := cont_iff ⟨c.toNat, c.toNat_lt⟩
    dsimp only at h1 h2
    have hp : 0 < 64 ^ l.length := Nat.pow_pos (by decide)
    have hb1 : (r + 1) * 64 * 64 ^ l.length ≤ 16777216 := by
      rw [List.length_cons, Nat.pow_succ, Nat.mul_comm (64 ^ l.length) 64, ← Nat.mul_assoc] at hb; exact hb
    have hr : (r + 1) * 64 ≤ 16777216 := Nat.le_trans (Nat.le_mul_of_pos_right _ hp) hb1
    have hcm : c.toNat % 64 < 64 := Nat.mod_lt _ (by decide)
    have ih := tailR_eq l (r * 64 + c.toNat % 64) (Nat.le_trans (Nat.mul_le_mul_right _ (by omega)) hb1)
    have e := bOr6 r (c.toNat % 64) (by omega) hcm
    rw [tailR, h2, e, rTail]
    by_cases hc : okB c
    · rw [if_pos (h1.2 hc)]
      exact ⟨fun h => ih.1 fun x hx => h x (List.mem_cons_of_mem _ hx), fun h => ih.2 fun hl => h fun x hx => by
        rcases List.mem_cons.1 hx with rfl | hx
        · exact hc
        · exact hl x hx⟩
    · rw [if_neg (fun h => hc (h1.1 h))]
      exact ⟨fun h => absurd (h c List.mem_cons_self) hc, fun _ => rfl⟩

theorem nextAt_eq (u : UInt8) (t : List UInt8) (k r0 : Nat) (hr : (r0 + 1) * 64 ^ k ≤ 16777216) (h0 : IntKind.i32.wrap (bAndNot .u8 u.toNat (spanAt k).1) = (r0 : Int)) (ht : k ≤ t.length) :
    ((∀ c ∈ t.take k, okB c) ∧ ¬ (((rTail r0 (t.take k) : Nat) : Int) < (spanAt k).2.2) ∧ soundR (rTail r0 (t.take k)) = true → (nextAt (u :: t) k u).2 = k + 1) ∧
    (¬ ((∀ c ∈ t.take k, okB c) ∧ ¬ (((rTail r0 (t.take k) : Nat) : Int) < (spanAt k).2.2) ∧ soundR (rTail r0 (t.take k)) = true) → (nextAt (u :: t) k u).2 = 0) := by
  have hl : (t.take k).length = k := by rw [List.length_take]; omega
  have hb : (r0 + 1) * 64 ^ (t.take k).length ≤ 16777216 := by
    rw [hl]
    exact hr
  obtain ⟨h1, h2⟩ := tailR_eq (t.take k) r0 hb
  have hs : ((u :: t).take (k + 1)).drop 1 = t.take k := by simp
  unfold nextAt
  rw [hs, h0]
  by_cases h : ∀ c ∈ t.take k, okB c
  · rw [h1 h]
    dsimp only
    constructor
    · intro ⟨_, h3, h4⟩
      rw [if_neg (by simp [h3, h4])]
    · intro h5
      rw [if_pos]
      by_cases h3 : ((rTail r0 (t.take k) : Nat) : Int) < (spanAt k).2.2
      · exact .inl h3
      · refine .inr ?_
        by_cases h4 : soundR (rTail r0 (t.take k)) = true
        · exact absurd ⟨h, h3, h4⟩ h5
        · simpa using h4
  · rw [h2 h]
    exact ⟨fun h3 => absurd h3.1 h, fun _ => rfl⟩

theorem rNextAt_snd (l : List UInt8) (L : Nat × Nat) :
    (L.2 ≤ l.length ∧ soundR (rTail L.1 ((l.take L.2).drop 1)) = true ∧ begB l (enc (rTail L.1 ((l.take L.2).drop 1))) = true ∧ (enc (rTail L.1 ((l.take L.2).drop 1))).length = L.2 → (rNextAt l L).2 = L.2) ∧
    (¬ (L.2 ≤ l.length ∧ soundR (rTail L.1 ((l.take L.2).drop 1)) = true ∧ begB l (enc (rTail L.1 ((l.take L.2).drop 1))) = true ∧ (enc (rTail L.1 ((l.take L.2).drop 1))).length = L.2) → (rNextAt l L).2 = 0) := by
  unfold rNextAt
  constructor
  · intro ⟨h1, h2⟩
    rw [if_neg (by omega), if_pos h2]
  · intro h
    by_cases h1 : l.length < L.2
    · rw [if_pos h1]
    · rw [if_neg h1, if_neg fun h2 => h ⟨by omega, h2⟩]

theorem begB_nil (t : List UInt8) : begB t [] = true := by cases t <;> rfl

theorem enc1 (u c : UInt8) (t : List UInt8) (r : Nat) (hu : 192 ≤ u.toNat ∧ u.toNat < 224) (hr : r = (u.toNat % 32) * 64 + c.toNat % 64) :
    (begB (u :: c :: t) (enc r) = true ∧ (enc r).length = 2) ↔ (okB c ∧ 128 ≤ r) := by
  unfold enc okB
  have hc := c.toNat_lt
  by_cases h : r < 128
  · rw [if_pos h]
    simp
    omega
  · rw [if_neg h, if_pos (by omega)]
    simp only [begB, begB_nil, Bool.and_true, Bool.and_eq_true, decide_eq_true_eq, eqB u _ (by omega : 192 + r / 64 < 256), eqB c _ (by omega : 128 + r % 64 < 256), List.length_cons, List.length_nil, Nat.zero_add, Nat.reduceAdd, and_true]
    omega
theorem enc2 (u c d : UInt8) (t : List UInt8) (r : Nat) (hu : 224 ≤ u.toNat ∧ u.toNat < 240) (hr : r = ((u.toNat % 16) * 64 + c.toNat % 64) * 64 + d.toNat % 64) :
    (begB (u :: c :: d :: t) (enc r) = true ∧ (enc r).length = 3) ↔ ((okB c ∧ okB d) ∧ 2048 ≤ r) := by
  unfold enc okB
  have hc := c.toNat_lt
  have hd := d.toNat_lt
  by_cases h : r < 128
  · rw [if_pos h]
    simp
    omega
  by_cases h2 : r < 2048
  · rw [if_neg h, if_pos h2]
    simp
    omega
  · rw [if_neg h, if_neg h2, if_pos (by omega)]
    simp only [begB, begB_nil, Bool.and_true, Bool.and_eq_true, decide_eq_true_eq, eqB u _ (by omega : 224 + r / 4096 < 256), eqB c _ (by omega : 128 + r / 64 % 64 < 256), eqB d _ (by omega : 128 + r % 64 < 256), List.length_cons, List.length_nil, Nat.zero_add, Nat.reduceAdd, and_true]
    omega
theorem enc3 (u c d e : UInt8) (t : List UInt8) (r : Nat) (hu : 240 ≤ u.toNat) (hr : r = (((u.toNat % 8) * 64 + c.toNat % 64) * 64 + d.toNat % 64) * 64 + e.toNat % 64) :
    (begB (u :: c :: d :: e :: t) (enc r) = true ∧ (enc r).length = 4) ↔ ((okB c ∧ okB d ∧ okB e) ∧ 65536 ≤ r ∧ u.toNat < 248) := by
  unfold enc okB
  have hu2 := u.toNat_lt
  have hc := c.toNat_lt
  have hd := d.toNat_lt
  have he := e.toNat_lt
  by_cases h : r < 128
  · rw [if_pos h]
    simp
    omega
  by_cases h2 : r < 2048
  · rw [if_neg h, if_pos h2]
    simp
    omega
  by_cases h3 : r < 65536
  · rw [if_neg h, if_neg h2, if_pos h3]
    simp
    omega
  · rw [if_neg h, if_neg h2, if_neg h3]
    simp only [begB, begB_nil, Bool.and_true, Bool.and_eq_true, decide_eq_true_eq, eqB u _ (by omega : 240 + r / 262144 < 256), eqB c _ (by omega : 128 + r / 4096 % 64 < 256), eqB d _ (by omega : 128 + r / 64 % 64 < 256), eqB e _ (by omega : 128 + r % 64 < 256), List.length_cons, List.length_nil, Nat.zero_add, Nat.reduceAdd, and_true]
    omega

theorem all1 (c : UInt8) : (∀ x ∈ [c], okB x) ↔ okB c := by simp
theorem all2 (c d : UInt8) : (∀ x ∈ [c, d], okB x) ↔ okB c ∧ okB d := by simp
theorem all3 (c d e : UInt8) : (∀ x ∈ [c, d, e], okB x) ↔ okB c ∧ okB d ∧ okB e := by simp

/-- The reference steps by as many bytes as the program does. -/
theorem rnext_eq (l : List UInt8) : (rNext l).2 = (utfNext l).2 := by
  cases l with
  | nil => rfl
  | cons u t =>
  show (rNextAt (u :: t) (rLead u.toNat)).2 = _
  rw [utf_cases]
  have hu := u.toNat_lt
  obtain ⟨s0, s1, s2, s3⟩ := strip_iff ⟨u.toNat, u.toNat_lt⟩
  dsimp only at s0 s1 s2 s3
  by_cases c0 : u.toNat < 128
  · rw [if_pos c0]
    have hL : rLead u.toNat = (u.toNat, 1) := by unfold rLead; rw [if_neg (by omega), if_neg (by omega), if_neg (by omega)]
    have hs : soundR (u.toNat : Int) = true := by
      unfold soundR
      rw [decide_eq_true (show (0 : Int) ≤ u.toNat by omega), decide_eq_true (show (u.toNat : Int) < 55296 by omega)]
      rfl
    have hE : enc u.toNat = [UInt8.ofNat u.toNat] := by unfold enc; rw [if_pos c0]
    have hB : begB (u :: t) (enc u.toNat) = true := by
      rw [hE, begB, begB_nil, decide_eq_true ((eqB u _ hu).2 rfl)]
      rfl
    rw [hL, (nextAt_eq u t 0 u.toNat (by show (u.toNat + 1) * 1 ≤ _; omega) (by show IntKind.i32.wrap (bAndNot .u8 u.toNat 128) = _; rw [s0 c0]; exact w32 _ (by omega)) (Nat.zero_le _)).1 ⟨fun c hc => by simp at hc, by show ¬ ((u.toNat : Int) < 0); omega, hs⟩,
      (rNextAt_snd (u :: t) (u.toNat, 1)).1 ⟨by simp, hs, hB, by show (enc u.toNat).length = 1; rw [hE]; rfl⟩]
    rfl
  rw [if_neg c0]
  by_cases c1 : 192 ≤ u.toNat ∧ u.toNat < 224
  · have hL : rLead u.toNat = (u.toNat % 32, 2) := by unfold rLead; rw [if_neg (by omega), if_neg (by omega), if_pos (by omega)]
    rw [hL]
    cases t with
    | nil =>
      rw [if_neg (by simp), if_neg (by omega), if_neg (by omega)]
      exact (rNextAt_snd [u] (u.toNat % 32, 2)).2 fun h => by have := h.1; simp at this
    | cons c t =>
      rw [if_pos ⟨c1, by simp⟩]
      have hn := nextAt_eq u (c :: t) 1 (u.toNat % 32) (by show (u.toNat % 32 + 1) * 64 ≤ _; omega) (by show IntKind.i32.wrap (bAndNot .u8 u.toNat 224) = _; rw [s1]; exact w32 _ (by omega)) (by simp)
      have hr := rNextAt_snd (u :: c :: t) (u.toNat % 32, 2)
      have he := enc1 u c t (u.toNat % 32 * 64 + c.toNat % 64) c1 rfl
      simp only [List.take_succ_cons, List.take_zero, rTail, all1, List.drop_succ_cons, List.drop_zero, List.length_cons] at hn hr
      rw [show (spanAt 1).2.2 = 128 from rfl] at hn
      generalize u.toNat % 32 * 64 + c.toNat % 64 = r at *
      by_cases H : soundR r = true ∧ begB (u :: c :: t) (enc r) = true ∧ (enc r).length = 2
      · rw [hr.1 ⟨by omega, H⟩, hn.1 ⟨(he.1 H.2).1, by have := (he.1 H.2).2; omega, H.1⟩]
        rfl
      · rw [hr.2 fun h => H h.2, hn.2 fun h => H ⟨h.2.2, he.2 ⟨h.1, by omega⟩⟩]
  rw [if_neg fun h => c1 h.1]
  by_cases c2 : 224 ≤ u.toNat ∧ u.toNat < 240
  · have hL : rLead u.toNat = (u.toNat % 16, 3) := by unfold rLead; rw [if_neg (by omega), if_pos (by omega)]
    rw [hL]
    match t with
    | [] =>
      rw [if_neg (by simp), if_neg (by omega)]
      exact (rNextAt_snd [u] (u.toNat % 16, 3)).2 fun h => by have := h.1; simp at this
    | [c] =>
      rw [if_neg (by simp), if_neg (by omega)]
      exact (rNextAt_snd [u, c] (u.toNat % 16, 3)).2 fun h => by have := h.1; simp at this
    | c :: d :: t =>
      rw [if_pos ⟨c2, by simp⟩]
      have hn := nextAt_eq u (c :: d :: t) 2 (u.toNat % 16) (by show (u.toNat % 16 + 1) * 4096 ≤ _; omega) (by show IntKind.i32.wrap (bAndNot .u8 u.toNat 240) = _; rw [s2]; exact w32 _ (by omega)) (by simp)
      have hr := rNextAt_snd (u :: c :: d :: t) (u.toNat % 16, 3)
      have he := enc2 u c d t ((u.toNat % 16 * 64 + c.toNat % 64) * 64 + d.toNat % 64) c2 rfl
      simp only [List.take_succ_cons, List.take_zero, rTail, all2, List.drop_succ_cons, List.drop_zero, List.length_cons] at hn hr
      rw [show (spanAt 2).2.2 = 2048 from rfl] at hn
      generalize (u.toNat % 16 * 64 + c.toNat % 64) * 64 + d.toNat % 64 = r at *
      by_cases H : soundR r = true ∧ begB (u :: c :: d :: t) (enc r) = true ∧ (enc r).length = 3
      · rw [hr.1 ⟨by omega, H⟩, hn.1 ⟨(he.1 H.2).1, by have := (he.1 H.2).2; omega, H.1⟩]
        rfl
      · rw [hr.2 fun h => H h.2, hn.2 fun h => H ⟨h.2.2, he.2 ⟨h.1, by omega⟩⟩]
  rw [if_neg fun h => c2 h.1]
  by_cases c3 : 240 ≤ u.toNat
  · have hL : rLead u.toNat = (u.toNat % 8, 4) := by unfold rLead; rw [if_pos c3]
    rw [hL]
    match t with
    | [] =>
      rw [if_neg (by simp)]
      exact (rNextAt_snd [u] (u.toNat % 8, 4)).2 fun h => by have := h.1; simp at this
    | [c] =>
      rw [if_neg (by simp)]
      exact (rNextAt_snd [u, c] (u.toNat % 8, 4)).2 fun h => by have := h.1; simp at this
    | [c, d] =>
      rw [if_neg (by simp)]
      exact (rNextAt_snd [u, c, d] (u.toNat % 8, 4)).2 fun h => by have := h.1; simp at this
    | c :: d :: e :: t =>
      have hn := nextAt_eq u (c :: d :: e :: t) 3 (u.toNat % 8) (by show (u.toNat % 8 + 1) * 262144 ≤ _; omega) (by show IntKind.i32.wrap (bAndNot .u8 u.toNat 248) = _; rw [s3]; exact w32 _ (by omega)) (by simp)
      have hr := rNextAt_snd (u :: c :: d :: e :: t) (u.toNat % 8, 4)
      have he := enc3 u c d e t (((u.toNat % 8 * 64 + c.toNat % 64) * 64 + d.toNat % 64) * 64 + e.toNat % 64) c3 rfl
      simp only [List.take_succ_cons, List.take_zero, rTail, all3, List.drop_succ_cons, List.drop_zero, List.length_cons] at hn hr
      rw [show (spanAt 3).2.2 = 65536 from rfl] at hn
      generalize ((u.toNat % 8 * 64 + c.toNat % 64) * 64 + d.toNat % 64) * 64 + e.toNat % 64 = r at *
      by_cases c4 : u.toNat < 248
      · rw [if_pos ⟨⟨c3, c4⟩, by simp⟩]
        by_cases H : soundR r = true ∧ begB (u :: c :: d :: e :: t) (enc r) = true ∧ (enc r).length = 4
        · rw [hr.1 ⟨by omega, H⟩, hn.1 ⟨(he.1 H.2).1, by have := (he.1 H.2).2; omega, H.1⟩]
          rfl
        · rw [hr.2 fun h => H h.2, hn.2 fun h => H ⟨h.2.2, he.2 ⟨h.1, by omega, c4⟩⟩]
      · rw [if_neg fun h => c4 h.1.2]
        exact hr.2 fun h => c4 (he.1 h.2.2).2.2
  · have hL : rLead u.toNat = (u.toNat, 1) := by unfold rLead; rw [if_neg (by omega), if_neg (by omega), if_neg (by omega)]
    rw [hL, if_neg fun h => c3 h.1.1]
    refine (rNextAt_snd (u :: t) (u.toNat, 1)).2 fun h => ?_
    have h2 : (enc u.toNat).length = 1 := h.2.2.2
    unfold enc at h2
    rw [if_neg c0, if_pos (by omega)] at h2
    simp at h2
end Go.Sy
namespace Go.Sy
open Go.Proofs

/-! ### The reference's Check, and its decimals -/

set_option maxRecDepth 100000 in
set_option maxHeartbeats 1000000 in
theorem rCheck_c (σ : Snap) (ao : Option Addr) (cap : Nat) (l : List UInt8) (H : SlAt σ ao l.length cap 1 (bRows l)) (hl : l.length ≤ mostLen) :
    PlainS Tryd.prog 151 [.a (.v (.slice ao l.length cap))] σ (fun v => v = .int .i64 (utfCheck l)) := by
  have hl' := hl
  simp only [mostLen] at hl'
  refine enter_p Tryd.func151 rfl rfl (by (repeat' (first | exact trivial | constructor))) fun w => ?_
  (repeat (first | refine cj_seq ?_ | (refine cj_region ?_; refine oj_run TT rfl ?_) | refine oj_then ?_ | refine cj_block ?_))
  refine cj_loop2 (fun _ _ => σ) (fun (n : Nat) (k : Nat) => [(0, .a (.v (.slice ao l.length cap))), (3, .a (.v (.int .i64 k)))]) (fun _ _ => []) (fun _ _ => []) 0
    (fun n k => k ≤ l.length ∧ l.length - k < n ∧ checkFrom l n k = utfCheck l) (fun n k => l.length - k) (l.length + 1) 0 ⟨by omega, by omega, rfl⟩ rfl (by (repeat (first | exact trivial | refine And.intro rfl ?_))) (by (repeat (first | exact trivial | refine And.intro rfl ?_))) rfl (by (repeat' (first | exact trivial | constructor))) (by (repeat' exact trivial)) fun n k ⟨hk, hn, hkn⟩ => ?_
  (repeat (first | refine cj_seq ?_ | (refine cj_region ?_; refine oj_run TT rfl ?_) | refine oj_then ?_))
  refine cj_if rfl (fun h => ?_) (fun h => ?_)
  · have hkl : k < l.length := by simp at h; omega
    (repeat (first | refine cj_seq ?_ | (refine cj_region ?_; refine oj_run TT rfl ?_) | refine cj_skip ?_ | refine cj_block ?_ | refine nj_then ?_))
    have hncap := H.ncap
    refine oj_slice (vl := some (.int .i64 k)) (vh := none) TT k l.length rfl rfl rfl rfl rfl rfl rfl rfl rfl rfl (.inr ⟨_, _, rfl, rfl⟩) (.inl ⟨rfl, rfl⟩) (by omega) hncap hncap ?_
    have Ht := H.sub (l := k) (k := l.length) (by omega) (by omega)
    rw [bRows_sub, List.take_length] at Ht
    generalize hao : (if cap = k then ao else ao.map (·.add (k * 1))) = ao' at Ht
    generalize hcap' : cap - k = cap' at Ht
    have hdl : (l.drop k).length = l.length - k := List.length_drop
    rw [← hdl] at Ht
    refine oj_set 13 (.a (.v (.slice ao' (l.drop k).length cap'))) rfl trivial (fun β => ?_) (oj_run TT rfl ?_)
    · rw [hdl]
    refine oj_callP rfl rfl rfl rfl rfl Tryd.call163 (by (repeat' (first | exact trivial | constructor))) (rNext_c σ ao' cap' (l.drop k) Ht (by rw [hdl]; simp only [mostLen]; omega)) fun v hv => ⟨_, by (repeat' (first | exact trivial | refine SV.lt_tup ?_ | constructor)), hv.symm, ?_⟩
    refine oj_run TT rfl ?_
    rw [rnext_eq]
    (repeat (first | refine cj_seq ?_ | (refine cj_region ?_; refine oj_run TT rfl ?_) | refine oj_then ?_))
    have hb : 0 ≤ (utfNext (l.drop k)).2 ∧ (utfNext (l.drop k)).2 ≤ (l.drop k).length := next_len (l.drop k) 4 0
    obtain ⟨m, rfl⟩ : ∃ m, n = m + 1 := ⟨n - 1, by omega⟩
    rw [checkFrom, if_pos hkl] at hkn
    refine cj_if rfl (fun h => ?_) (fun h => ?_)
    · (repeat (first | refine cj_seq ?_ | (refine cj_region ?_; refine oj_run TT rfl ?_) | refine oj_then ?_ | refine cj_ret ?_ | refine nj_then_ret ?_ | refine nj_block_ret ?_))
      refine nj_ret TT rfl fun β w' _ _ => ?_
      rw [if_pos (by simpa using h)] at hkn
      rw [← hkn]
      rfl
    · have h0 : (utfNext (l.drop k)).2 ≠ 0 := by simpa using h
      rw [if_neg h0] at hkn
      (repeat (first | (refine cj_region ?_; refine oj_run TT rfl ?_) | refine oj_nil ?_ | refine cj_skip ?_ | refine nj_then ?_ | refine nj_block ?_ | (refine oj_add rfl rfl rfl rfl rfl rfl (by omega) ?_; refine oj_run TT rfl ?_)))
      have he : (k : Int) + (utfNext (l.drop k)).2 = ((k + (utfNext (l.drop k)).2.toNat : Nat) : Int) := by omega
      rw [he]
      refine nj_again (m, k + (utfNext (l.drop k)).2.toNat) ⟨?_, ?_, hkn⟩ ?_ rfl (by (repeat (first | exact trivial | refine And.intro rfl ?_))) (by (repeat (first | exact trivial | refine And.intro rfl ?_))) rfl (by (repeat' (first | exact trivial | constructor))) (by (repeat' exact trivial)) <;> (dsimp only; omega)
  · have hkl : ¬ k < l.length := by simp at h; omega
    obtain ⟨m, rfl⟩ : ∃ m, n = m + 1 := ⟨n - 1, by omega⟩
    rw [checkFrom, if_neg hkl] at hkn
    (repeat (first | refine cj_seq ?_ | (refine cj_region ?_; refine oj_run TT rfl ?_) | refine oj_then ?_ | refine cj_exit ?_ | refine cj_ret ?_ | refine nj_then ?_ | refine nj_then_exit ?_ | refine nj_block_out ?_))
    refine nj_ret TT rfl fun β w' _ _ => ?_
    rw [← hkn]
    rfl

theorem digitB_iff (u : UInt8) : digitB u = true ↔ 48 ≤ u.toNat ∧ u.toNat ≤ 57 := by
  unfold digitB
  simp [← UInt8.toNat_inj]
  omega
theorem digitB_eq (u : UInt8) : digitB u = (decide ((u.toNat : Int) ≥ 48) && decide ((u.toNat : Int) ≤ 57)) := by
  rw [Bool.eq_iff_iff, digitB_iff]
  simp
  omega

set_option maxRecDepth 100000 in
set_option maxHeartbeats 1000000 in
theorem rdigit_c (σ : Snap) (u : UInt8) : PlainS Tryd.prog 162 [.a (.v (.int .u8 u.toNat))] σ (fun v => v = .bool (digitB u)) := by
  rw [digitB_eq]
  refine enter_p Tryd.func162 rfl rfl (by (repeat' (first | exact trivial | constructor))) fun w => ?_
  (repeat (first | refine cj_seq ?_ | (refine cj_region ?_; refine oj_run TT rfl ?_) | refine oj_then ?_))
  refine oj_split 5 rfl (fun h => ?_) (fun h => ?_)
  · refine oj_run TT rfl ?_
    (repeat (first | refine oj_then ?_ | refine cj_ret ?_))
    refine nj_ret TT rfl fun β w' _ _ => ?_
    show Value.bool _ = _
    rw [h, Bool.true_and]
  · refine oj_run TT rfl ?_
    (repeat (first | refine oj_then ?_ | refine cj_ret ?_))
    refine nj_ret TT rfl fun β w' _ _ => ?_
    rw [h, Bool.false_and]
    rfl

set_option maxRecDepth 100000 in
set_option maxHeartbeats 1000000 in
theorem rdecSane_c (σ : Snap) (d : GDec) (hd : d.dg.size ≤ mostLen) : PlainS Tryd.prog 150 [.agg (decCells d)] σ (fun v => v = .bool (decSane d)) := by
  obtain ⟨ng, dg, ex⟩ := d
  obtain ⟨l, rfl⟩ := mkB_ex dg
  have hsz := mkB_size l
  simp only at hd
  rw [hsz] at hd
  have hd' := hd
  simp only [mostLen] at hd'
  refine enter_p Tryd.func150 rfl rfl (by (repeat' (first | exact trivial | exact decCells_lt _ _ | constructor))) fun w => ?_
  (repeat (first | refine cj_seq ?_ | (refine cj_region ?_; refine oj_run TT rfl ?_) | refine oj_then ?_))
  refine cj_if rfl (fun h => ?_) (fun h => ?_)
  · have h0 : l = [] := by simpa using h
    subst h0
    have e : decSane ⟨ng, mkB [], ex⟩ = (!ng && decide (ex = 0)) := rfl
    rw [e]
    (repeat (first | refine cj_seq ?_ | (refine cj_region ?_; refine oj_run TT rfl ?_)))
    refine oj_split 13 rfl (fun h => ?_) (fun h => ?_)
    · have h : (!ng) = true := h
      refine oj_run TT rfl ?_
      (repeat (first | refine oj_then ?_ | refine cj_ret ?_ | refine nj_then_ret ?_))
      refine nj_ret TT rfl fun β w' _ _ => ?_
      rw [h]
      rfl
    · have h : (!ng) = false := h
      refine oj_run TT rfl ?_
      (repeat (first | refine oj_then ?_ | refine cj_ret ?_ | refine nj_then_ret ?_))
      refine nj_ret TT rfl fun β w' _ _ => ?_
      rw [h]
      rfl
  have h0 : l ≠ [] := by simpa using h
  have hl0 : l.length ≠ 0 := by simpa using h0
  (repeat (first | refine cj_seq ?_ | (refine cj_region ?_; refine oj_run TT rfl ?_) | refine oj_then ?_ | refine cj_skip ?_ | refine cj_block ?_ | refine nj_then ?_))
  refine cj_loop (fun _ => σ) (fun (k : Nat) => [(1, .a (.p 0 0)), (3, .a (.v (.int .i64 (mkB l).size))), (4, .a (.v (.int .i64 k)))]) (fun _ => [(0, .loc 23, decCells ⟨ng, mkB l, ex⟩)]) (fun _ => []) 1
    (fun k => k ≤ l.length ∧ (l.take k).all digitB = true) (fun k => l.length - k) 0 ⟨Nat.zero_le _, rfl⟩ rfl (by (repeat (first | exact trivial | refine And.intro rfl ?_))) (by (repeat (first | exact trivial | refine And.intro rfl ?_))) rfl (by (repeat' (first | exact trivial | exact Nat.le_of_ble_eq_true rfl | constructor))) (by (repeat' (first | exact trivial | exact Nat.le_of_ble_eq_true rfl | exact decCells_lt _ _ | constructor))) fun k ⟨hk, hp⟩ => ?_
  (repeat (first | refine cj_seq ?_ | (refine cj_region ?_; refine oj_run TT rfl ?_) | refine oj_then ?_))
  refine cj_if rfl (fun h => ?_) (fun h => ?_)
  · have hkl : k < l.length := by have := of_decide_eq_true h; omega
    have htk : (l.take (k + 1)).all digitB = digitB l[k] := by rw [List.take_succ_eq_append_getElem hkl, List.all_append, hp]; simp
    (repeat (first | refine cj_seq ?_ | (refine cj_region ?_; refine oj_run TT rfl ?_) | refine cj_skip ?_ | refine cj_block ?_ | refine nj_then ?_))
    refine oj_index_str (u := l[k]) TT rfl rfl rfl rfl rfl rfl rfl rfl (by omega) (by show l[((k : Nat) : Int).toNat]? = _; rw [Int.toNat_natCast, List.getElem?_eq_getElem hkl]) (oj_run TT rfl ?_)
    refine oj_callP rfl rfl rfl rfl rfl Tryd.call162 (by (repeat' (first | exact trivial | constructor))) (rdigit_c σ l[k]) fun v hv => ⟨.a (.b (digitB l[k])), trivial, hv.symm, ?_⟩
    refine oj_run TT rfl ?_
    (repeat refine oj_then ?_)
    refine cj_if rfl (fun h => ?_) (fun h => ?_)
    · have h : digitB l[k] = false := by simpa using h
      (repeat (first | refine cj_seq ?_ | (refine cj_region ?_; refine oj_run TT rfl ?_) | refine oj_then ?_ | refine cj_ret ?_ | refine nj_then_ret ?_ | refine nj_block_ret ?_))
      refine nj_ret TT rfl fun β w' _ _ => ?_
      show Value.bool false = _
      congr 1
      rw [decSane_mk _ _ _ hl0, show l.all digitB = false by
        rw [List.all_eq_false]
        exact ⟨l[k], List.getElem_mem hkl, by rw [h]; decide⟩]
      simp
    · have h : digitB l[k] = true := by simpa using h
      (repeat (first | (refine cj_region ?_; refine oj_run TT rfl ?_) | refine oj_nil ?_ | refine cj_skip ?_ | refine nj_then ?_ | refine nj_block ?_ | (refine oj_add rfl rfl rfl rfl rfl rfl (by omega) ?_; refine oj_run TT rfl ?_)))
      refine nj_again (k + 1) ⟨hkl, by rw [htk, h]⟩ (by omega) rfl (by (repeat (first | exact trivial | refine And.intro rfl ?_))) (by (repeat (first | exact trivial | refine And.intro rfl ?_))) rfl (by (repeat' (first | exact trivial | exact Nat.le_of_ble_eq_true rfl | constructor))) (by (repeat' (first | exact trivial | exact Nat.le_of_ble_eq_true rfl | exact decCells_lt _ _ | constructor)))
  have hk0 : k = l.length := by have := of_decide_eq_false h; omega
  subst hk0
  rw [List.take_length] at hp
  rw [decSane_mk _ _ _ hl0, hp, Bool.and_true]
  (repeat (first | refine cj_seq ?_ | (refine cj_region ?_; refine oj_run TT rfl ?_) | refine cj_exit ?_ | refine nj_then ?_ | refine nj_then_exit ?_ | refine nj_block_out ?_))
  refine oj_split 31 rfl (fun h => ?_) (fun h => ?_)
  rotate_left
  · refine oj_run TT rfl ?_
    (repeat (first | refine oj_then ?_ | refine cj_ret ?_))
    refine nj_ret TT rfl fun β w' _ _ => ?_
    rw [show decide (l.length ≤ 40) = false by have := of_decide_eq_false h; simp; omega]
    simp only [Bool.false_and]
    rfl
  have h40 : l.length ≤ 40 := by have := of_decide_eq_true h; omega
  rw [decide_eq_true h40, Bool.true_and]
  refine oj_run TT rfl ?_
  refine oj_split 36 rfl (fun h => ?_) (fun h => ?_)
  rotate_left
  · refine oj_run TT rfl ?_
    (repeat (first | refine oj_then ?_ | refine cj_ret ?_))
    refine nj_ret TT rfl fun β w' _ _ => ?_
    rw [show decide (-800 ≤ ex) = false by have : ¬ ex ≥ -1000 := of_decide_eq_false h; simp; omega]
    simp only [Bool.false_and]
    rfl
  have hx1 : ex ≥ -1000 := of_decide_eq_true h
  refine oj_run TT rfl ?_
  refine oj_split 41 rfl (fun h => ?_) (fun h => ?_)
  rotate_left
  · refine oj_run TT rfl ?_
    (repeat (first | refine oj_then ?_ | refine cj_ret ?_))
    refine nj_ret TT rfl fun β w' _ _ => ?_
    rw [show decide (ex ≤ 800) = false by have : ¬ ex ≤ 1000 := of_decide_eq_false h; simp; omega]
    simp only [Bool.and_false, Bool.false_and]
    rfl
  have hx2 : ex ≤ 1000 := of_decide_eq_true h
  refine oj_run TT rfl ?_
  refine oj_add rfl rfl rfl rfl rfl rfl (by show -9223372036854775808 ≤ ((mkB l).size : Int) + ex ∧ ((mkB l).size : Int) + ex ≤ 9223372036854775807; omega) (oj_run TT rfl ?_)
  refine oj_split 48 rfl (fun h => ?_) (fun h => ?_)
  rotate_left
  · refine oj_run TT rfl ?_
    (repeat (first | refine oj_then ?_ | refine cj_ret ?_))
    refine nj_ret TT rfl fun β w' _ _ => ?_
    rw [show decide (-400 ≤ (l.length : Int) + ex) = false by have : ¬ ((mkB l).size : Int) + ex ≥ -400 := of_decide_eq_false h; simp; omega]
    simp only [Bool.and_false, Bool.false_and]
    rfl
  have hy1 : -400 ≤ (l.length : Int) + ex := by have : ((mkB l).size : Int) + ex ≥ -400 := of_decide_eq_true h; omega
  refine oj_run TT rfl ?_
  refine oj_add rfl rfl rfl rfl rfl rfl (by show -9223372036854775808 ≤ ((mkB l).size : Int) + ex ∧ ((mkB l).size : Int) + ex ≤ 9223372036854775807; omega) (oj_run TT rfl ?_)
  refine oj_split 55 rfl (fun h => ?_) (fun h => ?_)
  rotate_left
  · refine oj_run TT rfl ?_
    (repeat (first | refine oj_then ?_ | refine cj_ret ?_))
    refine nj_ret TT rfl fun β w' _ _ => ?_
    rw [show decide ((l.length : Int) + ex ≤ 400) = false by have : ¬ ((mkB l).size : Int) + ex ≤ 400 := of_decide_eq_false h; simp; omega]
    simp only [Bool.and_false, Bool.false_and]
    rfl
  have hy2 : (l.length : Int) + ex ≤ 400 := by have : ((mkB l).size : Int) + ex ≤ 400 := of_decide_eq_true h; omega
  rw [decide_eq_true hy1, decide_eq_true hy2, decide_eq_true (show -800 ≤ ex by omega), decide_eq_true (show ex ≤ 800 by omega)]
  simp only [Bool.true_and]
  refine oj_run TT rfl ?_
  have hlt : 0 < l.length := by omega
  refine oj_index_str (u := l[0]) TT rfl rfl rfl rfl rfl rfl rfl rfl (by omega) (by simp [hlt]) (oj_run TT rfl ?_)
  have e3 : (l.head? != some 48) = !decide ((l[0].toNat : Int) = 48) := by
    rw [List.head?_eq_getElem?, List.getElem?_eq_getElem hlt, Bool.eq_iff_iff]
    simp [← UInt8.toNat_inj]
    omega
  rw [e3]
  refine oj_split 61 rfl (fun h => ?_) (fun h => ?_)
  rotate_left
  · refine oj_run TT rfl ?_
    (repeat (first | refine oj_then ?_ | refine cj_ret ?_))
    refine nj_ret TT rfl fun β w' _ _ => ?_
    rw [h]
    rfl
  rw [h]
  refine oj_run TT rfl ?_
  refine oj_minus rfl rfl rfl rfl rfl rfl (by show -9223372036854775808 ≤ ((mkB l).size : Int) - 1 ∧ ((mkB l).size : Int) - 1 ≤ 9223372036854775807; omega) (oj_run TT rfl ?_)
  refine oj_index_str (u := l[l.length - 1]) TT rfl rfl rfl rfl rfl rfl rfl rfl (by show 0 ≤ ((mkB l).size : Int) - 1; omega) (by
    show l[(((mkB l).size : Int) - 1).toNat]? = _
    rw [show (((mkB l).size : Int) - 1).toNat = l.length - 1 by omega, List.getElem?_eq_getElem (by omega)]) (oj_run TT rfl ?_)
  have e4 : (l.getLast? != some 48) = !decide ((l[l.length - 1].toNat : Int) = 48) := by
    rw [List.getLast?_eq_getElem?, List.getElem?_eq_getElem (by omega), Bool.eq_iff_iff]
    simp [← UInt8.toNat_inj]
    omega
  rw [e4]
  (repeat (first | refine oj_then ?_ | refine cj_ret ?_))
  refine nj_ret TT rfl fun β w' _ _ => ?_
  rfl
end Go.Sy
namespace Go.Sy
open Go.Proofs

/-! ### The reference's own -/

section
variable {cf : Cf} {Q : Exit → Act → World → Prop} {σ : Snap} {env : Env} {hp : HP} {A : List AE} {nh : Nat} {it : Item} {rest : List Item}
theorem oj_neDecR {d : Nat} {x y : Operand} {yt : TypeId} {ca cb : List AT} (a b : GDec) (hP : cf.P = Tryd.prog)
    (hop : it.o.op = .binOp .neq 23 x y yt) (hd : it.o.dst = some d) (hg : guardVal it.guard env = some true) (hN : Nat.blt d cf.N = true) (hx : evalO env x = some (.agg ca)) (hy : evalO env y = some (.agg cb)) (hca : ∀ β, ca.map (AT.den β) = (decCells a).map (AT.den β)) (hcb : ∀ β, cb.map (AT.den β) = (decCells b).map (AT.den β))
    (hk : OJ cf rest Q σ ((d, .a (.b (!decide (a = b)))) :: env) hp A nh) : OJ cf (it :: rest) Q σ env hp A nh := by
  refine oj_val (.a (.b (!decide (a = b)))) hd hg hN trivial (fun _ ac β ha w => ?_) hk
  have h1 : ac.eval x = .agg #[.bool a.neg, .string a.dg, .int .i64 a.ex] := (evalO_eval ha hx).trans (by simp only [SV.den, hca]; rfl)
  have h2 : ac.eval y = .agg #[.bool b.neg, .string b.dg, .int .i64 b.ex] := (evalO_eval ha hy).trans (by simp only [SV.den, hcb]; rfl)
  rw [hP]
  have hG : (eqGuard .neq 23 x y (.agg #[.bool a.neg, .string a.dg, .int .i64 a.ex]) (.agg #[.bool b.neg, .string b.dg, .int .i64 b.ex])).run Tryd.prog w = .ok () w := run_eqGuard_agg w _ _ _ _ _ _ (by kernel_rfl)
  have hE : (Op.equalIn 10000 23 (.agg #[.bool a.neg, .string a.dg, .int .i64 a.ex]) (.agg #[.bool b.neg, .string b.dg, .int .i64 b.ex])).run Tryd.prog w = .ok (decide (a = b)) w := eqDec_ok 9998 a b w
  have hB : (binOp .neq 23 (.agg #[.bool a.neg, .string a.dg, .int .i64 a.ex]) (.agg #[.bool b.neg, .string b.dg, .int .i64 b.ex])).run Tryd.prog w = .ok (.bool (!decide (a = b))) w := by
    rw [run_neq_struct, hE]
    rfl
  simp only [execOp, hop, h1, h2, Sem.run_bind, hG, hB, Result.andThen_ok, Sem.run_pure]
  rfl
end

/-- Has a value a field that is not its kind's? -/
def ownX (g : GVal) : Bool := decide (g.kind < 0) || decide (g.kind > 5) || (!decide (g.kind = 1) && g.b) || (!decide (g.kind = 2) && !decide (g.n = dec0)) || (!decide (g.kind = 3) && !decide (g.s = emptyS)) ||
  (!decide (g.kind = 4) && decide ((g.l.length : Int) > 0)) || (!decide (g.kind = 5) && decide ((g.ks.length : Int) > 0))

set_option maxRecDepth 100000 in
set_option maxHeartbeats 1000000 in
theorem own_c (σ : Snap) (g : GVal) (r : List AT) (hr : RepV σ g r) : PlainS Tryd.prog 140 [.agg r] σ (fun v => v = .bool (!ownX g && decSane g.n && decide (utfCheck g.s.data.toList < 0) && g.ks.all keyOk)) := by
  obtain ⟨la, lc, lrows, ma, mc, vrows, rfl, V⟩ := hr.open
  have hkl := V.kl
  simp only [mostLen] at hkl
  refine enter_p Tryd.func140 rfl rfl (by (repeat' (first | exact trivial | exact vCells_lt _ _ _ _ _ _ | constructor))) fun w => ?_
  refine cj_seq ?_
  refine cj_region ?_
  refine oj_run TT rfl ?_
  refine oj_then ?_
  refine cj_seq ?_
  refine cj_region ?_
  refine oj_run TT rfl ?_
  refine oj_then ?_
  refine cj_seq ?_
  refine cj_region ?_
  refine oj_run TT rfl ?_
  refine oj_then ?_
  refine cj_seq ?_
  refine cj_seq ?_
  refine cj_cutN (fun (_ : Bool) => σ) (fun x => [(1, .a (.p 0 0)), (61, .a (.b x))]) (fun _ => [(0, .loc 27, vCells g la lc ma mc)]) (fun _ => []) 1 (fun x => x = ownX g) ?_ (fun x hx => ?_)
  · refine cj_region ?_
    refine oj_run TT rfl ?_
    by_cases hlo : g.kind < 0
    · refine oj_split 11 rfl (fun h => ?_) (fun h => absurd hlo (of_decide_eq_false h))
      refine oj_run TT rfl ?_
      (repeat refine oj_nil ?_)
      refine nj_set 61 (.a (.b true)) rfl trivial (fun _ => rfl) ?_
      refine nj_again true (by simp [ownX, hlo]) Nat.zero_lt_one rfl (by (repeat (first | exact trivial | refine And.intro rfl ?_))) (by (repeat (first | exact trivial | refine And.intro rfl ?_))) rfl (by (repeat' (first | exact trivial | exact Nat.le_of_ble_eq_true rfl | constructor))) (by (repeat' (first | exact trivial | exact Nat.le_of_ble_eq_true rfl | exact vCells_lt _ _ _ _ _ _ | constructor)))
    refine oj_split 11 rfl (fun h => absurd (of_decide_eq_true h) hlo) (fun _ => ?_)
    refine oj_run TT rfl ?_
    by_cases hhi : g.kind > 5
    · refine oj_split 15 rfl (fun h => ?_) (fun h => absurd hhi (of_decide_eq_false h))
      refine oj_run TT rfl ?_
      (repeat refine oj_nil ?_)
      refine nj_set 61 (.a (.b true)) rfl trivial (fun _ => rfl) ?_
      refine nj_again true (by simp [ownX, hhi]) Nat.zero_lt_one rfl (by (repeat (first | exact trivial | refine And.intro rfl ?_))) (by (repeat (first | exact trivial | refine And.intro rfl ?_))) rfl (by (repeat' (first | exact trivial | exact Nat.le_of_ble_eq_true rfl | constructor))) (by (repeat' (first | exact trivial | exact Nat.le_of_ble_eq_true rfl | exact vCells_lt _ _ _ _ _ _ | constructor)))
    refine oj_split 15 rfl (fun h => absurd (of_decide_eq_true h) hhi) (fun _ => ?_)
    refine oj_run TT rfl ?_
    have hcase : g.kind = 0 ∨ g.kind = 1 ∨ g.kind = 2 ∨ g.kind = 3 ∨ g.kind = 4 ∨ g.kind = 5 := by omega
    rcases hcase with hk | hk | hk | hk | hk | hk
    · refine oj_split 18 rfl (fun _ => ?_) (fun h => absurd (show g.kind = 1 by simpa using h) (by omega))
      refine oj_run TT rfl ?_
      refine oj_split 23 rfl (fun h => ?_) (fun h => ?_)
      · have h : g.b = true := h
        refine oj_run TT rfl ?_
        (repeat refine oj_nil ?_)
        refine nj_set 61 (.a (.b true)) rfl trivial (fun _ => rfl) ?_
        refine nj_again true (by simp [ownX, hk, h]) Nat.zero_lt_one rfl (by (repeat (first | exact trivial | refine And.intro rfl ?_))) (by (repeat (first | exact trivial | refine And.intro rfl ?_))) rfl (by (repeat' (first | exact trivial | exact Nat.le_of_ble_eq_true rfl | constructor))) (by (repeat' (first | exact trivial | exact Nat.le_of_ble_eq_true rfl | exact vCells_lt _ _ _ _ _ _ | constructor)))
      have f1 : g.b = false := h
      refine oj_run TT rfl ?_
      refine oj_split 26 rfl (fun _ => ?_) (fun h => absurd (show g.kind = 2 by simpa using h) (by omega))
      refine oj_run TT rfl ?_
      refine oj_neDecR g.n dec0 rfl rfl rfl rfl rfl rfl rfl (fun _ => rfl) (fun _ => rfl) (oj_run TT rfl ?_)
      refine oj_split 33 rfl (fun h => ?_) (fun h => ?_)
      · have h : ¬ g.n = dec0 := by simpa using (show (!decide (g.n = dec0)) = true from h)
        refine oj_run TT rfl ?_
        (repeat refine oj_nil ?_)
        refine nj_set 61 (.a (.b true)) rfl trivial (fun _ => rfl) ?_
        refine nj_again true (by simp [ownX, hk, h]) Nat.zero_lt_one rfl (by (repeat (first | exact trivial | refine And.intro rfl ?_))) (by (repeat (first | exact trivial | refine And.intro rfl ?_))) rfl (by (repeat' (first | exact trivial | exact Nat.le_of_ble_eq_true rfl | constructor))) (by (repeat' (first | exact trivial | exact Nat.le_of_ble_eq_true rfl | exact vCells_lt _ _ _ _ _ _ | constructor)))
      have f2 : g.n = dec0 := by simpa using (show (!decide (g.n = dec0)) = false from h)
      refine oj_run TT rfl ?_
      refine oj_split 36 rfl (fun _ => ?_) (fun h => absurd (show g.kind = 3 by simpa using h) (by omega))
      refine oj_run TT rfl ?_
      refine oj_split 42 rfl (fun h => ?_) (fun h => ?_)
      · have h : ¬ g.s = emptyS := by simpa using (show (!decide (g.s = emptyS)) = true from h)
        refine oj_run TT rfl ?_
        (repeat refine oj_nil ?_)
        refine nj_set 61 (.a (.b true)) rfl trivial (fun _ => rfl) ?_
        refine nj_again true (by simp [ownX, hk, h]) Nat.zero_lt_one rfl (by (repeat (first | exact trivial | refine And.intro rfl ?_))) (by (repeat (first | exact trivial | refine And.intro rfl ?_))) rfl (by (repeat' (first | exact trivial | exact Nat.le_of_ble_eq_true rfl | constructor))) (by (repeat' (first | exact trivial | exact Nat.le_of_ble_eq_true rfl | exact vCells_lt _ _ _ _ _ _ | constructor)))
      have f3 : g.s = emptyS := by simpa using (show (!decide (g.s = emptyS)) = false from h)
      refine oj_run TT rfl ?_
      refine oj_split 45 rfl (fun _ => ?_) (fun h => absurd (show g.kind = 4 by simpa using h) (by omega))
      refine oj_run TT rfl ?_
      refine oj_split 52 rfl (fun h => ?_) (fun h => ?_)
      · have h : 0 < g.l.length := by have : (g.l.length : Int) > 0 := of_decide_eq_true h; omega
        refine oj_run TT rfl ?_
        (repeat refine oj_nil ?_)
        refine nj_set 61 (.a (.b true)) rfl trivial (fun _ => rfl) ?_
        refine nj_again true (by simp [ownX, hk, h]) Nat.zero_lt_one rfl (by (repeat (first | exact trivial | refine And.intro rfl ?_))) (by (repeat (first | exact trivial | refine And.intro rfl ?_))) rfl (by (repeat' (first | exact trivial | exact Nat.le_of_ble_eq_true rfl | constructor))) (by (repeat' (first | exact trivial | exact Nat.le_of_ble_eq_true rfl | exact vCells_lt _ _ _ _ _ _ | constructor)))
      have f4 : ¬ 0 < g.l.length := by have : ¬ (g.l.length : Int) > 0 := of_decide_eq_false h; omega
      refine oj_run TT rfl ?_
      refine oj_split 55 rfl (fun _ => ?_) (fun h => absurd (show g.kind = 5 by simpa using h) (by omega))
      refine oj_run TT rfl ?_
      (repeat refine oj_nil ?_)
      refine nj_again (decide ((g.ks.length : Int) > 0)) (by simp [ownX, hk, f1, f2, f3, f4]) Nat.zero_lt_one rfl (by (repeat (first | exact trivial | refine And.intro rfl ?_))) (by (repeat (first | exact trivial | refine And.intro rfl ?_))) rfl (by (repeat' (first | exact trivial | exact Nat.le_of_ble_eq_true rfl | constructor))) (by (repeat' (first | exact trivial | exact Nat.le_of_ble_eq_true rfl | exact vCells_lt _ _ _ _ _ _ | constructor)))
    · refine oj_split 18 rfl (fun h => absurd hk (by simpa using h)) (fun _ => ?_)
      refine oj_run TT rfl ?_
      refine oj_split 26 rfl (fun _ => ?_) (fun h => absurd (show g.kind = 2 by simpa using h) (by omega))
      refine oj_run TT rfl ?_
      refine oj_neDecR g.n dec0 rfl rfl rfl rfl rfl rfl rfl (fun _ => rfl) (fun _ => rfl) (oj_run TT rfl ?_)
      refine oj_split 33 rfl (fun h => ?_) (fun h => ?_)
      · have h : ¬ g.n = dec0 := by simpa using (show (!decide (g.n = dec0)) = true from h)
        refine oj_run TT rfl ?_
        (repeat refine oj_nil ?_)
        refine nj_set 61 (.a (.b true)) rfl trivial (fun _ => rfl) ?_
        refine nj_again true (by simp [ownX, hk, h]) Nat.zero_lt_one rfl (by (repeat (first | exact trivial | refine And.intro rfl ?_))) (by (repeat (first | exact trivial | refine And.intro rfl ?_))) rfl (by (repeat' (first | exact trivial | exact Nat.le_of_ble_eq_true rfl | constructor))) (by (repeat' (first | exact trivial | exact Nat.le_of_ble_eq_true rfl | exact vCells_lt _ _ _ _ _ _ | constructor)))
      have f2 : g.n = dec0 := by simpa using (show (!decide (g.n = dec0)) = false from h)
      refine oj_run TT rfl ?_
      refine oj_split 36 rfl (fun _ => ?_) (fun h => absurd (show g.kind = 3 by simpa using h) (by omega))
      refine oj_run TT rfl ?_
      refine oj_split 42 rfl (fun h => ?_) (fun h => ?_)
      · have h : ¬ g.s = emptyS := by simpa using (show (!decide (g.s = emptyS)) = true from h)
        refine oj_run TT rfl ?_
        (repeat refine oj_nil ?_)
        refine nj_set 61 (.a (.b true)) rfl trivial (fun _ => rfl) ?_
        refine nj_again true (by simp [ownX, hk, h]) Nat.zero_lt_one rfl (by (repeat (first | exact trivial | refine And.intro rfl ?_))) (by (repeat (first | exact trivial | refine And.intro rfl ?_))) rfl (by (repeat' (first | exact trivial | exact Nat.le_of_ble_eq_true rfl | constructor))) (by (repeat' (first | exact trivial | exact Nat.le_of_ble_eq_true rfl | exact vCells_lt _ _ _ _ _ _ | constructor)))
      have f3 : g.s = emptyS := by simpa using (show (!decide (g.s = emptyS)) = false from h)
      refine oj_run TT rfl ?_
      refine oj_split 45 rfl (fun _ => ?_) (fun h => absurd (show g.kind = 4 by simpa using h) (by omega))
      refine oj_run TT rfl ?_
      refine oj_split 52 rfl (fun h => ?_) (fun h => ?_)
      · have h : 0 < g.l.length := by have : (g.l.length : Int) > 0 := of_decide_eq_true h; omega
        refine oj_run TT rfl ?_
        (repeat refine oj_nil ?_)
        refine nj_set 61 (.a (.b true)) rfl trivial (fun _ => rfl) ?_
        refine nj_again true (by simp [ownX, hk, h]) Nat.zero_lt_one rfl (by (repeat (first | exact trivial | refine And.intro rfl ?_))) (by (repeat (first | exact trivial | refine And.intro rfl ?_))) rfl (by (repeat' (first | exact trivial | exact Nat.le_of_ble_eq_true rfl | constructor))) (by (repeat' (first | exact trivial | exact Nat.le_of_ble_eq_true rfl | exact vCells_lt _ _ _ _ _ _ | constructor)))
      have f4 : ¬ 0 < g.l.length := by have : ¬ (g.l.length : Int) > 0 := of_decide_eq_false h; omega
      refine oj_run TT rfl ?_
      refine oj_split 55 rfl (fun _ => ?_) (fun h => absurd (show g.kind = 5 by simpa using h) (by omega))
      refine oj_run TT rfl ?_
      (repeat refine oj_nil ?_)
      refine nj_again (decide ((g.ks.length : Int) > 0)) (by simp [ownX, hk, f2, f3, f4]) Nat.zero_lt_one rfl (by (repeat (first | exact trivial | refine And.intro rfl ?_))) (by (repeat (first | exact trivial | refine And.intro rfl ?_))) rfl (by (repeat' (first | exact trivial | exact Nat.le_of_ble_eq_true rfl | constructor))) (by (repeat' (first | exact trivial | exact Nat.le_of_ble_eq_true rfl | exact vCells_lt _ _ _ _ _ _ | constructor)))
    · refine oj_split 18 rfl (fun _ => ?_) (fun h => absurd (show g.kind = 1 by simpa using h) (by omega))
      refine oj_run TT rfl ?_
      refine oj_split 23 rfl (fun h => ?_) (fun h => ?_)
      · have h : g.b = true := h
        refine oj_run TT rfl ?_
        (repeat refine oj_nil ?_)
        refine nj_set 61 (.a (.b true)) rfl trivial (fun _ => rfl) ?_
        refine nj_again true (by simp [ownX, hk, h]) Nat.zero_lt_one rfl (by (repeat (first | exact trivial | refine And.intro rfl ?_))) (by (repeat (first | exact trivial | refine And.intro rfl ?_))) rfl (by (repeat' (first | exact trivial | exact Nat.le_of_ble_eq_true rfl | constructor))) (by (repeat' (first | exact trivial | exact Nat.le_of_ble_eq_true rfl | exact vCells_lt _ _ _ _ _ _ | constructor)))
      have f1 : g.b = false := h
      refine oj_run TT rfl ?_
      refine oj_split 26 rfl (fun h => absurd hk (by simpa using h)) (fun _ => ?_)
      refine oj_run TT rfl ?_
      refine oj_split 36 rfl (fun _ => ?_) (fun h => absurd (show g.kind = 3 by simpa using h) (by omega))
      refine oj_run TT rfl ?_
      refine oj_split 42 rfl (fun h => ?_) (fun h => ?_)
      · have h : ¬ g.s = emptyS := by simpa using (show (!decide (g.s = emptyS)) = true from h)
        refine oj_run TT rfl ?_
        (repeat refine oj_nil ?_)
        refine nj_set 61 (.a (.b true)) rfl trivial (fun _ => rfl) ?_
        refine nj_again true (by simp [ownX, hk, h]) Nat.zero_lt_one rfl (by (repeat (first | exact trivial | refine And.intro rfl ?_))) (by (repeat (first | exact trivial | refine And.intro rfl ?_))) rfl (by (repeat' (first | exact trivial | exact Nat.le_of_ble_eq_true rfl | constructor))) (by (repeat' (first | exact trivial | exact Nat.le_of_ble_eq_true rfl | exact vCells_lt _ _ _ _ _ _ | constructor)))
      have f3 : g.s = emptyS := by simpa using (show (!decide (g.s = emptyS)) = false from h)
      refine oj_run TT rfl ?_
      refine oj_split 45 rfl (fun _ => ?_) (fun h => absurd (show g.kind = 4 by simpa using h) (by omega))
      refine oj_run TT rfl ?_
      refine oj_split 52 rfl (fun h => ?_) (fun h => ?_)
      · have h : 0 < g.l.length := by have : (g.l.length : Int) > 0 := of_decide_eq_true h; omega
        refine oj_run TT rfl ?_
        (repeat refine oj_nil ?_)
        refine nj_set 61 (.a (.b true)) rfl trivial (fun _ => rfl) ?_
        refine nj_again true (by simp [ownX, hk, h]) Nat.zero_lt_one rfl (by (repeat (first | exact trivial | refine And.intro rfl ?_))) (by (repeat (first | exact trivial | refine And.intro rfl ?_))) rfl (by (repeat' (first | exact trivial | exact Nat.le_of_ble_eq_true rfl | constructor))) (by (repeat' (first | exact trivial | exact Nat.le_of_ble_eq_true rfl | exact vCells_lt _ _ _ _ _ _ | constructor)))
      have f4 : ¬ 0 < g.l.length := by have : ¬ (g.l.length : Int) > 0 := of_decide_eq_false h; omega
      refine oj_run TT rfl ?_
      refine oj_split 55 rfl (fun _ => ?_) (fun h => absurd (show g.kind = 5 by simpa using h) (by omega))
      refine oj_run TT rfl ?_
      (repeat refine oj_nil ?_)
      refine nj_again (decide ((g.ks.length : Int) > 0)) (by simp [ownX, hk, f1, f3, f4]) Nat.zero_lt_one rfl (by (repeat (first | exact trivial | refine And.intro rfl ?_))) (by (repeat (first | exact trivial | refine And.intro rfl ?_))) rfl (by (repeat' (first | exact trivial | exact Nat.le_of_ble_eq_true rfl | constructor))) (by (repeat' (first | exact trivial | exact Nat.le_of_ble_eq_true rfl | exact vCells_lt _ _ _ _ _ _ | constructor)))
    · refine oj_split 18 rfl (fun _ => ?_) (fun h => absurd (show g.kind = 1 by simpa using h) (by omega))
      refine oj_run TT rfl ?_
      refine oj_split 23 rfl (fun h => ?_) (fun h => ?_)
      · have h : g.b = true := h
        refine oj_run TT rfl ?_
        (repeat refine oj_nil ?_)
        refine nj_set 61 (.a (.b true)) rfl trivial (fun _ => rfl) ?_
        refine nj_again true (by simp [ownX, hk, h]) Nat.zero_lt_one rfl (by (repeat (first | exact trivial | refine And.intro rfl ?_))) (by (repeat (first | exact trivial | refine And.intro rfl ?_))) rfl (by (repeat' (first | exact trivial | exact Nat.le_of_ble_eq_true rfl | constructor))) (by (repeat' (first | exact trivial | exact Nat.le_of_ble_eq_true rfl | exact vCells_lt _ _ _ _ _ _ | constructor)))
      have f1 : g.b = false := h
      refine oj_run TT rfl ?_
      refine oj_split 26 rfl (fun _ => ?_) (fun h => absurd (show g.kind = 2 by simpa using h) (by omega))
      refine oj_run TT rfl ?_
      refine oj_neDecR g.n dec0 rfl rfl rfl rfl rfl rfl rfl (fun _ => rfl) (fun _ => rfl) (oj_run TT rfl ?_)
      refine oj_split 33 rfl (fun h => ?_) (fun h => ?_)
      · have h : ¬ g.n = dec0 := by simpa using (show (!decide (g.n = dec0)) = true from h)
        refine oj_run TT rfl ?_
        (repeat refine oj_nil ?_)
        refine nj_set 61 (.a (.b true)) rfl trivial (fun _ => rfl) ?_
        refine nj_again true (by simp [ownX, hk, h]) Nat.zero_lt_one rfl (by (repeat (first | exact trivial | refine And.intro rfl ?_))) (by (repeat (first | exact trivial | refine And.intro rfl ?_))) rfl (by (repeat' (first | exact trivial | exact Nat.le_of_ble_eq_true rfl | constructor))) (by (repeat' (first | exact trivial | exact Nat.le_of_ble_eq_true rfl | exact vCells_lt _ _ _ _ _ _ | constructor)))
      have f2 : g.n = dec0 := by simpa using (show (!decide (g.n = dec0)) = false from h)
      refine oj_run TT rfl ?_
      refine oj_split 36 rfl (fun h => absurd hk (by simpa using h)) (fun _ => ?_)
      refine oj_run TT rfl ?_
      refine oj_split 45 rfl (fun _ => ?_) (fun h => absurd (show g.kind = 4 by simpa using h) (by omega))
      refine oj_run TT rfl ?_
      refine oj_split 52 rfl (fun h => ?_) (fun h => ?_)
      · have h : 0 < g.l.length := by have : (g.l.length : Int) > 0 := of_decide_eq_true h; omega
        refine oj_run TT rfl ?_
        (repeat refine oj_nil ?_)
        refine nj_set 61 (.a (.b true)) rfl trivial (fun _ => rfl) ?_
        refine nj_again true (by simp [ownX, hk, h]) Nat.zero_lt_one rfl (by (repeat (first | exact trivial | refine And.intro rfl ?_))) (by (repeat (first | exact trivial | refine And.intro rfl ?_))) rfl (by (repeat' (first | exact trivial | exact Nat.le_of_ble_eq_true rfl | constructor))) (by (repeat' (first | exact trivial | exact Nat.le_of_ble_eq_true rfl | exact vCells_lt _ _ _ _ _ _ | constructor)))
      have f4 : ¬ 0 < g.l.length := by have : ¬ (g.l.length : Int) > 0 := of_decide_eq_false h; omega
      refine oj_run TT rfl ?_
      refine oj_split 55 rfl (fun _ => ?_) (fun h => absurd (show g.kind = 5 by simpa using h) (by omega))
      refine oj_run TT rfl ?_
      (repeat refine oj_nil ?_)
      refine nj_again (decide ((g.ks.length : Int) > 0)) (by simp [ownX, hk, f1, f2, f4]) Nat.zero_lt_one rfl (by (repeat (first | exact trivial | refine And.intro rfl ?_))) (by (repeat (first | exact trivial | refine And.intro rfl ?_))) rfl (by (repeat' (first | exact trivial | exact Nat.le_of_ble_eq_true rfl | constructor))) (by (repeat' (first | exact trivial | exact Nat.le_of_ble_eq_true rfl | exact vCells_lt _ _ _ _ _ _ | constructor)))
    · refine oj_split 18 rfl (fun _ => ?_) (fun h => absurd (show g.kind = 1 by simpa using h) (by omega))
      refine oj_run TT rfl ?_
      refine oj_split 23 rfl (fun h => ?_) (fun h => ?_)
      · have h : g.b = true := h
        refine oj_run TT rfl ?_
        (repeat refine oj_nil ?_)
        refine nj_set 61 (.a (.b true)) rfl trivial (fun _ => rfl) ?_
        refine nj_again true (by simp [ownX, hk, h]) Nat.zero_lt_one rfl (by (repeat (first | exact trivial | refine And.intro rfl ?_))) (by (repeat (first | exact trivial | refine And.intro rfl ?_))) rfl (by (repeat' (first | exact trivial | exact Nat.le_of_ble_eq_true rfl | constructor))) (by (repeat' (first | exact trivial | exact Nat.le_of_ble_eq_true rfl | exact vCells_lt _ _ _ _ _ _ | constructor)))
      have f1 : g.b = false := h
      refine oj_run TT rfl ?_
      refine oj_split 26 rfl (fun _ => ?_) (fun h => absurd (show g.kind = 2 by simpa using h) (by omega))
      refine oj_run TT rfl ?_
      refine oj_neDecR g.n dec0 rfl rfl rfl rfl rfl rfl rfl (fun _ => rfl) (fun _ => rfl) (oj_run TT rfl ?_)
      refine oj_split 33 rfl (fun h => ?_) (fun h => ?_)
      · have h : ¬ g.n = dec0 := by simpa using (show (!decide (g.n = dec0)) = true from h)
        refine oj_run TT rfl ?_
        (repeat refine oj_nil ?_)
        refine nj_set 61 (.a (.b true)) rfl trivial (fun _ => rfl) ?_
        refine nj_again true (by simp [ownX, hk, h]) Nat.zero_lt_one rfl (by (repeat (first | exact trivial | refine And.intro rfl ?_))) (by (repeat (first | exact trivial | refine And.intro rfl ?_))) rfl (by (repeat' (first | exact trivial | exact Nat.le_of_ble_eq_true rfl | constructor))) (by (repeat' (first | exact trivial | exact Nat.le_of_ble_eq_true rfl | exact vCells_lt _ _ _ _ _ _ | constructor)))
      have f2 : g.n = dec0 := by simpa using (show (!decide (g.n = dec0)) = false from h)
      refine oj_run TT rfl ?_
      refine oj_split 36 rfl (fun _ => ?_) (fun h => absurd (show g.kind = 3 by simpa using h) (by omega))
      refine oj_run TT rfl ?_
      refine oj_split 42 rfl (fun h => ?_) (fun h => ?_)
      · have h : ¬ g.s = emptyS := by simpa using (show (!decide (g.s = emptyS)) = true from h)
        refine oj_run TT rfl ?_
        (repeat refine oj_nil ?_)
        refine nj_set 61 (.a (.b true)) rfl trivial (fun _ => rfl) ?_
        refine nj_again true (by simp [ownX, hk, h]) Nat.zero_lt_one rfl (by (repeat (first | exact trivial | refine And.intro rfl ?_))) (by (repeat (first | exact trivial | refine And.intro rfl ?_))) rfl (by (repeat' (first | exact trivial | exact Nat.le_of_ble_eq_true rfl | constructor))) (by (repeat' (first | exact trivial | exact Nat.le_of_ble_eq_true rfl | exact vCells_lt _ _ _ _ _ _ | constructor)))
      have f3 : g.s = emptyS := by simpa using (show (!decide (g.s = emptyS)) = false from h)
      refine oj_run TT rfl ?_
      refine oj_split 45 rfl (fun h => absurd hk (by simpa using h)) (fun _ => ?_)
      refine oj_run TT rfl ?_
      refine oj_split 55 rfl (fun _ => ?_) (fun h => absurd (show g.kind = 5 by simpa using h) (by omega))
      refine oj_run TT rfl ?_
      (repeat refine oj_nil ?_)
      refine nj_again (decide ((g.ks.length : Int) > 0)) (by simp [ownX, hk, f1, f2, f3]) Nat.zero_lt_one rfl (by (repeat (first | exact trivial | refine And.intro rfl ?_))) (by (repeat (first | exact trivial | refine And.intro rfl ?_))) rfl (by (repeat' (first | exact trivial | exact Nat.le_of_ble_eq_true rfl | constructor))) (by (repeat' (first | exact trivial | exact Nat.le_of_ble_eq_true rfl | exact vCells_lt _ _ _ _ _ _ | constructor)))
    · refine oj_split 18 rfl (fun _ => ?_) (fun h => absurd (show g.kind = 1 by simpa using h) (by omega))
      refine oj_run TT rfl ?_
      refine oj_split 23 rfl (fun h => ?_) (fun h => ?_)
      · have h : g.b = true := h
        refine oj_run TT rfl ?_
        (repeat refine oj_nil ?_)
        refine nj_set 61 (.a (.b true)) rfl trivial (fun _ => rfl) ?_
        refine nj_again true (by simp [ownX, hk, h]) Nat.zero_lt_one rfl (by (repeat (first | exact trivial | refine And.intro rfl ?_))) (by (repeat (first | exact trivial | refine And.intro rfl ?_))) rfl (by (repeat' (first | exact trivial | exact Nat.le_of_ble_eq_true rfl | constructor))) (by (repeat' (first | exact trivial | exact Nat.le_of_ble_eq_true rfl | exact vCells_lt _ _ _ _ _ _ | constructor)))
      have f1 : g.b = false := h
      refine oj_run TT rfl ?_
      refine oj_split 26 rfl (fun _ => ?_) (fun h => absurd (show g.kind = 2 by simpa using h) (by omega))
      refine oj_run TT rfl ?_
      refine oj_neDecR g.n dec0 rfl rfl rfl rfl rfl rfl rfl (fun _ => rfl) (fun _ => rfl) (oj_run TT rfl ?_)
      refine oj_split 33 rfl (fun h => ?_) (fun h => ?_)
      · have h : ¬ g.n = dec0 := by simpa using (show (!decide (g.n = dec0)) = true from h)
        refine oj_run TT rfl ?_
        (repeat refine oj_nil ?_)
        refine nj_set 61 (.a (.b true)) rfl trivial (fun _ => rfl) ?_
        refine nj_again true (by simp [ownX, hk, h]) Nat.zero_lt_one rfl (by (repeat (first | exact trivial | refine And.intro rfl ?_))) (by (repeat (first | exact trivial | refine And.intro rfl ?_))) rfl (by (repeat' (first | exact trivial | exact Nat.le_of_ble_eq_true rfl | constructor))) (by (repeat' (first | exact trivial | exact Nat.le_of_ble_eq_true rfl | exact vCells_lt _ _ _ _ _ _ | constructor)))
      have f2 : g.n = dec0 := by simpa using (show (!decide (g.n = dec0)) = false from h)
      refine oj_run TT rfl ?_
      refine oj_split 36 rfl (fun _ => ?_) (fun h => absurd (show g.kind = 3 by simpa using h) (by omega))
      refine oj_run TT rfl ?_
      refine oj_split 42 rfl (fun h => ?_) (fun h => ?_)
      · have h : ¬ g.s = emptyS := by simpa using (show (!decide (g.s = emptyS)) = true from h)
        refine oj_run TT rfl ?_
        (repeat refine oj_nil ?_)
        refine nj_set 61 (.a (.b true)) rfl trivial (fun _ => rfl) ?_
        refine nj_again true (by simp [ownX, hk, h]) Nat.zero_lt_one rfl (by (repeat (first | exact trivial | refine And.intro rfl ?_))) (by (repeat (first | exact trivial | refine And.intro rfl ?_))) rfl (by (repeat' (first | exact trivial | exact Nat.le_of_ble_eq_true rfl | constructor))) (by (repeat' (first | exact trivial | exact Nat.le_of_ble_eq_true rfl | exact vCells_lt _ _ _ _ _ _ | constructor)))
      have f3 : g.s = emptyS := by simpa using (show (!decide (g.s = emptyS)) = false from h)
      refine oj_run TT rfl ?_
      refine oj_split 45 rfl (fun _ => ?_) (fun h => absurd (show g.kind = 4 by simpa using h) (by omega))
      refine oj_run TT rfl ?_
      refine oj_split 52 rfl (fun h => ?_) (fun h => ?_)
      · have h : 0 < g.l.length := by have : (g.l.length : Int) > 0 := of_decide_eq_true h; omega
        refine oj_run TT rfl ?_
        (repeat refine oj_nil ?_)
        refine nj_set 61 (.a (.b true)) rfl trivial (fun _ => rfl) ?_
        refine nj_again true (by simp [ownX, hk, h]) Nat.zero_lt_one rfl (by (repeat (first | exact trivial | refine And.intro rfl ?_))) (by (repeat (first | exact trivial | refine And.intro rfl ?_))) rfl (by (repeat' (first | exact trivial | exact Nat.le_of_ble_eq_true rfl | constructor))) (by (repeat' (first | exact trivial | exact Nat.le_of_ble_eq_true rfl | exact vCells_lt _ _ _ _ _ _ | constructor)))
      have f4 : ¬ 0 < g.l.length := by have : ¬ (g.l.length : Int) > 0 := of_decide_eq_false h; omega
      refine oj_run TT rfl ?_
      refine oj_split 55 rfl (fun h => absurd hk (by simpa using h)) (fun _ => ?_)
      refine oj_run TT rfl ?_
      (repeat refine oj_nil ?_)
      refine nj_set 61 (.a (.b false)) rfl trivial (fun _ => rfl) ?_
      refine nj_again false (by simp [ownX, hk, f1, f2, f3, f4]) Nat.zero_lt_one rfl (by (repeat (first | exact trivial | refine And.intro rfl ?_))) (by (repeat (first | exact trivial | refine And.intro rfl ?_))) rfl (by (repeat' (first | exact trivial | exact Nat.le_of_ble_eq_true rfl | constructor))) (by (repeat' (first | exact trivial | exact Nat.le_of_ble_eq_true rfl | exact vCells_lt _ _ _ _ _ _ | constructor)))
  subst hx
  refine cj_if rfl (fun h => ?_) (fun h => ?_)
  · have h : ownX g = true := h
    (repeat (first | refine cj_seq ?_ | (refine cj_region ?_; refine oj_run TT rfl ?_) | refine oj_then ?_ | refine cj_ret ?_ | refine nj_then_ret ?_))
    refine nj_ret TT rfl fun β w' _ _ => ?_
    rw [h]
    rfl
  have h : ownX g = false := h
  rw [h]
  simp only [Bool.not_false, Bool.true_and]
  (repeat (first | refine cj_seq ?_ | (refine cj_region ?_; refine oj_run TT rfl ?_) | refine cj_skip ?_ | refine nj_then ?_))
  refine oj_callP rfl rfl rfl rfl rfl Tryd.call150 (by (repeat' (first | exact trivial | exact decCells_lt _ _ | constructor))) (rdecSane_c σ g.n V.dg) fun v hv => ⟨.a (.b (decSane g.n)), trivial, hv.symm, ?_⟩
  refine oj_run TT rfl ?_
  refine oj_split 66 rfl (fun h => ?_) (fun h => ?_)
  · have h : decSane g.n = false := by simpa using h
    refine oj_run TT rfl ?_
    (repeat (first | refine cj_seq ?_ | (refine cj_region ?_; refine oj_run TT rfl ?_) | refine oj_then ?_ | refine cj_if_t rfl ?_ | refine cj_ret ?_ | refine nj_then_ret ?_))
    refine nj_ret TT rfl fun β w' _ _ => ?_
    rw [h]
    rfl
  have h : decSane g.n = true := by simpa using h
  rw [h]
  simp only [Bool.true_and]
  obtain ⟨sl, hsl⟩ := mkB_ex g.s
  have hsz := mkB_size sl
  have hs := V.s
  refine oj_run TT rfl ?_
  refine oj_bytes (y := g.s) TT rfl rfl rfl rfl rfl rfl rfl rfl rfl rfl rfl fun ao cap σ1 hle1 H => ?_
  rw [hsl, hsz, bRows_mk] at H
  refine oj_set 69 (.a (.v (.slice ao sl.length cap))) rfl trivial (fun β => by rw [hsl, hsz]) (oj_run TT rfl ?_)
  refine oj_callP rfl rfl rfl rfl rfl Tryd.call151 (by (repeat' (first | exact trivial | constructor))) (rCheck_c σ1 ao cap sl H (by rw [← hsz, ← hsl]; exact hs)) fun v hv => ⟨.a (.v (.int .i64 (utfCheck sl))), trivial, hv.symm, ?_⟩
  refine oj_run TT rfl ?_
  (repeat refine oj_then ?_)
  have hsl2 : g.s.data.toList = sl := by rw [hsl]; exact mkB_list sl
  rw [hsl2]
  refine cj_if rfl (fun h => ?_) (fun h => ?_)
  · have h : utfCheck sl ≥ 0 := of_decide_eq_true h
    (repeat (first | refine cj_seq ?_ | (refine cj_region ?_; refine oj_run TT rfl ?_) | refine oj_then ?_ | refine cj_ret ?_ | refine nj_then_ret ?_))
    refine nj_ret TT rfl fun β w' _ _ => ?_
    rw [decide_eq_false (by omega), Bool.false_and]
    rfl
  have h : ¬ utfCheck sl ≥ 0 := of_decide_eq_false h
  rw [decide_eq_true (show utfCheck sl < 0 by omega), Bool.true_and]
  (repeat (first | refine cj_seq ?_ | (refine cj_region ?_; refine oj_run TT rfl ?_) | refine oj_then ?_ | refine cj_skip ?_ | refine cj_block ?_ | refine nj_then ?_))
  refine cj_loop2 (fun (s : Snap) (_ : Nat) => s) (fun _ k => [(1, .a (.p 0 0)), (5, .a (.v (.int .i64 k)))]) (fun _ _ => [(0, .loc 27, vCells g la lc ma mc)]) (fun _ _ => []) 1
    (fun s k => σ1.le s ∧ k ≤ g.ks.length ∧ (g.ks.take k).all keyOk = true) (fun _ k => g.ks.length - k) σ1 0 ⟨Snap.le_refl _, Nat.zero_le _, rfl⟩ rfl (by (repeat (first | exact trivial | refine And.intro rfl ?_))) (by (repeat (first | exact trivial | refine And.intro rfl ?_))) rfl (by (repeat' (first | exact trivial | exact Nat.le_of_ble_eq_true rfl | constructor))) (by (repeat' (first | exact trivial | exact Nat.le_of_ble_eq_true rfl | exact vCells_lt _ _ _ _ _ _ | constructor))) fun s k ⟨hs1, hk, hp⟩ => ?_
  (repeat (first | refine cj_seq ?_ | (refine cj_region ?_; refine oj_run TT rfl ?_) | refine oj_then ?_))
  refine cj_if rfl (fun h => ?_) (fun h => ?_)
  rotate_left
  · have hk0 : k = g.ks.length := by have := of_decide_eq_false h; omega
    subst hk0
    rw [List.take_length] at hp
    (repeat (first | refine cj_seq ?_ | (refine cj_region ?_; refine oj_run TT rfl ?_) | refine oj_then ?_ | refine cj_exit ?_ | refine cj_ret ?_ | refine nj_then ?_ | refine nj_then_exit ?_ | refine nj_block_out ?_))
    refine nj_ret TT rfl fun β w' _ _ => ?_
    rw [hp]
    rfl
  have hkl' : k < g.ks.length := by have := of_decide_eq_true h; omega
  obtain ⟨r, hr1, hr2⟩ := V.v.get (List.getElem?_eq_getElem (l := g.vs) (i := k) (by have := V.kv; omega))
  have hrow := keyRows_get (List.getElem?_eq_getElem hkl') hr1
  have hkk := V.kk _ (List.getElem_mem hkl')
  have htk : (g.ks.take (k + 1)).all keyOk = keyOk g.ks[k] := by rw [List.take_succ_eq_append_getElem hkl', List.all_append, hp]; simp
  have hmem : g.ks[k] ∈ g.ks := List.getElem_mem hkl'
  generalize g.ks[k] = key at *
  obtain ⟨kl, hke⟩ := mkB_ex key
  have hkz := mkB_size kl
  obtain ⟨la', lc', lrows', ma', mc', vrows', rfl, V'⟩ := hr2.open
  (repeat (first | refine cj_seq ?_ | (refine cj_region ?_; refine oj_run TT rfl ?_) | refine cj_skip ?_ | refine cj_block ?_ | refine nj_then ?_))
  refine oj_idx TT rfl rfl rfl rfl rfl rfl rfl rfl rfl (V.M.mono (Snap.le_trans hle1 hs1)) (by omega) hrow (oj_run TT rfl ?_)
  refine oj_bytes (y := key) TT rfl rfl rfl rfl rfl rfl rfl rfl rfl rfl rfl fun ao2 cap2 σ2 hle2 H2 => ?_
  rw [hke, hkz, bRows_mk] at H2
  refine oj_set 86 (.a (.v (.slice ao2 kl.length cap2))) rfl trivial (fun β => by rw [hke, hkz]) (oj_run TT rfl ?_)
  refine oj_callP rfl rfl rfl rfl rfl Tryd.call151 (by (repeat' (first | exact trivial | constructor))) (rCheck_c σ2 ao2 cap2 kl H2 (by rw [← hkz, ← hke]; exact hkk)) fun v hv => ⟨.a (.v (.int .i64 (utfCheck kl))), trivial, hv.symm, ?_⟩
  refine oj_run TT rfl ?_
  (repeat refine oj_then ?_)
  have hko : keyOk key = decide (utfCheck kl < 0) := by unfold keyOk; rw [hke, mkB_list]
  refine cj_if rfl (fun h => ?_) (fun h => ?_)
  · have h : utfCheck kl ≥ 0 := of_decide_eq_true h
    (repeat (first | refine cj_seq ?_ | (refine cj_region ?_; refine oj_run TT rfl ?_) | refine oj_then ?_ | refine cj_ret ?_ | refine nj_then_ret ?_ | refine nj_block_ret ?_))
    refine nj_ret TT rfl fun β w' _ _ => ?_
    rw [show g.ks.all keyOk = false by
      rw [List.all_eq_false]
      exact ⟨key, hmem, by rw [hko, decide_eq_false (by omega)]; decide⟩]
    rfl
  · have h : ¬ utfCheck kl ≥ 0 := of_decide_eq_false h
    (repeat (first | (refine cj_region ?_; refine oj_run TT rfl ?_) | refine oj_nil ?_ | refine cj_skip ?_ | refine nj_then ?_ | refine nj_block ?_ | (refine oj_add rfl rfl rfl rfl rfl rfl (by omega) ?_; refine oj_run TT rfl ?_)))
    refine nj_again (σ2, k + 1) ⟨Snap.le_trans hs1 hle2, hkl', by dsimp only; rw [htk, hko, decide_eq_true (by omega)]⟩ (by dsimp only; omega) rfl (by (repeat (first | exact trivial | refine And.intro rfl ?_))) (by (repeat (first | exact trivial | refine And.intro rfl ?_))) rfl (by (repeat' (first | exact trivial | exact Nat.le_of_ble_eq_true rfl | constructor))) (by (repeat' (first | exact trivial | exact Nat.le_of_ble_eq_true rfl | exact vCells_lt _ _ _ _ _ _ | constructor)))

theorem pos_dec (n : Nat) : decide ((n : Int) > 0) = !decide (n = 0) := by
  rw [Bool.eq_iff_iff]
  simp
  omega
theorem b0 : ∀ B N S L M D U K : Bool, (N = true → D = true) → (S = true → U = true) → (M = true → K = true) → ((!(false || false || (!false && B) || (!false && !N) || (!false && !S) || (!false && !L) || (!false && !M)) && D && U && K) = (!B && N && S && L && M)) := by decide +kernel
theorem b1 : ∀ B N S L M D U K : Bool, (N = true → D = true) → (S = true → U = true) → (M = true → K = true) → ((!(false || false || (!true && B) || (!false && !N) || (!false && !S) || (!false && !L) || (!false && !M)) && D && U && K) = (N && S && L && M)) := by decide +kernel
theorem b2 : ∀ B N S L M D U K : Bool, (N = true → D = true) → (S = true → U = true) → (M = true → K = true) → ((!(false || false || (!false && B) || (!true && !N) || (!false && !S) || (!false && !L) || (!false && !M)) && D && U && K) = (D && !B && S && L && M)) := by decide +kernel
theorem b3 : ∀ B N S L M D U K : Bool, (N = true → D = true) → (S = true → U = true) → (M = true → K = true) → ((!(false || false || (!false && B) || (!false && !N) || (!true && !S) || (!false && !L) || (!false && !M)) && D && U && K) = (U && !B && N && L && M)) := by decide +kernel
theorem b4 : ∀ B N S L M D U K : Bool, (N = true → D = true) → (S = true → U = true) → (M = true → K = true) → ((!(false || false || (!false && B) || (!false && !N) || (!false && !S) || (!true && !L) || (!false && !M)) && D && U && K) = (!B && N && S && M)) := by decide +kernel
theorem b5 : ∀ B N S L M D U K : Bool, (N = true → D = true) → (S = true → U = true) → (M = true → K = true) → ((!(false || false || (!false && B) || (!false && !N) || (!false && !S) || (!false && !L) || (!true && !M)) && D && U && K) = (K && !B && N && S && L)) := by decide +kernel

/-- The reference's own is the program's fields. -/
theorem own_eq (g : GVal) : (!ownX g && decSane g.n && decide (utfCheck g.s.data.toList < 0) && g.ks.all keyOk) = fieldsG g := by
  have hN : decide (g.n = dec0) = true → decSane g.n = true := fun h => by rw [of_decide_eq_true h]; rfl
  have hS : decide (g.s = emptyS) = true → decide (utfCheck g.s.data.toList < 0) = true := fun h => by rw [of_decide_eq_true h]; rfl
  have hM : decide (g.ks.length = 0) = true → g.ks.all keyOk = true := fun h => by rw [List.length_eq_zero_iff.1 (of_decide_eq_true h)]; rfl
  by_cases k0 : g.kind = 0
  · rw [fieldsG_0 k0, ← b0 _ _ _ _ _ _ _ _ hN hS hM]
    unfold ownX
    rw [k0, pos_dec, pos_dec]
    rfl
  by_cases k1 : g.kind = 1
  · rw [fieldsG_1 k1, ← b1 g.b _ _ _ _ _ _ _ hN hS hM]
    unfold ownX
    rw [k1, pos_dec, pos_dec]
    rfl
  by_cases k2 : g.kind = 2
  · rw [fieldsG_2 k2, ← b2 _ _ _ _ _ _ _ _ hN hS hM]
    unfold ownX
    rw [k2, pos_dec, pos_dec]
    rfl
  by_cases k3 : g.kind = 3
  · rw [fieldsG_3 k3, ← b3 _ _ _ _ _ _ _ _ hN hS hM]
    unfold ownX
    rw [k3, pos_dec, pos_dec]
    rfl
  by_cases k4 : g.kind = 4
  · rw [fieldsG_4 k4, ← b4 _ _ _ (decide (g.l.length = 0)) _ _ _ _ hN hS hM]
    unfold ownX
    rw [k4, pos_dec, pos_dec]
    rfl
  by_cases k5 : g.kind = 5
  · rw [fieldsG_5 k5, ← b5 _ _ _ _ _ _ _ _ hN hS hM]
    unfold ownX
    rw [k5, pos_dec, pos_dec]
    rfl
  rw [fieldsG_x k0 k1 k2 k3 k4 k5]
  have : ownX g = true := by
    unfold ownX
    by_cases h : g.kind < 0
    · simp [h]
    · have : g.kind > 5 := by omega
      simp [this]
  rw [this]
  rfl
end Go.Sy
