/- Bounds on a value's records. No program in sight. -/
import Derived.Test.YtadnijcgohflhaaDoorLa
namespace Go.Sy

mutual
theorem shredV_bd {gap : Int} (hg : 0 ≤ gap) : ∀ (g : GVal) (lv : Int) (nm : Bool) (name : ByteArray) (now : Int), now ≤ (shredV gap g lv nm name now).2 ∧ ∀ r ∈ (shredV gap g lv nm name now).1, now ≤ r.st ∧ r.st ≤ (shredV gap g lv nm name now).2 ∧ now ≤ r.en ∧ r.en ≤ (shredV gap g lv nm name now).2
  | .mk kd b n s l ks vs, lv, nm, name, now => by
    simp only [shredV]
    obtain ⟨h1, h2⟩ := shredL_bd hg l (lv + 1) (now + gap)
    obtain ⟨h3, h4⟩ := shredM_bd hg vs ks (lv + 1) (shredL gap l (lv + 1) (now + gap)).2
    refine ⟨by omega, fun r hr => ?_⟩
    rcases List.mem_cons.1 hr with rfl | hr
    · simp only []; omega
    · rcases List.mem_append.1 hr with hr | hr
      · have := h2 r hr; omega
      · have := h4 r hr; omega
theorem shredL_bd {gap : Int} (hg : 0 ≤ gap) : ∀ (gs : List GVal) (lv : Int) (now : Int), now ≤ (shredL gap gs lv now).2 ∧ ∀ r ∈ (shredL gap gs lv now).1, now ≤ r.st ∧ r.st ≤ (shredL gap gs lv now).2 ∧ now ≤ r.en ∧ r.en ≤ (shredL gap gs lv now).2
  | [], lv, now => ⟨Int.le_refl _, fun r hr => by cases hr⟩
  | g :: gs, lv, now => by
    simp only [shredL]
    obtain ⟨h1, h2⟩ := shredV_bd hg g lv false ⟨#[]⟩ now
    obtain ⟨h3, h4⟩ := shredL_bd hg gs lv (shredV gap g lv false ⟨#[]⟩ now).2
    refine ⟨by omega, fun r hr => ?_⟩
    rcases List.mem_append.1 hr with hr | hr
    · have := h2 r hr; omega
    · have := h4 r hr; omega
theorem shredM_bd {gap : Int} (hg : 0 ≤ gap) : ∀ (gs : List GVal) (ks : List ByteArray) (lv : Int) (now : Int), now ≤ (shredM gap gs ks lv now).2 ∧ ∀ r ∈ (shredM gap gs ks lv now).1, now ≤ r.st ∧ r.st ≤ (shredM gap gs ks lv now).2 ∧ now ≤ r.en ∧ r.en ≤ (shredM gap gs ks lv now).2
  | [], ks, lv, now => by simp only [shredM]; exact ⟨Int.le_refl _, fun r hr => by cases hr⟩
  | g :: gs, [], lv, now => by simp only [shredM]; exact ⟨Int.le_refl _, fun r hr => by cases hr⟩
  | g :: gs, nk :: ks, lv, now => by
    simp only [shredM]
    obtain ⟨h1, h2⟩ := shredV_bd hg g lv true nk now
    obtain ⟨h3, h4⟩ := shredM_bd hg gs ks lv (shredV gap g lv true nk now).2
    refine ⟨by omega, fun r hr => ?_⟩
    rcases List.mem_append.1 hr with hr | hr
    · have := h2 r hr; omega
    · have := h4 r hr; omega
end

mutual
theorem shredV_fit {σ : Snap} (gap : Int) : ∀ (g : GVal) (r : List AT) (lv : Int) (nm : Bool) (name : ByteArray) (now : Int), RepV σ g r → name.size ≤ mostLen → RecsFit (shredV gap g lv nm name now).1
  | .mk kd b n s l ks vs, r, lv, nm, name, now, h, hn => by
    simp only [RepV] at h
    obtain ⟨_, _, _, _, _, _, _, _, h3, h4, _, h6, h7, h8, _, _, h9⟩ := h
    simp only [shredV]
    intro x hx
    rcases List.mem_cons.1 hx with rfl | hx
    · exact ⟨h7, h8, hn⟩
    · rcases List.mem_append.1 hx with hx | hx
      · exact shredL_fit gap l _ _ _ h3 x hx
      · exact shredM_fit gap vs _ ks _ _ h6 h9 x hx
theorem shredL_fit {σ : Snap} (gap : Int) : ∀ (gs : List GVal) (rs : List (List AT)) (lv : Int) (now : Int), RepL σ gs rs → RecsFit (shredL gap gs lv now).1
  | [], _, _, _, _ => fun x hx => by cases hx
  | g :: gs, rs, lv, now, h => by
    simp only [RepL] at h
    obtain ⟨r, rs', _, h2, h3⟩ := h
    simp only [shredL]
    intro x hx
    rcases List.mem_append.1 hx with hx | hx
    · exact shredV_fit gap g r _ _ _ _ h2 (by simp [mostLen, ByteArray.size]) x hx
    · exact shredL_fit gap gs rs' _ _ h3 x hx
theorem shredM_fit {σ : Snap} (gap : Int) : ∀ (gs : List GVal) (rs : List (List AT)) (ks : List ByteArray) (lv : Int) (now : Int), RepL σ gs rs → (∀ k ∈ ks, k.size ≤ mostLen) → RecsFit (shredM gap gs ks lv now).1
  | [], _, ks, _, _, _, _ => by simp only [shredM]; exact fun x hx => by cases hx
  | g :: gs, _, [], _, _, _, _ => by simp only [shredM]; exact fun x hx => by cases hx
  | g :: gs, rs, nk :: ks, lv, now, h, hk => by
    simp only [RepL] at h
    obtain ⟨r, rs', _, h2, h3⟩ := h
    simp only [shredM]
    intro x hx
    rcases List.mem_append.1 hx with hx | hx
    · exact shredV_fit gap g r _ _ _ _ h2 (hk nk (List.mem_cons_self ..)) x hx
    · exact shredM_fit gap gs rs' ks _ _ h3 (fun k hk' => hk k (List.mem_cons_of_mem _ hk')) x hx
end

theorem RecsFit.map {L : List GRec} (h : RecsFit L) (φ : Int → Int) : RecsFit (L.map (stE φ)) := by
  intro r hr
  obtain ⟨x, hx, rfl⟩ := List.mem_map.1 hr
  exact h x hx

/-- 'x & m', m a small number. -/
theorem bAnd_le (x m : Int) (h0 : 0 ≤ m) (h1 : m ≤ 1000000000) : 0 ≤ bAnd .i64 x m ∧ bAnd .i64 x m ≤ m := by
  have hm : (BitVec.ofInt 64 m).toNat = m.toNat := by
    rw [BitVec.toNat_ofInt]
    have : m % ((2 ^ 64 : Nat) : Int) = m := Int.emod_eq_of_lt h0 (by omega)
    rw [this]
  have hle : (BitVec.ofInt 64 x &&& BitVec.ofInt 64 m).toNat ≤ m.toNat := by
    rw [BitVec.toNat_and, ← hm]
    exact Nat.and_le_right
  have hw : bAnd .i64 x m = ((BitVec.ofInt 64 x &&& BitVec.ofInt 64 m).toNat : Int) := by
    unfold bAnd
    refine IntWalk.i64_in _ ?_
    have hle' : (BitVec.ofInt IntKind.i64.bits x &&& BitVec.ofInt IntKind.i64.bits m).toNat ≤ m.toNat := hle
    generalize (BitVec.ofInt IntKind.i64.bits x &&& BitVec.ofInt IntKind.i64.bits m).toNat = q at hle'
    omega
  rw [hw]
  omega
end Go.Sy
