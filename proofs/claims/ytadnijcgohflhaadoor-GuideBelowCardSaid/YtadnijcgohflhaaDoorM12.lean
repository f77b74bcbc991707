/- Parts of the proof of CGuideBelow: Ld, F25, F32, SyV, F33, Lf, Lg. No conditions. -/
import Derived.Test.YtadnijcgohflhaaDoorM11
import Derived.Scope
/- Plain laws on the places of a value's records. No program in sight. -/
namespace Go.Sy

/-! ### Keys -/

mutual
/-- No two members of one key, at any depth. -/
def keysOk : GVal → Prop
  | .mk _ _ _ _ l ks vs => twiceG ks = false ∧ keysOks l ∧ keysOks vs
def keysOks : List GVal → Prop
  | [] => True
  | g :: gs => keysOk g ∧ keysOks gs
end

mutual
theorem sane_keys : ∀ (g : GVal) (deep c : Int), (saneG g deep c).1 = 0 → keysOk g
  | .mk k b n s l ks vs, deep, c, h => by
    simp only [saneG] at h
    split at h
    · simp at h
    split at h
    · simp at h
    rename_i ht
    split at h
    · simp at h
    split at h
    · simp at h
    simp only [keysOk]
    have hl : (saneL l deep (c + 1)).1 = 0 := by
      by_cases h0 : (saneL l deep (c + 1)).1 = 0
      · exact h0
      · rw [if_pos h0] at h; exact h
    rw [if_neg (by simp [hl])] at h
    exact ⟨by simpa using ht, sane_keyss l _ _ hl, sane_keyss vs _ _ h⟩
theorem sane_keyss : ∀ (gs : List GVal) (deep c : Int), (saneL gs deep c).1 = 0 → keysOks gs
  | [], _, _, _ => trivial
  | g :: gs, deep, c, h => by
    simp only [saneL] at h
    have hg : (saneG g (deep + 1) c).1 = 0 := by
      by_cases h0 : (saneG g (deep + 1) c).1 = 0
      · exact h0
      · rw [if_pos h0] at h; exact h
    rw [if_neg (by simp [hg])] at h
    exact ⟨sane_keys g _ _ hg, sane_keyss gs _ _ h⟩
end
theorem keysOks_mem : ∀ {gs : List GVal} {g : GVal}, keysOks gs → g ∈ gs → keysOk g
  | _ :: _, _, h, hm => by
    cases hm with
    | head => exact h.1
    | tail _ hm => exact keysOks_mem h.2 hm
theorem wfs_mem : ∀ {gs : List GVal} {g : GVal}, GVal.wfs gs → g ∈ gs → g.wf
  | _ :: _, _, h, hm => by
    simp only [GVal.wfs] at h
    cases hm with
    | head => exact h.1
    | tail _ hm => exact wfs_mem h.2 hm

theorem twice_nodup : ∀ (ks met : List ByteArray), twiceFrom met ks = false → (∀ k ∈ ks, k ∉ met) ∧ ks.Nodup
  | [], _, _ => ⟨fun _ h => (by cases h), List.nodup_nil⟩
  | k :: ks, met, h => by
    rw [twiceFrom] at h
    split at h
    · cases h
    rename_i hk
    obtain ⟨h1, h2⟩ := twice_nodup ks _ h
    refine ⟨fun x hx => ?_, ?_⟩
    · cases hx with
      | head => exact fun hm => hk (hasKey_iff.2 hm)
      | tail _ hx => exact fun hm => h1 x hx (List.mem_append_left _ hm)
    · refine List.nodup_cons.2 ⟨fun hm => h1 k hm (List.mem_append_right _ List.mem_cons_self), h2⟩

/-! ### What stands in a value -/

structure Itm where
  nm : Bool
  name : ByteArray
  v : GVal

def itsL (l : List GVal) : List Itm := l.map fun g => ⟨false, emptyS, g⟩
def itsM : List GVal → List ByteArray → List Itm
  | g :: gs, k :: ks => ⟨true, k, g⟩ :: itsM gs ks
  | _, _ => []
def its (g : GVal) : List Itm := itsL g.l ++ itsM g.vs g.ks
def valsI (xs : List Itm) : List GVal := xs.map Itm.v
theorem valsI_L (l : List GVal) : valsI (itsL l) = l := by simp [valsI, itsL, Function.comp_def]
theorem itsM_len : ∀ (vs : List GVal) (ks : List ByteArray), ks.length = vs.length → (itsM vs ks).length = vs.length ∧ valsI (itsM vs ks) = vs
  | [], [], _ => ⟨rfl, rfl⟩
  | g :: gs, k :: ks, h => by
    obtain ⟨h1, h2⟩ := itsM_len gs ks (by simpa using h)
    exact ⟨by simp [itsM, h1], by simp only [valsI, itsM, List.map_cons] at h2 ⊢; rw [h2]⟩
  | [], _ :: _, h => by simp at h
  | _ :: _, [], h => by simp at h
theorem itsM_get : ∀ (vs : List GVal) (ks : List ByteArray) (m : Nat) (x : Itm), (itsM vs ks)[m]? = some x → x.nm = true ∧ ks[m]? = some x.name ∧ vs[m]? = some x.v
  | [], ks, m, x, h => by cases ks <;> simp [itsM] at h
  | g :: gs, [], m, x, h => by simp [itsM] at h
  | g :: gs, k :: ks, 0, x, h => by simp only [itsM, List.getElem?_cons_zero, Option.some.injEq] at h; subst h; exact ⟨rfl, rfl, rfl⟩
  | g :: gs, k :: ks, m + 1, x, h => by
    simp only [itsM, List.getElem?_cons_succ] at h ⊢
    exact itsM_get gs ks m x h
theorem wf_eq (g : GVal) : g.wf ↔ g.ks.length = g.vs.length ∧ GVal.wfs g.l ∧ GVal.wfs g.vs := by cases g; simp only [GVal.wf, GVal.ks, GVal.vs, GVal.l]
theorem keysOk_eq (g : GVal) : keysOk g ↔ twiceG g.ks = false ∧ keysOks g.l ∧ keysOks g.vs := by cases g; simp only [keysOk, GVal.ks, GVal.vs, GVal.l]
theorem vals_its {g : GVal} (h : g.wf) : valsI (its g) = g.l ++ g.vs := by
  have h1 := (itsM_len g.vs g.ks ((wf_eq g).1 h).1).2
  have h0 := valsI_L g.l
  unfold valsI at h0 h1 ⊢
  rw [its, List.map_append, h0, h1]
theorem its_mem {g : GVal} {x : Itm} (h : g.wf) (hx : x ∈ its g) : x.v ∈ g.l ++ g.vs := by
  rw [← vals_its h]
  exact List.mem_map.2 ⟨x, hx, rfl⟩
theorem its_wf {g : GVal} {x : Itm} (h : g.wf) (hx : x ∈ its g) : x.v.wf := by
  have h' := (wf_eq g).1 h
  rcases List.mem_append.1 (its_mem h hx) with hm | hm
  · exact wfs_mem h'.2.1 hm
  · exact wfs_mem h'.2.2 hm
theorem its_keys {g : GVal} {x : Itm} (h : g.wf) (hk : keysOk g) (hx : x ∈ its g) : keysOk x.v := by
  have h' := (keysOk_eq g).1 hk
  rcases List.mem_append.1 (its_mem h hx) with hm | hm
  · exact keysOks_mem h'.2.1 hm
  · exact keysOks_mem h'.2.2 hm
theorem its_name {g : GVal} {x : Itm} (hx : x ∈ its g) : x.nm = false → x.name = emptyS := by
  intro hn
  rcases List.mem_append.1 hx with hm | hm
  · obtain ⟨y, _, rfl⟩ := List.mem_map.1 hm; rfl
  · obtain ⟨m, hm'⟩ := List.mem_iff_getElem?.1 hm
    rw [(itsM_get _ _ _ _ hm').1] at hn
    cases hn

/-- The step to what stands at m. -/
def stepOf (m : Nat) (x : Itm) : GStep := ⟨x.name, if x.nm then 0 else m, x.nm⟩

theorem stepOf_inj {g : GVal} (hk : keysOk g) {m n : Nat} {x y : Itm} (hx : (its g)[m]? = some x) (hy : (its g)[n]? = some y) (h : stepOf m x = stepOf n y) : m = n := by
  unfold stepOf at h
  injection h with h1 h2 h3
  cases hnx : x.nm with
  | false =>
    rw [hnx] at h2 h3
    rw [← h3] at h2
    simp at h2
    omega
  | true =>
    rw [hnx] at h3
    have hnd := (twice_nodup _ _ ((keysOk_eq g).1 hk).1).2
    have key : ∀ {m : Nat} {x : Itm}, (its g)[m]? = some x → x.nm = true → g.l.length ≤ m ∧ g.ks[m - g.l.length]? = some x.name := by
      intro m x hx hn
      unfold its at hx
      by_cases hm : m < g.l.length
      · rw [List.getElem?_append_left (by simpa [itsL] using hm)] at hx
        simp only [itsL, List.getElem?_map, Option.map_eq_some_iff] at hx
        obtain ⟨_, _, rfl⟩ := hx
        cases hn
      · rw [List.getElem?_append_right (by simp [itsL]; omega)] at hx
        have hl : (itsL g.l).length = g.l.length := by simp [itsL]
        rw [hl] at hx
        exact ⟨by omega, (itsM_get _ _ _ _ hx).2.1⟩
    obtain ⟨a1, a2⟩ := key hx hnx
    obtain ⟨b1, b2⟩ := key hy h3.symm
    have hlt := (List.getElem?_eq_some_iff.1 a2).1
    have := (List.getElem?_inj (j := n - g.l.length) hlt hnd).1 (by rw [a2, b2, h1])
    omega

/-! ### The shred of what stands in a value -/

def shredI (gap : Int) : List Itm → Int → Int → List GRec × Int
  | [], _, now => ([], now)
  | x :: xs, lv, now =>
    let p := shredV gap x.v lv x.nm x.name now
    let q := shredI gap xs lv p.2
    (p.1 ++ q.1, q.2)
theorem shredI_L (gap : Int) : ∀ (l : List GVal) (lv now : Int), shredI gap (itsL l) lv now = shredL gap l lv now
  | [], _, _ => rfl
  | g :: gs, lv, now => by
    show shredI gap (⟨false, emptyS, g⟩ :: itsL gs) lv now = _
    simp only [shredI, shredL, shredI_L gap gs]
    rfl
theorem shredI_M (gap : Int) : ∀ (vs : List GVal) (ks : List ByteArray) (lv now : Int), shredI gap (itsM vs ks) lv now = shredM gap vs ks lv now
  | [], [], _, _ => rfl
  | [], _ :: _, _, _ => rfl
  | _ :: _, [], _, _ => rfl
  | g :: gs, k :: ks, lv, now => by simp only [itsM, shredI, shredM, shredI_M gap gs ks]
theorem shredI_append (gap : Int) : ∀ (a b : List Itm) (lv now : Int), shredI gap (a ++ b) lv now = ((shredI gap a lv now).1 ++ (shredI gap b lv (shredI gap a lv now).2).1, (shredI gap b lv (shredI gap a lv now).2).2)
  | [], b, lv, now => by simp [shredI]
  | x :: a, b, lv, now => by simp only [List.cons_append, shredI, shredI_append gap a b, List.append_assoc]
theorem shredV_its (gap : Int) (g : GVal) (lv : Int) (nm : Bool) (name : ByteArray) (now : Int) (h : g.wf) :
    (shredV gap g lv nm name now).1 = ⟨now + gap, now + wV gap g, lv, g.kind, nm, name, g.b, g.n, g.s⟩ :: (shredI gap (its g) (lv + 1) (now + gap)).1 := by
  have h2 := (shredV_sk gap g lv nm name now h).2
  rw [shredV_eq] at h2 ⊢
  dsimp only at h2 ⊢
  rw [h2, its, shredI_append, shredI_L, shredI_M]
theorem shredI_sk (gap : Int) : ∀ (xs : List Itm) (lv now : Int), GVal.wfs (valsI xs) → (shredI gap xs lv now).1.map se = skL gap (valsI xs) now ∧ (shredI gap xs lv now).2 = now + wL gap (valsI xs)
  | [], lv, now, _ => by simp [shredI, skL, wL, valsI]
  | x :: xs, lv, now, h => by
    simp only [valsI, List.map_cons, GVal.wfs] at h ⊢
    obtain ⟨h1, h2⟩ := shredV_sk gap x.v lv x.nm x.name now h.1
    obtain ⟨h3, h4⟩ := shredI_sk gap xs lv (shredV gap x.v lv x.nm x.name now).2 h.2
    rw [h2] at h3 h4
    simp only [valsI] at h3 h4
    simp only [shredI, skL, wL, List.map_append, h1, h2, h3, h4]
    exact ⟨trivial, by omega⟩

theorem wfs_append : ∀ {a b : List GVal}, GVal.wfs (a ++ b) ↔ GVal.wfs a ∧ GVal.wfs b
  | [], b => by simp [GVal.wfs]
  | g :: a, b => by simp only [List.cons_append, GVal.wfs, wfs_append (a := a), and_assoc]
theorem wfs_its {g : GVal} (h : g.wf) : GVal.wfs (valsI (its g)) := by
  rw [vals_its h, wfs_append]
  exact ((wf_eq g).1 h).2

/-! ### Where a value lies in its value's records -/

def cntI (xs : List Itm) : Nat := cntL (valsI xs)
def wI (gap : Int) (xs : List Itm) : Int := wL gap (valsI xs)

inductive Sub (gap : Int) : GVal → Nat → Int → List GStep → GVal → Nat → Int → Prop
  | refl (g : GVal) (p : Nat) (now : Int) : Sub gap g p now [] g p now
  | step {g : GVal} {p : Nat} {now : Int} {m : Nat} {x : Itm} {P : List GStep} {h : GVal} {q : Nat} {now' : Int} (hx : (its g)[m]? = some x)
      (hs : Sub gap x.v (p + 1 + cntI ((its g).take m)) (now + gap + wI gap ((its g).take m)) P h q now') : Sub gap g p now (stepOf m x :: P) h q now'

theorem cntI_its {g : GVal} (h : g.wf) : cntV g = 1 + cntI (its g) := by rw [cntI, vals_its h, cntL_append, cntV_eq]
theorem wI_its {gap : Int} {g : GVal} (h : g.wf) : wV gap g = gap + wI gap (its g) + gap := by rw [wI, vals_its h, wV_eq]
theorem split_at {xs : List Itm} {m : Nat} {x : Itm} (h : xs[m]? = some x) : xs = xs.take m ++ x :: xs.drop (m + 1) := by
  have hl := (List.getElem?_eq_some_iff.1 h).1
  have := (List.getElem?_eq_some_iff.1 h).2
  rw [← this, ← List.drop_eq_getElem_cons hl, List.take_append_drop]
theorem valsI_append (a b : List Itm) : valsI (a ++ b) = valsI a ++ valsI b := by simp [valsI]
theorem wI_split {gap : Int} {xs : List Itm} {m : Nat} {x : Itm} (h : xs[m]? = some x) : wI gap xs = wI gap (xs.take m) + (wV gap x.v + wI gap (xs.drop (m + 1))) := by
  conv => lhs; rw [split_at h]
  unfold wI
  rw [valsI_append, wL_append]
  rfl
theorem cntI_split {xs : List Itm} {m : Nat} {x : Itm} (h : xs[m]? = some x) : cntI xs = cntI (xs.take m) + (cntV x.v + cntI (xs.drop (m + 1))) := by
  conv => lhs; rw [split_at h]
  unfold cntI
  rw [valsI_append, cntL_append]
  rfl

/-- Everything stands somewhere. -/
theorem sub_all {gap : Int} (g : GVal) : g.wf → ∀ (p : Nat) (now : Int) (i : Nat), p ≤ i → i < p + cntV g → ∃ P h now', Sub gap g p now P h i now' := by
  induction g using GVal.byWeight with | _ g ih => ?_
  intro hw p now i h1 h2
  by_cases hi : i = p
  · subst hi; exact ⟨[], g, now, .refl g i now⟩
  have key : ∀ n, n ≤ (its g).length → i < p + 1 + cntI ((its g).take n) → ∃ P h now', Sub gap g p now P h i now' := by
    intro n
    induction n with
    | zero =>
      intro _ h
      have : cntI ((its g).take 0) = 0 := by rw [List.take_zero]; rfl
      omega
    | succ n ihn =>
      intro hn h
      by_cases hlt : i < p + 1 + cntI ((its g).take n)
      · exact ihn (by omega) hlt
      · have hx : (its g)[n]? = some (its g)[n] := List.getElem?_eq_getElem (by omega)
        generalize (its g)[n] = x at hx
        have e : (its g).take (n + 1) = (its g).take n ++ [x] := by rw [List.take_succ_eq_append_getElem (by omega), (List.getElem?_eq_some_iff.1 hx).2]
        have hc : cntI ((its g).take (n + 1)) = cntI ((its g).take n) + cntV x.v := by
          unfold cntI
          rw [e, valsI_append, cntL_append]
          rfl
        have hm := List.mem_of_getElem? hx
        obtain ⟨P, h', now', hs⟩ := ih x.v (in_weight (its_mem hw hm)) (its_wf hw hm) (p + 1 + cntI ((its g).take n)) (now + gap + wI gap ((its g).take n)) i (by omega) (by omega)
        exact ⟨_, _, _, .step hx hs⟩
  have hc := cntI_its hw
  exact key (its g).length (Nat.le_refl _) (by rw [List.take_length]; omega)

theorem wI_nn {gap : Int} (hg : 0 < gap) (xs : List Itm) : 0 ≤ wI gap xs := wL_nn hg _

theorem sub_bd {gap : Int} (hg : 0 < gap) {g : GVal} {p : Nat} {now : Int} {P : List GStep} {h : GVal} {q : Nat} {now' : Int} (hs : Sub gap g p now P h q now') : g.wf →
    h.wf ∧ now ≤ now' ∧ now' + wV gap h ≤ now + wV gap g ∧ (P ≠ [] → now + gap ≤ now' ∧ now' + wV gap h + gap ≤ now + wV gap g) := by
  induction hs with
  | refl g p now => exact fun hw => ⟨hw, Int.le_refl _, Int.le_refl _, fun h => absurd rfl h⟩
  | @step g p now m x P h q now' hx hs ih =>
    intro hw
    obtain ⟨h0, h1, h2, -⟩ := ih (its_wf hw (List.mem_of_getElem? hx))
    have e1 := wI_split (gap := gap) hx
    have e2 := wI_its (gap := gap) hw
    have e3 := wI_nn hg ((its g).take m)
    have e4 := wI_nn hg ((its g).drop (m + 1))
    exact ⟨h0, by omega, by omega, fun _ => ⟨by omega, by omega⟩⟩

/-- Two blocks: one in the other, just if its place begins with the other's; or apart. -/
def Cmp (gap : Int) (P : List GStep) (h : GVal) (a : Int) (Q : List GStep) (k : GVal) (b : Int) : Prop :=
  (P <+: Q ↔ a ≤ b ∧ b + wV gap k ≤ a + wV gap h) ∧ (Q <+: P ↔ b ≤ a ∧ a + wV gap h ≤ b + wV gap k) ∧ (P <+: Q ∨ Q <+: P ∨ a + wV gap h ≤ b ∨ b + wV gap k ≤ a)

theorem prefix_cons_iff {s t : GStep} {P Q : List GStep} : s :: P <+: t :: Q ↔ s = t ∧ P <+: Q := List.cons_prefix_cons

theorem sub_cmp {gap : Int} (hg : 0 < gap) {g : GVal} {p : Nat} {now : Int} {P : List GStep} {h : GVal} {q : Nat} {a : Int} (hs : Sub gap g p now P h q a) : g.wf → keysOk g → ∀ {Q : List GStep} {k : GVal} {r : Nat} {b : Int}, Sub gap g p now Q k r b → Cmp gap P h a Q k b := by
  induction hs with
  | refl g p now =>
    intro hw hk Q k r b ht
    obtain ⟨-, h1, h2, h3⟩ := sub_bd hg ht hw
    refine ⟨⟨fun _ => ⟨h1, h2⟩, fun _ => List.nil_prefix⟩, ⟨fun h => ?_, fun h => ?_⟩, .inl List.nil_prefix⟩
    · have hQ : Q = [] := by simpa using h
      subst hQ
      cases ht
      omega
    · by_cases hQ : Q = []
      · rw [hQ]; exact List.nil_prefix
      · have := h3 hQ; omega
  | @step g p now m x P h q a hx hs ih =>
    intro hw hk Q k r b ht
    have hbs := sub_bd hg (Sub.step hx hs) hw
    have hm := List.mem_of_getElem? hx
    cases ht with
    | refl =>
      have h3 := hbs.2.2.2 (by simp)
      refine ⟨⟨fun h => absurd h (by simp), fun h => by omega⟩, ⟨fun _ => ⟨by omega, by omega⟩, fun _ => List.nil_prefix⟩, .inr (.inl List.nil_prefix)⟩
    | @step _ _ _ n y Q _ _ _ hy ht =>
      by_cases hmn : m = n
      · subst hmn
        obtain rfl : x = y := by rw [hx] at hy; exact Option.some.inj hy
        obtain ⟨h1, h2, h3⟩ := ih (its_wf hw hm) (its_keys hw hk hm) ht
        refine ⟨?_, ?_, ?_⟩
        · rw [prefix_cons_iff, ← h1]; simp
        · rw [prefix_cons_iff, ← h2]; simp
        · rw [prefix_cons_iff, prefix_cons_iff]; simpa using h3
      · have hne : stepOf m x ≠ stepOf n y := fun e => hmn (stepOf_inj hk hx hy e)
        have hb1 := sub_bd hg hs (its_wf hw hm)
        have hb2 := sub_bd hg ht (its_wf hw (List.mem_of_getElem? hy))
        have hap : a + wV gap h ≤ b ∨ b + wV gap k ≤ a := by
          have ord : ∀ {m n : Nat} {x : Itm}, (its g)[m]? = some x → m < n → wI gap ((its g).take m) + wV gap x.v ≤ wI gap ((its g).take n) := by
            intro m n x hx hlt
            have hx' : ((its g).take n)[m]? = some x := by rw [List.getElem?_take, if_pos hlt]; exact hx
            have e := wI_split (gap := gap) hx'
            rw [List.take_take, Nat.min_eq_left (by omega)] at e
            have := wI_nn hg (((its g).take n).drop (m + 1))
            omega
          rcases Nat.lt_or_gt_of_ne hmn with hlt | hlt
          · have := ord hx hlt; left; omega
          · have := ord hy hlt; right; omega
        have hp1 := wV_pos hg h
        have hp2 := wV_pos hg k
        refine ⟨?_, ?_, .inr (.inr hap)⟩
        · rw [prefix_cons_iff]
          exact ⟨fun h => absurd h.1 hne, fun h => by omega⟩
        · rw [prefix_cons_iff]
          exact ⟨fun h => absurd h.1.symm hne, fun h => by omega⟩

/-! ### The place of a record -/

structure Loc (gap : Int) (L : List GRec) (g : GVal) (p : Nat) (now : Int) (pre : List GStep) : Prop where
  wf : g.wf
  keys : keysOk g
  at_ : ∃ nm name rest, L.drop p = (shredV gap g pre.length nm name now).1 ++ rest ∧ front (now + wV gap g) (rest.map se)
  place : ∀ n, p < n → upF L n p = pre.reverse

theorem parentK_at {L : List GRec} {st : Int} {p : Nat} : ∀ {q : Nat}, p < q → (∀ k, p < k → k < q → (L[k]?.map GRec.en).getD 0 < st) → ¬ (L[p]?.map GRec.en).getD 0 < st → parentK L st q = p
  | 0, h, _, _ => by omega
  | q + 1, h, hk, hp => by
    rw [parentK]
    by_cases hq : q = p
    · subst hq; rw [if_neg hp]
    · rw [if_pos (hk q (by omega) (by omega))]
      exact parentK_at (by omega) (fun k h1 h2 => hk k h1 (by omega)) hp

theorem pos_get : ∀ (gs : List GVal) (p m : Nat), m < gs.length → (pos gs p)[m]? = some (p + cntL (gs.take m))
  | [], _, _, h => by simp at h
  | g :: gs, p, 0, _ => by simp [pos, cntL]
  | g :: gs, p, m + 1, h => by
    rw [pos, List.getElem?_cons_succ, pos_get gs _ m (by simpa using h), List.take_succ_cons, cntL]
    congr 1
    omega
theorem idxF_at : ∀ (l : List Nat) (v m k : Nat), l[m]? = some v → (∀ j, j < m → l[j]? ≠ some v) → idxF v l k = (k + m : Nat)
  | [], v, m, k, h, _ => by simp at h
  | x :: l, v, 0, k, h, _ => by
    simp only [List.getElem?_cons_zero, Option.some.injEq] at h
    rw [idxF, if_pos h.symm, Nat.add_zero]
  | x :: l, v, m + 1, k, h, hj => by
    have h0 := hj 0 (by omega)
    simp only [List.getElem?_cons_zero, ne_eq, Option.some.injEq] at h0
    rw [idxF, if_neg (fun e => h0 e.symm), idxF_at l v m (k + 1) (by simpa using h) fun j hlt => by simpa using hj (j + 1) (by omega)]
    congr 1
    omega

theorem skI_en {gap : Int} (hg : 0 < gap) {gs : List GVal} {now : Int} {S T : Sk} {p k : Nat} {x : Int × Int} (h : S.drop p = skL gap gs now ++ T) (h1 : p ≤ k) (h2 : k < p + cntL gs) (hx : S[k]? = some x) : x.2 ≤ now + wL gap gs := by
  have : (S.drop p)[k - p]? = some x := by rw [List.getElem?_drop, show p + (k - p) = k by omega]; exact hx
  rw [h, List.getElem?_append_left (by rw [skL_len]; omega)] at this
  exact (skL_bd hg gs now x (List.mem_of_getElem? this)).2.2

theorem drop_head {α : Type} {L T rest : List α} {p : Nat} {x : α} (h : L.drop p = x :: T ++ rest) : L[p]? = some x := by
  have : (L.drop p)[0]? = some x := by rw [h]; rfl
  simpa using this
theorem Loc.rec_ {gap : Int} {L : List GRec} {g : GVal} {p : Nat} {now : Int} {pre : List GStep} (h : Loc gap L g p now pre) :
    ∃ nm name, L[p]? = some ⟨now + gap, now + wV gap g, pre.length, g.kind, nm, name, g.b, g.n, g.s⟩ := by
  obtain ⟨nm, name, rest, h1, -⟩ := h.at_
  rw [shredV_its _ _ _ _ _ _ h.wf] at h1
  exact ⟨nm, name, drop_head h1⟩

theorem Loc.kids {gap : Int} (hg : 0 < gap) {L : List GRec} {g : GVal} {p : Nat} {now : Int} {pre : List GStep} (h : Loc gap L g p now pre) :
    kidsG L p = pos (g.l ++ g.vs) (p + 1) := by
  obtain ⟨nm, name, rest, h1, hfr⟩ := h.at_
  have h2 := congrArg (List.map se) h1
  rw [List.map_drop, List.map_append, (shredV_sk gap g _ nm name now h.wf).1, skV_eq, List.cons_append] at h2
  obtain ⟨h3, h4⟩ := drop_at h2
  have hlen : (L.map se).length = p + (1 + (cntL (g.l ++ g.vs) + (rest.map se).length)) := by
    have hp : p ≤ (L.map se).length := by
      have := (List.getElem?_eq_some_iff.1 h3).1
      omega
    have := congrArg List.length h2
    rw [List.length_drop, List.length_cons, List.length_append, skL_len] at this
    omega
  have hwe := wV_eq gap g
  rw [kidsG_se]
  unfold kidsAt
  rw [h3]
  refine kidsP_pos hg (rest := rest.map se) (fun x hx => ?_) (g.l ++ g.vs) (p + 1) (now + gap) _ h4 ?_ ?_
  · exact hfr x hx
  · show _ ≤ now + wV gap g
    omega
  · have := pos_cnt (g.l ++ g.vs)
    omega

theorem Loc.kid {gap : Int} (hg : 0 < gap) {L : List GRec} {g : GVal} {p : Nat} {now : Int} {pre : List GStep} (h : Loc gap L g p now pre) {m : Nat} {x : Itm} (hx : (its g)[m]? = some x) :
    Loc gap L x.v (p + 1 + cntI ((its g).take m)) (now + gap + wI gap ((its g).take m)) (pre ++ [stepOf m x]) ∧ parentG L (p + 1 + cntI ((its g).take m)) = p := by
  have hm := List.mem_of_getElem? hx
  have hwx := its_wf h.wf hm
  have hks := h.kids hg
  obtain ⟨nm, name, rest, h1, hfr⟩ := h.at_
  rw [shredV_its _ _ _ _ _ _ h.wf] at h1
  have hd1 : L.drop (p + 1) = (shredI gap (its g) (pre.length + 1) (now + gap)).1 ++ rest := by
    rw [← List.drop_drop, h1]
    rfl
  have hwi := wfs_its h.wf
  have hsp := split_at hx
  have hwt : GVal.wfs (valsI ((its g).take m)) := by
    rw [hsp, valsI_append, wfs_append] at hwi
    exact hwi.1
  have hwd : GVal.wfs (valsI ((its g).drop (m + 1))) := by
    rw [hsp, valsI_append, wfs_append] at hwi
    exact hwi.2.2
  have hsk := shredI_sk gap ((its g).take m) (pre.length + 1) (now + gap) hwt
  have hd0 := hd1
  rw [hsp, shredI_append, hsk.2] at hd1
  simp only [shredI, List.append_assoc] at hd1
  have hl1 : (shredI gap ((its g).take m) (pre.length + 1) (now + gap)).1.length = cntI ((its g).take m) := by
    have := congrArg List.length hsk.1
    rw [List.length_map, skL_len] at this
    exact this
  have hd2 : L.drop (p + 1 + cntI ((its g).take m)) = (shredV gap x.v (pre.length + 1) x.nm x.name (now + gap + wI gap ((its g).take m))).1 ++ ((shredI gap ((its g).drop (m + 1)) (pre.length + 1) (shredV gap x.v (pre.length + 1) x.nm x.name (now + gap + wI gap ((its g).take m))).2).1 ++ rest) := by
    rw [← hl1, ← List.drop_drop, hd1, List.drop_left]
    rfl
  have hsv := shredV_sk gap x.v (pre.length + 1) x.nm x.name (now + gap + wI gap ((its g).take m)) hwx
  have hwe := wI_its (gap := gap) h.wf
  have hws := wI_split (gap := gap) hx
  have hskd := shredI_sk gap ((its g).drop (m + 1)) (pre.length + 1) (shredV gap x.v (pre.length + 1) x.nm x.name (now + gap + wI gap ((its g).take m))).2 hwd
  have hfr2 : front (now + gap + wI gap ((its g).take m) + wV gap x.v) (((shredI gap ((its g).drop (m + 1)) (pre.length + 1) (shredV gap x.v (pre.length + 1) x.nm x.name (now + gap + wI gap ((its g).take m))).2).1 ++ rest).map se) := by
    rw [List.map_append, hskd.1, hsv.2]
    refine front_skL hg _ hfr ?_
    show _ + wI gap ((its g).drop (m + 1)) ≤ _
    omega
  have hq : L[p + 1 + cntI ((its g).take m)]? = some ⟨now + gap + wI gap ((its g).take m) + gap, now + gap + wI gap ((its g).take m) + wV gap x.v, pre.length + 1, x.v.kind, x.nm, x.name, x.v.b, x.v.n, x.v.s⟩ := by
    rw [shredV_its _ _ _ _ _ _ hwx] at hd2
    exact drop_head hd2
  have hp : L[p]? = some ⟨now + gap, now + wV gap g, pre.length, g.kind, nm, name, g.b, g.n, g.s⟩ := drop_head h1
  have hwd0 := wI_nn hg ((its g).drop (m + 1))
  have hwx0 := wV_pos hg x.v
  have hwx1 : 2 * gap ≤ wV gap x.v := by
    have := wV_eq gap x.v
    have := wL_nn hg (x.v.l ++ x.v.vs)
    omega
  have hpar : parentG L (p + 1 + cntI ((its g).take m)) = p := by
    unfold parentG
    rw [hq]
    refine parentK_at (by omega) (fun k hk1 hk2 => ?_) ?_
    · show (L[k]?.map GRec.en).getD 0 < now + gap + wI gap ((its g).take m) + gap
      have hS : (L.map se).drop (p + 1) = skL gap (valsI (its g)) (now + gap) ++ rest.map se := by
        rw [← List.map_drop, hd0, List.map_append, (shredI_sk gap (its g) _ _ hwi).1]
      rw [hsp, valsI_append, skL_append, List.append_assoc] at hS
      have hkl : k < L.length := by
        have := (List.getElem?_eq_some_iff.1 hq).1
        omega
      have hkx : (L.map se)[k]? = some (se L[k]) := by rw [List.getElem?_map, List.getElem?_eq_getElem hkl]; rfl
      have := skI_en hg hS (k := k) (by omega) hk2 hkx
      rw [List.getElem?_eq_getElem hkl]
      show L[k].en < _
      have hen : (se L[k]).2 = L[k].en := rfl
      rw [hen] at this
      have hwi' : wI gap ((its g).take m) = wL gap (valsI ((its g).take m)) := rfl
      omega
    · rw [hp]
      show ¬ now + wV gap g < now + gap + wI gap ((its g).take m) + gap
      omega
  refine ⟨⟨hwx, its_keys h.wf h.keys hm, ⟨x.nm, x.name, _, ?_, hfr2⟩, fun n hn => ?_⟩, hpar⟩
  · rw [List.length_append, List.length_singleton]
    exact hd2
  · obtain ⟨n, rfl⟩ : ∃ k, n = k + 1 := ⟨n - 1, by omega⟩
    unfold upF
    rw [hpar, if_neg (by omega), Int.toNat_natCast, h.place n (by omega), List.reverse_append]
    show stepG L (p + 1 + cntI ((its g).take m)) p :: _ = [stepOf m x] ++ _
    rw [List.singleton_append]
    congr 1
    unfold stepG stepOf
    rw [hq]
    dsimp only
    congr 1
    rw [hks]
    split
    · rfl
    · have hml : m < (g.l ++ g.vs).length := by
        rw [← vals_its h.wf]
        simpa [valsI] using (List.getElem?_eq_some_iff.1 hx).1
      have htk : ∀ j, cntL ((g.l ++ g.vs).take j) = cntI ((its g).take j) := fun j => by
        rw [← vals_its h.wf, cntI, valsI, valsI, List.map_take]
      have := idxF_at (pos (g.l ++ g.vs) (p + 1)) (p + 1 + cntI ((its g).take m)) m 0 (by rw [pos_get _ _ _ hml, htk]) (fun j hj => by
        rw [pos_get _ _ _ (by omega), htk]
        intro e
        have e := Option.some.inj e
        have hj' : (its g)[j]? = some ((its g)[j]'(by have := (List.getElem?_eq_some_iff.1 hx).1; omega)) := List.getElem?_eq_getElem _
        have hj2 : ((its g).take m)[j]? = some ((its g)[j]'(by have := (List.getElem?_eq_some_iff.1 hx).1; omega)) := by rw [List.getElem?_take, if_pos hj]; exact hj'
        have hc := cntI_split hj2
        rw [List.take_take, Nat.min_eq_left (by omega)] at hc
        have := cntV_pos ((its g)[j]'(by have := (List.getElem?_eq_some_iff.1 hx).1; omega)).v
        omega)
      rw [this]
      omega

theorem Loc.sub {gap : Int} (hg : 0 < gap) {L : List GRec} {g : GVal} {p : Nat} {now : Int} {P : List GStep} {h : GVal} {q : Nat} {now' : Int} (hs : Sub gap g p now P h q now') :
    ∀ {pre : List GStep}, Loc gap L g p now pre → Loc gap L h q now' (pre ++ P) := by
  induction hs with
  | refl g p now => intro pre hl; rw [List.append_nil]; exact hl
  | @step g p now m x P h q now' hx hs ih =>
    intro pre hl
    have := ih (hl.kid hg hx).1
    rw [List.append_assoc] at this
    exact this

theorem loc_root {gap : Int} {g : GVal} {nm : Bool} {name : ByteArray} (hw : g.wf) (hk : keysOk g) : Loc gap (shredV gap g 0 nm name 0).1 g 0 0 [] := by
  refine ⟨hw, hk, ⟨nm, name, [], by rw [List.drop_zero, List.append_nil]; rfl, fun x hx => by cases hx⟩, fun n hn => ?_⟩
  obtain ⟨n, rfl⟩ : ∃ k, n = k + 1 := ⟨n - 1, by omega⟩
  unfold upF
  rw [if_pos (by unfold parentG parentK; omega)]
  rfl

/-- Each record has its place in the value. -/
theorem shred_loc {gap : Int} (hg : 0 < gap) {g : GVal} {nm : Bool} {name : ByteArray} (hw : g.wf) (hk : keysOk g) {i : Nat} (hi : i < cntV g) :
    ∃ h now, Sub gap g 0 0 (placeG (shredV gap g 0 nm name 0).1 i) h i now ∧ Loc gap (shredV gap g 0 nm name 0).1 h i now (placeG (shredV gap g 0 nm name 0).1 i) := by
  obtain ⟨P, h, now, hs⟩ := sub_all (gap := gap) g hw 0 0 i (Nat.zero_le _) (by omega)
  have hl := Loc.sub hg hs (loc_root (nm := nm) (name := name) hw hk)
  rw [List.nil_append] at hl
  have : placeG (shredV gap g 0 nm name 0).1 i = P := by
    unfold placeG
    rw [hl.place (i + 1) (by omega), List.reverse_reverse]
  rw [this]
  exact ⟨h, now, hs, hl⟩

/-! ### Steps -/

def Canon (s : GStep) : Prop := (s.named = true → s.at_ = 0) ∧ (s.named = false → s.key = emptyS)
theorem sub_canon {gap : Int} {g : GVal} {p : Nat} {now : Int} {P : List GStep} {h : GVal} {q : Nat} {now' : Int} (hs : Sub gap g p now P h q now') : ∀ s ∈ P, Canon s := by
  induction hs with
  | refl => intro s hs; cases hs
  | @step g p now m x P h q now' hx hs ih =>
    intro s hs
    cases hs with
    | head => exact ⟨fun hn => by simp only [stepOf] at hn ⊢; rw [if_pos hn], fun hn => its_name (List.mem_of_getElem? hx) hn⟩
    | tail _ hs => exact ih s hs
theorem stepEq_iff {x y : GStep} (hx : Canon x) (hy : Canon y) : stepEq x y = true ↔ x = y := by
  obtain ⟨k1, a1, n1⟩ := x
  obtain ⟨k2, a2, n2⟩ := y
  obtain ⟨hx1, hx2⟩ := hx
  obtain ⟨hy1, hy2⟩ := hy
  cases n1 <;> cases n2 <;> simp [stepEq] at *
  · subst hx2 hy2; simp
  · subst hx1 hy1; simp
theorem sameG_iff : ∀ {a b : List GStep}, (∀ s ∈ a, Canon s) → (∀ s ∈ b, Canon s) → (sameG a b = true ↔ a = b)
  | [], [], _, _ => by simp [sameG]
  | [], _ :: _, _, _ => by simp [sameG]
  | _ :: _, [], _, _ => by simp [sameG]
  | x :: a, y :: b, ha, hb => by
    rw [sameG, Bool.and_eq_true, stepEq_iff (ha x List.mem_cons_self) (hb y List.mem_cons_self), sameG_iff (fun s h => ha s (List.mem_cons_of_mem _ h)) (fun s h => hb s (List.mem_cons_of_mem _ h)), List.cons.injEq]
/-- Is x the beginning of y? -/
def beginsG (x y : List GStep) : Bool := decide ((x.length : Int) ≤ y.length) && sameG x (y.take x.length)
theorem beginsG_iff {x y : List GStep} (hx : ∀ s ∈ x, Canon s) (hy : ∀ s ∈ y, Canon s) : beginsG x y = true ↔ x <+: y := by
  unfold beginsG
  rw [Bool.and_eq_true, sameG_iff hx (fun s h => hy s (List.mem_of_mem_take h)), decide_eq_true_eq, ← List.prefix_iff_eq_take]
  refine ⟨fun h => h.2, fun h => ⟨?_, h⟩⟩
  have := h.length_le
  omega

/-- WHAT STANDS IN WHAT IS TOLD BY NUMBERS. -/
theorem shred_lies {gap : Int} (hg : 0 < gap) {g : GVal} {nm : Bool} {name : ByteArray} (hw : g.wf) (hk : keysOk g) {L : List GRec} (hL : L = (shredV gap g 0 nm name 0).1) {a b : Nat} (ha : a < cntV g) (hb : b < cntV g) {x y : GRec} (hx : L[a]? = some x) (hy : L[b]? = some y) :
    beginsG (placeG L a) (placeG L b) = (decide (x.st ≤ y.st) && decide (y.en ≤ x.en)) ∧ beginsG (placeG L b) (placeG L a) = (decide (y.st ≤ x.st) && decide (x.en ≤ y.en)) ∧
    (beginsG (placeG L a) (placeG L b) = true ∨ beginsG (placeG L b) (placeG L a) = true ∨ x.en < y.st ∨ y.en < x.st) ∧ ((placeG L a).length : Int) = x.lv := by
  subst hL
  obtain ⟨h, s, hs, hl⟩ := shred_loc hg (nm := nm) (name := name) hw hk ha
  obtain ⟨k, t, ht, hm⟩ := shred_loc hg (nm := nm) (name := name) hw hk hb
  obtain ⟨nx, mx, ex⟩ := hl.rec_
  obtain ⟨ny, my, ey⟩ := hm.rec_
  rw [hx] at ex
  rw [hy] at ey
  have ex := Option.some.inj ex
  have ey := Option.some.inj ey
  generalize placeG (shredV gap g 0 nm name 0).1 a = P at *
  generalize placeG (shredV gap g 0 nm name 0).1 b = Q at *
  obtain ⟨c1, c2, c3⟩ := sub_cmp hg hs hw hk ht
  have b1 := beginsG_iff (sub_canon hs) (sub_canon ht)
  have b2 := beginsG_iff (sub_canon ht) (sub_canon hs)
  subst ex ey
  dsimp only
  refine ⟨?_, ?_, ?_, rfl⟩
  · rw [Bool.eq_iff_iff, b1, c1, Bool.and_eq_true, decide_eq_true_eq, decide_eq_true_eq]
    constructor <;> intro h <;> constructor <;> omega
  · rw [Bool.eq_iff_iff, b2, c2, Bool.and_eq_true, decide_eq_true_eq, decide_eq_true_eq]
    constructor <;> intro h <;> constructor <;> omega
  · rw [b1, b2]
    rcases c3 with c | c | c | c
    · exact .inl c
    · exact .inr (.inl c)
    · exact .inr (.inr (.inl (by omega)))
    · exact .inr (.inr (.inr (by omega)))
end Go.Sy
namespace Go.Sy
open Go.Proofs

/-! ### ShredLies -/

theorem SlAt.front {σ : Snap} {ao : Option Addr} {n cap sz : Nat} {rows : List (List AT)} (h : SlAt σ ao n cap sz rows) {k : Nat} (hk : k ≤ n) : SlAt σ ao k cap sz (rows.take k) := by
  refine ⟨by rw [List.length_take, h.len]; omega, Nat.le_trans hk h.ncap, fun r hr => h.clo r (List.mem_of_mem_take hr), ?_⟩
  rcases h.at_ with h0 | ⟨ad, h1, h2⟩
  · exact .inl (by omega)
  · refine .inr ⟨ad, h1, fun i r j c hr hc => h2 i r j c ?_ hc⟩
    rw [List.getElem?_take] at hr
    split at hr
    · exact hr
    · cases hr

set_option maxRecDepth 100000 in
set_option maxHeartbeats 1000000 in
theorem ShredLies_c (σ : Snap) (g : GVal) (r : List AT) (i k : Int) (hr : RepV σ g r) :
    PlainS Tryd.prog 6 [.agg r, .a (.v (.int .i64 i)), .a (.v (.int .i64 k))] σ (fun v => v = .bool true) := by
  obtain ⟨la, lc, lrows, ma, mc, vrows, rfl, V⟩ := hr.open
  refine enter_p Tryd.func6 rfl rfl (by (repeat' (first | exact trivial | exact vCells_lt _ _ _ _ _ _ | constructor))) fun w => ?_
  (repeat (first | refine cj_seq ?_ | (refine cj_region ?_; refine oj_run TT rfl ?_) | refine oj_then ?_))
  refine oj_callP rfl rfl rfl rfl rfl Tryd.call18 (by (repeat' exact trivial)) (awake11_c σ) fun v hv => ⟨.a .tt, trivial, hv.symm, ?_⟩
  refine oj_run TT rfl ?_
  (repeat (first | refine cj_seq ?_ | (refine cj_region ?_; refine oj_run TT rfl ?_) | refine oj_then ?_))
  refine oj_callP rfl rfl rfl rfl rfl Tryd.call19 (by (repeat' (first | exact trivial | exact vCells_lt _ _ _ _ _ _ | constructor))) (Few_c σ g _ 1500 V.rep (by omega) (by omega)) fun v ⟨fb, hv, hfew⟩ => ⟨.a (.b fb), trivial, hv.symm, ?_⟩
  refine oj_run TT rfl ?_
  (repeat refine oj_then ?_)
  refine cj_if rfl (fun h => ?_) (fun h => ?_)
  · (repeat (first | refine cj_seq ?_ | (refine cj_region ?_; refine oj_run TT rfl ?_) | refine oj_then ?_ | refine cj_ret ?_ | refine nj_then_ret ?_))
    refine nj_ret TT rfl fun β w' _ _ => ?_
    rfl
  have hw : g.weight ≤ 1500 := by
    have := hfew (by simpa using h)
    omega
  (repeat (first | refine cj_seq ?_ | (refine cj_region ?_; refine oj_run TT rfl ?_) | refine cj_skip ?_ | refine nj_then ?_))
  refine oj_callS rfl rfl rfl rfl rfl Tryd.call21 ⟨vCells_lt _ _ _ _ _ _, trivial, trivial⟩ (Shred_s σ g _ 3 V.rep (by omega)) fun v σ1 hle1 ⟨ao, cap, hv, H⟩ => ⟨.tup [.a (.v (.slice ao (shredG g 3).1.length cap)), .a (.v (.int .i64 (shredG g 3).2))], (by (repeat' (first | exact trivial | refine SV.lt_tup ?_ | constructor))), hv.symm, ?_⟩
  rw [shredG_k (by omega) (by omega)] at H ⊢
  by_cases hs : sane g ≠ 0
  · rw [if_pos hs] at H ⊢
    dsimp only at H ⊢
    refine oj_run TT rfl ?_
    (repeat (first | refine cj_seq ?_ | (refine cj_region ?_; refine oj_run TT rfl ?_) | refine oj_then ?_))
    refine oj_split 30 rfl (fun h => ?_) (fun h => absurd (by simpa using h) hs)
    refine oj_run TT rfl ?_
    (repeat (first | refine cj_seq ?_ | (refine cj_region ?_; refine oj_run TT rfl ?_) | refine oj_then ?_ | refine cj_if_t rfl ?_ | refine cj_ret ?_ | refine nj_then_ret ?_))
    refine nj_ret TT rfl fun β w' _ _ => ?_
    rfl
  have hs : sane g = 0 := by simpa using hs
  rw [if_neg (by simp [hs])] at H ⊢
  dsimp only at H ⊢
  have hcnt := shredV_cnt 3 g 0 false emptyS 0 V.rep.wf
  obtain ⟨hlen1, hlen2⟩ := shredV_len 3 g 0 false emptyS 0
  have hfit := shredV_fit 3 g _ 0 false emptyS 0 V.rep (by decide)
  have hpos := cntV_pos g
  have hbd : buildR (shredV 3 g 0 false emptyS 0).1 = (g, 0) := by
    have := buildR_shred (φ := fun x => x) (fun a b _ h => h) (gap := 3) (by omega) (by omega) g V.rep.wf hs (by omega) (by rw [hlen2]; omega)
    rw [stE_id, List.map_id] at this
    exact this
  have hBG : buildG (shredV 3 g 0 false emptyS 0).1 = (g, []) := by
    have := build_shred (fun x => x) 3 g false emptyS 0 V.rep.wf
    rw [stE_id, List.map_id] at this
    exact this
  have hsound : soundG (shredV 3 g 0 false emptyS 0).1 = true := by
    unfold soundG
    rw [hbd]
    rfl
  generalize hLdef : (shredV 3 g 0 false emptyS 0).1 = L at *
  have R : RecsOk L := ⟨by simp only [mostLen]; omega, hfit, fun _ => by rw [hBG]; show g.weight ≤ _; omega⟩
  refine oj_run TT rfl ?_
  (repeat (first | refine cj_seq ?_ | (refine cj_region ?_; refine oj_run TT rfl ?_) | refine oj_then ?_))
  refine oj_split 30 rfl (fun h => absurd h (by decide)) (fun h => ?_)
  refine oj_run TT rfl ?_
  (repeat refine oj_then ?_)
  refine cj_if rfl (fun h => ?_) (fun h => ?_)
  · have := of_decide_eq_true h
    omega
  have hmi := bAnd_le i 65535 (by omega) (by omega)
  have hmk := bAnd_le k 65535 (by omega) (by omega)
  (repeat (first | refine cj_seq ?_ | (refine cj_region ?_; refine oj_run TT rfl ?_) | refine cj_skip ?_ | refine nj_then ?_ | (refine oj_band rfl rfl rfl rfl rfl rfl ?_; refine oj_run TT rfl ?_)))
  generalize bAnd .i64 i 65535 = m1 at hmi ⊢
  refine oj_rem rfl rfl rfl rfl rfl rfl (by omega) ?_
  obtain ⟨a, ha⟩ : ∃ a : Nat, m1.tmod L.length = a := ⟨(m1.tmod L.length).toNat, by
    have := Int.tmod_nonneg (L.length : Int) hmi.1
    omega⟩
  have hal : a < L.length := by
    have := Int.tmod_lt_of_pos m1 (show (0 : Int) < L.length by omega)
    omega
  rw [ha]
  refine oj_run TT rfl ?_
  (repeat (first | refine cj_seq ?_ | (refine cj_region ?_; refine oj_run TT rfl ?_) | refine oj_then ?_ | (refine oj_band rfl rfl rfl rfl rfl rfl ?_; refine oj_run TT rfl ?_)))
  generalize bAnd .i64 k 65535 = m2 at hmk ⊢
  refine oj_rem rfl rfl rfl rfl rfl rfl (by omega) ?_
  obtain ⟨b, hb⟩ : ∃ b : Nat, m2.tmod L.length = b := ⟨(m2.tmod L.length).toNat, by
    have := Int.tmod_nonneg (L.length : Int) hmk.1
    omega⟩
  have hbl : b < L.length := by
    have := Int.tmod_lt_of_pos m2 (show (0 : Int) < L.length by omega)
    omega
  rw [hb]
  refine oj_run TT rfl ?_
  (repeat (first | refine cj_seq ?_ | (refine cj_region ?_; refine oj_run TT rfl ?_) | refine oj_then ?_))
  refine oj_callS rfl rfl rfl rfl rfl Tryd.call27 ⟨trivial, trivial, trivial⟩ (Place_c σ1 L R ao cap H a hal hsound (by omega)) fun v σ2 hle2 ⟨xo, xc, hv, HX⟩ => ⟨.a (.v (.slice xo (placeG L a).length xc)), trivial, hv.symm, ?_⟩
  have H := H.mono hle2
  refine oj_run TT rfl ?_
  (repeat (first | refine cj_seq ?_ | (refine cj_region ?_; refine oj_run TT rfl ?_) | refine oj_then ?_))
  refine oj_callS rfl rfl rfl rfl rfl Tryd.call27 ⟨trivial, trivial, trivial⟩ (Place_c σ2 L R ao cap H b hbl hsound (by omega)) fun v σ3 hle3 ⟨yo, yc, hv, HY⟩ => ⟨.a (.v (.slice yo (placeG L b).length yc)), trivial, hv.symm, ?_⟩
  have H := H.mono hle3
  have HX := HX.mono hle3
  obtain ⟨hin, hout, hor, hlev⟩ := shred_lies (gap := 3) (by omega) V.rep.wf (sane_keys g 0 0 hs) hLdef.symm (a := a) (b := b) (by omega) (by omega) (List.getElem?_eq_getElem hal) (List.getElem?_eq_getElem hbl)
  have hra := recRows_get (List.getElem?_eq_getElem hal)
  have hrb := recRows_get (List.getElem?_eq_getElem hbl)
  have hPl : (placeG L a).length ≤ a + 1 := by unfold placeG; rw [List.length_reverse]; exact upF_len L (a + 1) a
  have hQl : (placeG L b).length ≤ b + 1 := by unfold placeG; rw [List.length_reverse]; exact upF_len L (b + 1) b
  clear hLdef
  generalize placeG L a = P at *
  generalize placeG L b = Q at *
  generalize L[a] = x at *
  generalize L[b] = y at *
  have hbeg : ∀ {σ' : Snap} {P Q : List GStep} {xo yo : Option Addr} {xc yc : Nat}, P.length ≤ 100000 → Q.length ≤ 100000 → SlAt σ' xo P.length xc 3 (stepRows P) → SlAt σ' yo Q.length yc 3 (stepRows Q) → P.length ≤ Q.length →
      PlainS Tryd.prog 28 [.a (.v (.slice xo P.length xc)), .a (.v (.slice yo P.length yc))] σ' (fun v => v = .bool (sameG P (Q.take P.length))) := by
    intro σ' P Q xo yo xc yc h1 h2 hX hY hle
    have e : (Q.take P.length).length = P.length := by rw [List.length_take]; omega
    have hF := hY.front hle
    have e2 : (stepRows Q).take P.length = stepRows (Q.take P.length) := by unfold stepRows; rw [List.map_take]
    rw [e2] at hF
    have := SameSteps_c σ' P (Q.take P.length) h1 (by omega) xo yo xc yc hX (by rw [e]; exact hF)
    rw [e] at this
    exact this
  refine oj_run TT rfl ?_
  refine oj_then ?_
  refine cj_seq ?_
  refine cj_cutN (fun (_ : Unit) => σ3) (fun _ => [(7, .a .tt), (8, .a (.v (.slice ao L.length cap))), (10, .a (.v (.int .i64 a))), (11, .a (.v (.int .i64 b))), (12, .a (.v (.slice xo P.length xc))), (13, .a (.v (.slice yo Q.length yc))), (14, .a (.b (beginsG P Q)))]) (fun _ => []) (fun _ => []) 0 (fun _ => True) ?_ (fun _ _ => ?_)
  · refine cj_region ?_
    refine oj_run TT rfl ?_
    refine oj_split 57 rfl (fun h => ?_) (fun h => ?_)
    · have h : decide ((P.length : Int) ≤ Q.length) = true := h
      have hle := of_decide_eq_true h
      refine oj_run TT rfl ?_
      refine oj_slice_to TT P.length rfl rfl rfl rfl rfl rfl rfl rfl rfl rfl (Nat.le_trans (by omega) HY.ncap) HY.ncap (oj_run TT rfl ?_)
      refine oj_callP rfl rfl rfl rfl rfl Tryd.call28 (by (repeat' (first | exact trivial | constructor))) (hbeg (by omega) (by omega) HX HY (by omega)) fun v hv => ⟨.a (.b (sameG P (Q.take P.length))), trivial, hv.symm, ?_⟩
      refine oj_run TT rfl ?_
      (repeat refine oj_nil ?_)
      refine nj_set 14 (.a (.b (beginsG P Q))) rfl trivial (fun β => by unfold beginsG; rw [h, Bool.true_and]) ?_
      refine nj_again () trivial Nat.zero_lt_one rfl (by (repeat (first | exact trivial | refine And.intro rfl ?_))) (by (repeat (first | exact trivial | refine And.intro rfl ?_))) rfl (by (repeat' (first | exact trivial | constructor))) (by (repeat' exact trivial))
    · have h : decide ((P.length : Int) ≤ Q.length) = false := h
      refine oj_run TT rfl ?_
      (repeat refine oj_nil ?_)
      refine nj_set 14 (.a (.b (beginsG P Q))) rfl trivial (fun β => by unfold beginsG; rw [h, Bool.false_and]; rfl) ?_
      refine nj_again () trivial Nat.zero_lt_one rfl (by (repeat (first | exact trivial | refine And.intro rfl ?_))) (by (repeat (first | exact trivial | refine And.intro rfl ?_))) rfl (by (repeat' (first | exact trivial | constructor))) (by (repeat' exact trivial))
  refine cj_seq ?_
  refine cj_cutN (fun (_ : Unit) => σ3) (fun _ => [(7, .a .tt), (8, .a (.v (.slice ao L.length cap))), (10, .a (.v (.int .i64 a))), (11, .a (.v (.int .i64 b))), (12, .a (.v (.slice xo P.length xc))), (14, .a (.b (beginsG P Q))), (15, .a (.b (beginsG Q P)))]) (fun _ => []) (fun _ => []) 0 (fun _ => True) ?_ (fun _ _ => ?_)
  · refine cj_region ?_
    refine oj_run TT rfl ?_
    refine oj_split 70 rfl (fun h => ?_) (fun h => ?_)
    · have h : decide ((Q.length : Int) ≤ P.length) = true := h
      have hle := of_decide_eq_true h
      refine oj_run TT rfl ?_
      refine oj_slice_to TT Q.length rfl rfl rfl rfl rfl rfl rfl rfl rfl rfl (Nat.le_trans (by omega) HX.ncap) HX.ncap (oj_run TT rfl ?_)
      refine oj_callP rfl rfl rfl rfl rfl Tryd.call28 (by (repeat' (first | exact trivial | constructor))) (hbeg (by omega) (by omega) HY HX (by omega)) fun v hv => ⟨.a (.b (sameG Q (P.take Q.length))), trivial, hv.symm, ?_⟩
      refine oj_run TT rfl ?_
      (repeat refine oj_nil ?_)
      refine nj_set 15 (.a (.b (beginsG Q P))) rfl trivial (fun β => by unfold beginsG; rw [h, Bool.true_and]) ?_
      refine nj_again () trivial Nat.zero_lt_one rfl (by (repeat (first | exact trivial | refine And.intro rfl ?_))) (by (repeat (first | exact trivial | refine And.intro rfl ?_))) rfl (by (repeat' (first | exact trivial | constructor))) (by (repeat' exact trivial))
    · have h : decide ((Q.length : Int) ≤ P.length) = false := h
      refine oj_run TT rfl ?_
      (repeat refine oj_nil ?_)
      refine nj_set 15 (.a (.b (beginsG Q P))) rfl trivial (fun β => by unfold beginsG; rw [h, Bool.false_and]; rfl) ?_
      refine nj_again () trivial Nat.zero_lt_one rfl (by (repeat (first | exact trivial | refine And.intro rfl ?_))) (by (repeat (first | exact trivial | refine And.intro rfl ?_))) rfl (by (repeat' (first | exact trivial | constructor))) (by (repeat' exact trivial))
  rw [hin, hout] at hor
  rw [hin, hout]
  refine cj_seq ?_
  refine cj_cutN (fun (_ : Unit) => σ3) (fun _ => [(7, .a .tt), (8, .a (.v (.slice ao L.length cap))), (10, .a (.v (.int .i64 a))), (11, .a (.v (.int .i64 b))), (12, .a (.v (.slice xo P.length xc))), (14, .a (.b (decide (x.st ≤ y.st) && decide (y.en ≤ x.en)))), (15, .a (.b (decide (y.st ≤ x.st) && decide (x.en ≤ y.en)))), (16, .a (.b (decide (x.st ≤ y.st) && decide (y.en ≤ x.en))))]) (fun _ => []) (fun _ => []) 0 (fun _ => True) ?_ (fun _ _ => ?_)
  · refine cj_draw [(0,.pure),(1,.pure),(2,.pure),(3,.pure),(4,.quiet),(5,.pure),(6,.pure),(7,.pure),(8,.pure),(9,.quiet),(10,.pure),(11,.pure),(12,.pure),(13,.pure),(14,.pure),(15,.pure),(16,.quiet),(17,.pure),(18,.pure),(19,.pure),(20,.pure),(21,.quiet),(22,.pure),(23,.pure),(24,.pure)] mixed (by kernel_rfl) (oj_run TT rfl ?_)
    refine oj_idx TT rfl rfl rfl rfl rfl rfl rfl rfl rfl H (by omega) hra (oj_run TT rfl ?_)
    refine oj_idx TT rfl rfl rfl rfl rfl rfl rfl rfl rfl H (by omega) hrb (oj_run TT rfl ?_)
    refine oj_split 89 rfl (fun h => ?_) (fun h => ?_)
    · have h : decide (x.st ≤ y.st) = true := h
      refine oj_run TT rfl ?_
      refine oj_idx TT rfl rfl rfl rfl rfl rfl rfl rfl rfl H (by omega) hrb (oj_run TT rfl ?_)
      refine oj_idx TT rfl rfl rfl rfl rfl rfl rfl rfl rfl H (by omega) hra (oj_run TT rfl ?_)
      (repeat refine oj_nil ?_)
      refine nj_set 16 (.a (.b (decide (x.st ≤ y.st) && decide (y.en ≤ x.en)))) rfl trivial (fun β => by rw [h, Bool.true_and]) ?_
      refine nj_again () trivial Nat.zero_lt_one rfl (by (repeat (first | exact trivial | refine And.intro rfl ?_))) (by (repeat (first | exact trivial | refine And.intro rfl ?_))) rfl (by (repeat' (first | exact trivial | constructor))) (by (repeat' exact trivial))
    · have h : decide (x.st ≤ y.st) = false := h
      refine oj_run TT rfl ?_
      (repeat refine oj_nil ?_)
      refine nj_set 16 (.a (.b (decide (x.st ≤ y.st) && decide (y.en ≤ x.en)))) rfl trivial (fun β => by rw [h, Bool.false_and]; rfl) ?_
      refine nj_again () trivial Nat.zero_lt_one rfl (by (repeat (first | exact trivial | refine And.intro rfl ?_))) (by (repeat (first | exact trivial | refine And.intro rfl ?_))) rfl (by (repeat' (first | exact trivial | constructor))) (by (repeat' exact trivial))
  refine cj_seq ?_
  refine cj_cutN (fun (_ : Unit) => σ3) (fun _ => [(7, .a .tt), (8, .a (.v (.slice ao L.length cap))), (10, .a (.v (.int .i64 a))), (11, .a (.v (.int .i64 b))), (12, .a (.v (.slice xo P.length xc))), (14, .a (.b (decide (x.st ≤ y.st) && decide (y.en ≤ x.en)))), (15, .a (.b (decide (y.st ≤ x.st) && decide (x.en ≤ y.en)))), (16, .a (.b (decide (x.st ≤ y.st) && decide (y.en ≤ x.en)))), (17, .a (.b (decide (y.st ≤ x.st) && decide (x.en ≤ y.en))))]) (fun _ => []) (fun _ => []) 0 (fun _ => True) ?_ (fun _ _ => ?_)
  · refine cj_draw [(0,.pure),(1,.pure),(2,.pure),(3,.pure),(4,.quiet),(5,.pure),(6,.pure),(7,.pure),(8,.pure),(9,.quiet),(10,.pure),(11,.pure),(12,.pure),(13,.pure),(14,.pure),(15,.pure),(16,.quiet),(17,.pure),(18,.pure),(19,.pure),(20,.pure),(21,.quiet),(22,.pure),(23,.pure),(24,.pure)] mixed (by kernel_rfl) (oj_run TT rfl ?_)
    refine oj_idx TT rfl rfl rfl rfl rfl rfl rfl rfl rfl H (by omega) hrb (oj_run TT rfl ?_)
    refine oj_idx TT rfl rfl rfl rfl rfl rfl rfl rfl rfl H (by omega) hra (oj_run TT rfl ?_)
    refine oj_split 113 rfl (fun h => ?_) (fun h => ?_)
    · have h : decide (y.st ≤ x.st) = true := h
      refine oj_run TT rfl ?_
      refine oj_idx TT rfl rfl rfl rfl rfl rfl rfl rfl rfl H (by omega) hra (oj_run TT rfl ?_)
      refine oj_idx TT rfl rfl rfl rfl rfl rfl rfl rfl rfl H (by omega) hrb (oj_run TT rfl ?_)
      (repeat refine oj_nil ?_)
      refine nj_set 17 (.a (.b (decide (y.st ≤ x.st) && decide (x.en ≤ y.en)))) rfl trivial (fun β => by rw [h, Bool.true_and]) ?_
      refine nj_again () trivial Nat.zero_lt_one rfl (by (repeat (first | exact trivial | refine And.intro rfl ?_))) (by (repeat (first | exact trivial | refine And.intro rfl ?_))) rfl (by (repeat' (first | exact trivial | constructor))) (by (repeat' exact trivial))
    · have h : decide (y.st ≤ x.st) = false := h
      refine oj_run TT rfl ?_
      (repeat refine oj_nil ?_)
      refine nj_set 17 (.a (.b (decide (y.st ≤ x.st) && decide (x.en ≤ y.en)))) rfl trivial (fun β => by rw [h, Bool.false_and]; rfl) ?_
      refine nj_again () trivial Nat.zero_lt_one rfl (by (repeat (first | exact trivial | refine And.intro rfl ?_))) (by (repeat (first | exact trivial | refine And.intro rfl ?_))) rfl (by (repeat' (first | exact trivial | constructor))) (by (repeat' exact trivial))
  generalize (decide (x.st ≤ y.st) && decide (y.en ≤ x.en)) = c1 at *
  generalize (decide (y.st ≤ x.st) && decide (x.en ≤ y.en)) = c2 at *
  refine cj_seq ?_
  refine cj_draw [(0,.pure),(1,.pure),(2,.pure),(3,.pure),(4,.pure),(5,.pure),(6,.pure),(7,.pure),(8,.pure),(9,.pure),(10,.pure),(11,.pure),(12,.pure),(13,.pure),(14,.pure),(15,.pure),(16,.pure),(17,.pure),(18,.pure),(19,.pure),(20,.pure),(21,.quiet),(22,.pure),(23,.pure),(24,.pure),(25,.pure),(26,.quiet),(27,.pure),(28,.pure),(29,.pure),(30,.pure),(31,.pure),(32,.pure),(33,.pure),(34,.quiet),(35,.pure),(36,.pure),(37,.pure),(38,.pure),(39,.quiet),(40,.pure),(41,.pure),(42,.pure),(43,.pure),(44,.pure),(45,.pure),(46,.pure),(47,.pure),(48,.pure),(49,.pure),(50,.quiet),(51,.pure),(52,.pure),(53,.pure)] mixed (by kernel_rfl) (oj_run TT rfl ?_)
  refine oj_split 132 rfl (fun _ => ?_) (fun h => absurd (show (c1 == c1) = false from h) (by simp))
  refine oj_run TT rfl ?_
  refine oj_split 137 rfl (fun _ => ?_) (fun h => absurd (show (c2 == c2) = false from h) (by simp))
  refine oj_run TT rfl ?_
  refine oj_split 139 rfl (fun h1 => ?_) (fun h1 => ?_)
  · refine oj_run TT rfl ?_
    refine oj_idx TT rfl rfl rfl rfl rfl rfl rfl rfl rfl H (by omega) hra (oj_run TT rfl ?_)
    (repeat (first | refine oj_then ?_ | refine cj_ret ?_))
    refine nj_ret TT rfl fun β w' _ _ => ?_
    exact congrArg Value.bool (decide_eq_true hlev)
  · have h1 : c1 = false := h1
    refine oj_run TT rfl ?_
    refine oj_split 142 rfl (fun h2 => ?_) (fun h2 => ?_)
    · refine oj_run TT rfl ?_
      refine oj_idx TT rfl rfl rfl rfl rfl rfl rfl rfl rfl H (by omega) hra (oj_run TT rfl ?_)
      (repeat (first | refine oj_then ?_ | refine cj_ret ?_))
      refine nj_ret TT rfl fun β w' _ _ => ?_
      exact congrArg Value.bool (decide_eq_true hlev)
    · have h2 : c2 = false := h2
      refine oj_run TT rfl ?_
      refine oj_idx TT rfl rfl rfl rfl rfl rfl rfl rfl rfl H (by omega) hra (oj_run TT rfl ?_)
      refine oj_idx TT rfl rfl rfl rfl rfl rfl rfl rfl rfl H (by omega) hrb (oj_run TT rfl ?_)
      refine oj_split 155 rfl (fun h3 => ?_) (fun h3 => ?_)
      · refine oj_run TT rfl ?_
        refine oj_idx TT rfl rfl rfl rfl rfl rfl rfl rfl rfl H (by omega) hra (oj_run TT rfl ?_)
        (repeat (first | refine oj_then ?_ | refine cj_ret ?_))
        refine nj_ret TT rfl fun β w' _ _ => ?_
        exact congrArg Value.bool (decide_eq_true hlev)
      · have h3 := of_decide_eq_false (show decide (x.en < y.st) = false from h3)
        refine oj_run TT rfl ?_
        refine oj_idx TT rfl rfl rfl rfl rfl rfl rfl rfl rfl H (by omega) hrb (oj_run TT rfl ?_)
        refine oj_idx TT rfl rfl rfl rfl rfl rfl rfl rfl rfl H (by omega) hra (oj_run TT rfl ?_)
        refine oj_split 169 rfl (fun h4 => ?_) (fun h4 => ?_)
        · refine oj_run TT rfl ?_
          refine oj_idx TT rfl rfl rfl rfl rfl rfl rfl rfl rfl H (by omega) hra (oj_run TT rfl ?_)
          (repeat (first | refine oj_then ?_ | refine cj_ret ?_))
          refine nj_ret TT rfl fun β w' _ _ => ?_
          exact congrArg Value.bool (decide_eq_true hlev)
        · have h4 := of_decide_eq_false (show decide (y.en < x.st) = false from h4)
          rw [h1, h2] at hor
          rcases hor with h | h | h | h
          · cases h
          · cases h
          · exact absurd h h3
          · exact absurd h h4
end Go.Sy
namespace Go.Sy
open Go.Proofs

/-! ### place, Get, step, At -/

set_option maxRecDepth 100000 in
set_option maxHeartbeats 1000000 in
theorem IndexFuncM_c (σ : Snap) (ks : List ByteArray) (rs : List (List AT)) (hkr : ks.length = rs.length) (hr8 : ∀ r ∈ rs, ∀ c ∈ r, c.lt 0) (hl : ks.length ≤ 140737488355328) (ao : Option Addr) (cap : Nat) (H : SlAt σ ao ks.length cap 9 (keyRows ks rs)) (f : FuncId) (caps : List PT) (hcap : LtAll (caps.map ptSV))
    (hcall : ∀ args w, (callFunc f args).run Tryd.prog w = .ok (.enter f args) w) (q : ByteArray → Bool) (hq : ∀ k r, r ∈ rs → PlainS Tryd.prog f (.agg (keyRow k r) :: caps.map ptSV) σ (fun v => v = .bool (q k))) (hlt : (SV.a (.fn (.func f) caps)).lt 0) :
    PlainS Tryd.prog 134 [.a (.v (.slice ao ks.length cap)), .a (.fn (.func f) caps)] σ (fun x => x = .int .i64 (findG q ks 0)) := by
  refine enter_p Tryd.func134 rfl rfl ⟨trivial, hlt, trivial⟩ fun w => ?_
  (repeat (first | refine cj_seq ?_ | (refine cj_region ?_; refine oj_run TT rfl ?_) | refine oj_then ?_ | refine cj_block ?_))
  refine cj_loop (fun (_ : Nat) => σ) (fun k => [(0, .a (.v (.slice ao ks.length cap))), (1, .a (.fn (.func f) caps)), (7, .a (.v (.int .i64 ks.length))), (8, .a (.v (.int .i64 k)))]) (fun _ => []) (fun _ => []) 0
    (fun k => k ≤ ks.length ∧ findG q (ks.drop k) k = findG q ks 0) (fun k => ks.length - k) 0 ⟨Nat.zero_le _, rfl⟩ rfl (by (repeat (first | exact trivial | refine And.intro rfl ?_))) (by (repeat (first | exact trivial | refine And.intro rfl ?_))) rfl ⟨trivial, hlt, trivial, trivial, trivial⟩ trivial fun k ⟨hk, hp⟩ => ?_
  (repeat (first | refine cj_seq ?_ | (refine cj_region ?_; refine oj_run TT rfl ?_) | refine oj_then ?_))
  refine cj_if rfl (fun h => ?_) (fun h => ?_)
  rotate_left
  · have hk0 : k = ks.length := by have := of_decide_eq_false h; omega
    subst hk0
    rw [List.drop_length] at hp
    (repeat (first | refine cj_seq ?_ | (refine cj_region ?_; refine oj_run TT rfl ?_) | refine oj_then ?_ | refine cj_exit ?_ | refine cj_ret ?_ | refine nj_then ?_ | refine nj_then_exit ?_ | refine nj_block_out ?_))
    refine nj_ret TT rfl fun β w' _ _ => ?_
    rw [← hp]
    rfl
  have hkl : k < ks.length := by have := of_decide_eq_true h; omega
  have hkl' : k < rs.length := by omega
  have hra := keyRows_get (List.getElem?_eq_getElem hkl) (List.getElem?_eq_getElem hkl')
  have hqx := hq ks[k] rs[k] (List.getElem_mem hkl')
  have hrlt := hr8 rs[k] (List.getElem_mem hkl')
  have hr9 := H.clo _ (List.mem_of_getElem? hra)
  rw [List.drop_eq_getElem_cons hkl, findG] at hp
  generalize ks[k] = x at *
  generalize rs[k] = r at *
  obtain ⟨hr91, hr92⟩ := hr9
  have hrl : r.length = 8 := by simpa [keyRow] using hr91
  match r, hrl with
  | [c0, c1, c2, c3, c4, c5, c6, c7], _ =>
  (repeat (first | refine cj_seq ?_ | (refine cj_region ?_; refine oj_run TT rfl ?_) | refine oj_then ?_ | refine cj_skip ?_ | refine cj_block ?_ | refine nj_then ?_))
  refine oj_idx TT rfl rfl rfl rfl rfl rfl rfl rfl rfl H (by omega) hra (oj_run TT rfl ?_)
  refine oj_callP (ys := .agg (keyRow x [c0, c1, c2, c3, c4, c5, c6, c7]) :: caps.map ptSV) rfl rfl rfl rfl rfl hcall ⟨hr92, hcap⟩ hqx fun v hv => ⟨.a (.b (q x)), trivial, hv.symm, ?_⟩
  refine oj_run TT rfl ?_
  (repeat refine oj_then ?_)
  refine cj_if rfl (fun h => ?_) (fun h => ?_)
  · rw [h] at hp
    (repeat (first | refine cj_seq ?_ | (refine cj_region ?_; refine oj_run TT rfl ?_) | refine oj_then ?_ | refine cj_ret ?_ | refine nj_then_ret ?_ | refine nj_block_ret ?_))
    refine nj_ret TT rfl fun β w' _ _ => ?_
    rw [← hp]
    rfl
  · rw [h] at hp
    (repeat (first | (refine cj_region ?_; refine oj_run TT rfl ?_) | refine oj_nil ?_ | refine cj_skip ?_ | refine nj_then ?_ | refine nj_block ?_ | (refine oj_add rfl rfl rfl rfl rfl rfl (by omega) ?_; refine oj_run TT rfl ?_)))
    refine nj_again (k + 1) ⟨hkl, hp⟩ (by omega) rfl (by (repeat (first | exact trivial | refine And.intro rfl ?_))) (by (repeat (first | exact trivial | refine And.intro rfl ?_))) rfl ⟨trivial, hlt, trivial, trivial, trivial⟩ trivial

set_option maxRecDepth 100000 in
set_option maxHeartbeats 1000000 in
theorem place1_c (σ : Snap) (k : ByteArray) (r : List AT) (hr : r.length = 8) (hlt : ∀ c ∈ r, c.lt 0) (hone : r.all AT.one = true) (key : ByteArray) (g : Nat) (hg : σ.cell ⟨g, 0, none⟩ = some (.string key)) :
    PlainS Tryd.prog 135 (.agg (keyRow k r) :: [ptrTo g].map ptSV) σ (fun v => v = .bool (decide (k = key))) := by
  match r, hr with
  | [c0, c1, c2, c3, c4, c5, c6, c7], _ =>
  refine enter_p Tryd.func135 rfl rfl ⟨fun c hc => (by cases hc with | head => trivial | tail _ h => exact hlt c h), trivial, trivial⟩ fun w => ?_
  (repeat (first | refine cj_seq ?_ | (refine cj_region ?_; refine oj_run TT rfl ?_) | refine oj_then ?_))
  refine oj_ldS (c := .v (.string key)) TT rfl rfl rfl rfl rfl rfl rfl rfl hg trivial (oj_run TT rfl ?_)
  (repeat (first | refine oj_then ?_ | refine cj_ret ?_))
  refine nj_ret TT rfl fun β w' _ _ => ?_
  rfl

def placeM (ks : List ByteArray) (key : ByteArray) : Int := findG (fun k => decide (k = key)) ks 0

set_option maxRecDepth 100000 in
set_option maxHeartbeats 1000000 in
theorem placeM_c (σ : Snap) (ks : List ByteArray) (gs : List GVal) (rs : List (List AT)) (hkg : ks.length = gs.length) (R : RepL σ gs rs) (hl : ks.length ≤ 140737488355328) (ao : Option Addr) (cap : Nat) (H : SlAt σ ao ks.length cap 9 (keyRows ks rs)) (key : ByteArray) :
    PlainS Tryd.prog 114 [.a (.v (.slice ao ks.length cap)), .a (.v (.string key))] σ (fun v => v = .int .i64 (placeM ks key)) := by
  refine enter_p Tryd.func114 rfl rfl (by (repeat' (first | exact trivial | constructor))) fun w => ?_
  (repeat (first | refine cj_seq ?_ | (refine cj_region ?_; refine oj_run TT rfl ?_) | refine oj_then ?_))
  refine oj_own 0 1 1 rfl (by (repeat' (first | exact trivial | refine AllLt.of ?_ | constructor))) rfl (by decide) fun g => ?_
  refine oj_seal 0 rfl rfl rfl fun σ1 hle1 hS => ?_
  have hg : σ1.cell ⟨g, 0, none⟩ = some (.string key) := by
    rcases hS with ⟨h, _⟩ | ⟨g', h1, h2⟩
    · cases h
    · obtain rfl : g = g' := by simpa using h1
      exact h2 0 _ rfl
  have hall : ∀ r ∈ rs, r.length = 8 ∧ (∀ c ∈ r, c.lt 0) ∧ r.all AT.one = true := fun r hr => R.rows r hr
  refine oj_callP rfl rfl rfl rfl rfl Tryd.call134 ⟨trivial, fn_lt1 (.func 135) g 0, trivial⟩ (IndexFuncM_c σ1 ks rs (by rw [hkg, R.len]) (fun r hr => (hall r hr).2.1) hl ao cap (H.mono hle1) 135 [ptrTo g] ⟨trivial, trivial⟩ Tryd.call135 (fun k => decide (k = key)) (fun k r hr => place1_c σ1 k r (hall r hr).1 (hall r hr).2.1 (hall r hr).2.2 key g hg) (fn_lt1 (.func 135) g 0)) fun v hv => ⟨.a (.v (.int .i64 (placeM ks key))), trivial, hv.symm, ?_⟩
  refine oj_run TT rfl ?_
  (repeat (first | refine oj_then ?_ | refine cj_ret ?_))
  refine nj_ret TT rfl fun β w' _ _ => ?_
  rfl

def nullV : GVal := .mk 0 false dec0 emptyS [] [] []
theorem nullV_rep (σ : Snap) : RepV σ nullV (vCells nullV none 0 none 0) := by
  simp only [nullV, RepV]
  exact ⟨none, 0, [], none, 0, [], rfl, SlAt.nil _ _ _ _, rfl, rfl, SlAt.nil _ _ _ _, rfl, by decide, by decide, by decide, by decide, fun k h => (by cases h)⟩
/-- A value that may be, and whether it is. -/
def OptV (σ : Snap) (o : Option GVal) (v : Value) : Prop := ∃ r, v = .tuple #[.agg (r.map (AT.den β0)).toArray, .bool o.isSome] ∧ RepV σ (o.getD nullV) r

def getG (g : GVal) (key : ByteArray) : Option GVal := if g.kind = 5 then (if placeM g.ks key < 0 then none else g.vs[(placeM g.ks key).toNat]?) else none

set_option maxRecDepth 100000 in
set_option maxHeartbeats 1000000 in
theorem Get_c (σ : Snap) (g : GVal) (la : Option Addr) (lc : Nat) (lrows : List (List AT)) (ma : Option Addr) (mc : Nat) (vrows : List (List AT)) (V : VAt σ g la lc lrows ma mc vrows) (key : ByteArray) :
    PlainS Tryd.prog 124 [.agg (vCells g la lc ma mc), .a (.v (.string key))] σ (OptV σ (getG g key)) := by
  have hkl := V.kl
  simp only [mostLen] at hkl
  have hbd : -1 ≤ placeM g.ks key ∧ placeM g.ks key < g.ks.length := by
    have := findG_bd (fun k => decide (k = key)) g.ks 0
    unfold placeM
    omega
  have hgd : getG g key = if g.kind = 5 then (if placeM g.ks key < 0 then none else g.vs[(placeM g.ks key).toNat]?) else none := rfl
  refine enter_p Tryd.func124 rfl rfl (by (repeat' (first | exact trivial | exact vCells_lt _ _ _ _ _ _ | constructor))) fun w => ?_
  (repeat (first | refine cj_seq ?_ | (refine cj_region ?_; refine oj_run TT rfl ?_) | refine oj_then ?_))
  refine oj_callP rfl rfl rfl rfl rfl Tryd.call114 (by (repeat' (first | exact trivial | constructor))) (placeM_c σ g.ks g.vs vrows V.kv V.v (by omega) ma mc V.M key) fun v hv => ⟨.a (.v (.int .i64 (placeM g.ks key))), trivial, hv.symm, ?_⟩
  refine oj_run TT rfl ?_
  (repeat (first | refine cj_seq ?_ | (refine cj_region ?_; refine oj_run TT rfl ?_) | refine oj_then ?_))
  refine oj_split 14 rfl (fun h => ?_) (fun h => ?_)
  · have h : ¬ g.kind = 5 := by simpa using (show (!decide (g.kind = 5)) = true from h)
    rw [if_neg h] at hgd
    refine oj_run TT rfl ?_
    (repeat (first | refine cj_seq ?_ | (refine cj_region ?_; refine oj_run TT rfl ?_) | refine oj_then ?_ | refine cj_if_t rfl ?_ | refine cj_ret ?_ | refine nj_then_ret ?_))
    refine nj_ret TT rfl fun β w' _ _ => ?_
    rw [hgd]
    exact ⟨vCells nullV none 0 none 0, rfl, nullV_rep σ⟩
  have h : g.kind = 5 := by simpa using (show (!decide (g.kind = 5)) = false from h)
  rw [if_pos h] at hgd
  refine oj_run TT rfl ?_
  (repeat refine oj_then ?_)
  refine cj_if rfl (fun h => ?_) (fun h => ?_)
  · rw [if_pos (of_decide_eq_true h)] at hgd
    (repeat (first | refine cj_seq ?_ | (refine cj_region ?_; refine oj_run TT rfl ?_) | refine oj_then ?_ | refine cj_ret ?_ | refine nj_then_ret ?_))
    refine nj_ret TT rfl fun β w' _ _ => ?_
    rw [hgd]
    exact ⟨vCells nullV none 0 none 0, rfl, nullV_rep σ⟩
  have h := of_decide_eq_false h
  rw [if_neg h] at hgd
  obtain ⟨j, hj⟩ : ∃ j : Nat, placeM g.ks key = j := ⟨(placeM g.ks key).toNat, by omega⟩
  rw [hj] at hgd ⊢
  rw [Int.toNat_natCast] at hgd
  have hjk : j < g.ks.length := by omega
  have hjv : j < g.vs.length := by rw [← V.kv]; exact hjk
  obtain ⟨r, hr, hrep⟩ := V.v.get (List.getElem?_eq_getElem hjv)
  have hrow := keyRows_get (List.getElem?_eq_getElem hjk) hr
  rw [List.getElem?_eq_getElem hjv] at hgd
  generalize g.vs[j] = x at *
  generalize g.ks[j] = kk at *
  obtain ⟨la', lc', lrows', ma', mc', vrows', rfl, V'⟩ := hrep.open
  (repeat (first | refine cj_seq ?_ | (refine cj_region ?_; refine oj_run TT rfl ?_) | refine cj_skip ?_ | refine nj_then ?_))
  refine oj_idx TT rfl rfl rfl rfl rfl rfl rfl rfl rfl V.M (by omega) hrow (oj_run TT rfl ?_)
  (repeat (first | refine oj_then ?_ | refine cj_ret ?_))
  refine nj_ret TT rfl fun β w' _ _ => ?_
  rw [hgd]
  exact ⟨vCells x la' lc' ma' mc', rfl, V'.rep⟩

def stepV (g : GVal) (s : GStep) : Option GVal := if s.named then getG g s.key else if g.kind = 4 then (if s.at_ < 0 then none else if s.at_ < g.l.length then g.l[s.at_.toNat]? else none) else none

set_option maxRecDepth 100000 in
set_option maxHeartbeats 1000000 in
theorem step_c (σ : Snap) (g : GVal) (la : Option Addr) (lc : Nat) (lrows : List (List AT)) (ma : Option Addr) (mc : Nat) (vrows : List (List AT)) (V : VAt σ g la lc lrows ma mc vrows) (s : GStep) :
    PlainS Tryd.prog 90 [.agg (vCells g la lc ma mc), .agg (stepCells s)] σ (OptV σ (stepV g s)) := by
  have hgd : stepV g s = if s.named then getG g s.key else if g.kind = 4 then (if s.at_ < 0 then none else if s.at_ < g.l.length then g.l[s.at_.toNat]? else none) else none := rfl
  refine enter_p Tryd.func90 rfl rfl ⟨vCells_lt _ _ _ _ _ _, (by unfold stepCells; (repeat' (first | exact trivial | refine AllLt.of ?_ | constructor))), trivial⟩ fun w => ?_
  (repeat (first | refine cj_seq ?_ | (refine cj_region ?_; refine oj_run TT rfl ?_) | refine oj_then ?_ | refine cj_block ?_))
  refine cj_if rfl (fun h => ?_) (fun h => ?_)
  · rw [if_pos h] at hgd
    (repeat (first | refine cj_seq ?_ | (refine cj_region ?_; refine oj_run TT rfl ?_)))
    refine oj_callP rfl rfl rfl rfl rfl Tryd.call124 (by (repeat' (first | exact trivial | exact vCells_lt _ _ _ _ _ _ | constructor))) (Get_c σ g la lc lrows ma mc vrows V s.key) fun v ⟨r, hv, hr⟩ => ?_
    obtain ⟨la', lc', lrows', ma', mc', vrows', rfl, V'⟩ := hr.open
    refine ⟨.tup [.agg (vCells ((getG g s.key).getD nullV) la' lc' ma' mc'), .a (.b (getG g s.key).isSome)], (by (repeat' (first | exact trivial | exact vCells_lt _ _ _ _ _ _ | refine SV.lt_tup ?_ | constructor))), hv.symm, ?_⟩
    refine oj_run TT rfl ?_
    (repeat (first | refine oj_then ?_ | refine cj_ret ?_ | refine nj_then_ret ?_ | refine nj_block_ret ?_))
    refine nj_ret TT rfl fun β w' _ _ => ?_
    rw [hgd]
    exact ⟨vCells ((getG g s.key).getD nullV) la' lc' ma' mc', rfl, V'.rep⟩
  rw [h, if_neg (by simp)] at hgd
  (repeat (first | refine cj_seq ?_ | (refine cj_region ?_; refine oj_run TT rfl ?_)))
  refine oj_split 19 rfl (fun h1 => ?_) (fun h1 => ?_)
  · have h1 : ¬ g.kind = 4 := by simpa using (show (!decide (g.kind = 4)) = true from h1)
    rw [if_neg h1] at hgd
    refine oj_run TT rfl ?_
    (repeat (first | refine cj_seq ?_ | (refine cj_region ?_; refine oj_run TT rfl ?_) | refine oj_then ?_ | refine cj_if_t rfl ?_ | refine cj_ret ?_ | refine nj_then_ret ?_ | refine nj_block_ret ?_))
    refine nj_ret TT rfl fun β w' _ _ => ?_
    rw [hgd]
    exact ⟨vCells nullV none 0 none 0, rfl, nullV_rep σ⟩
  have h1 : g.kind = 4 := by simpa using (show (!decide (g.kind = 4)) = false from h1)
  rw [if_pos h1] at hgd
  refine oj_run TT rfl ?_
  refine oj_split 24 rfl (fun h2 => ?_) (fun h2 => ?_)
  · have h2 : decide (s.at_ < 0) = true := h2
    rw [if_pos (of_decide_eq_true h2)] at hgd
    refine oj_run TT rfl ?_
    (repeat (first | refine cj_seq ?_ | (refine cj_region ?_; refine oj_run TT rfl ?_) | refine oj_then ?_ | refine cj_if_t rfl ?_ | refine cj_ret ?_ | refine nj_then_ret ?_ | refine nj_block_ret ?_))
    refine nj_ret TT rfl fun β w' _ _ => ?_
    rw [hgd]
    exact ⟨vCells nullV none 0 none 0, rfl, nullV_rep σ⟩
  have h2 : decide (s.at_ < 0) = false := h2
  have h2 := of_decide_eq_false h2
  rw [if_neg h2] at hgd
  refine oj_run TT rfl ?_
  (repeat refine oj_then ?_)
  refine cj_if rfl (fun h3 => ?_) (fun h3 => ?_)
  · have h3 := of_decide_eq_true h3
    rw [if_neg (by omega)] at hgd
    (repeat (first | refine cj_seq ?_ | (refine cj_region ?_; refine oj_run TT rfl ?_) | refine oj_then ?_ | refine cj_ret ?_ | refine nj_then_ret ?_ | refine nj_block_ret ?_))
    refine nj_ret TT rfl fun β w' _ _ => ?_
    rw [hgd]
    exact ⟨vCells nullV none 0 none 0, rfl, nullV_rep σ⟩
  have h3 := of_decide_eq_false h3
  rw [if_pos (by omega)] at hgd
  obtain ⟨j, hj⟩ : ∃ j : Nat, s.at_ = j := ⟨s.at_.toNat, by omega⟩
  rw [hj] at hgd ⊢
  rw [Int.toNat_natCast] at hgd
  have hjl : j < g.l.length := by omega
  obtain ⟨r, hr, hrep⟩ := V.l.get (List.getElem?_eq_getElem hjl)
  rw [List.getElem?_eq_getElem hjl] at hgd
  generalize g.l[j] = x at *
  obtain ⟨la', lc', lrows', ma', mc', vrows', rfl, V'⟩ := hrep.open
  (repeat (first | refine cj_seq ?_ | (refine cj_region ?_; refine oj_run TT rfl ?_) | refine cj_skip ?_ | refine nj_then ?_ | refine nj_block ?_))
  refine oj_idx TT rfl rfl rfl rfl rfl rfl rfl rfl rfl V.L (by omega) hr (oj_run TT rfl ?_)
  (repeat (first | refine oj_then ?_ | refine cj_ret ?_))
  refine nj_ret TT rfl fun β w' _ _ => ?_
  rw [hgd]
  exact ⟨vCells x la' lc' ma' mc', rfl, V'.rep⟩

def atV : GVal → List GStep → Option GVal
  | g, [] => some g
  | g, s :: l => (stepV g s).bind fun x => atV x l

def zV : List AT := [.v (.int .i64 0), .ff, .ff, .v (.string ⟨#[]⟩), .v (.int .i64 0), .v (.string ⟨#[]⟩), .v (.slice none 0 0), .v (.slice none 0 0)]
structure AtS where
  k : Nat
  ok : Bool
  g : GVal
  la : Option Addr
  lc : Nat
  ma : Option Addr
  mc : Nat

set_option maxRecDepth 100000 in
set_option maxHeartbeats 1000000 in
theorem At_c (σ : Snap) (g : GVal) (la : Option Addr) (lc : Nat) (lrows : List (List AT)) (ma : Option Addr) (mc : Nat) (vrows : List (List AT)) (V : VAt σ g la lc lrows ma mc vrows) (l : List GStep) (hl : l.length ≤ 1000000) (so : Option Addr) (sc : Nat) (S : SlAt σ so l.length sc 3 (stepRows l)) :
    PlainS Tryd.prog 45 [.agg (vCells g la lc ma mc), .a (.v (.slice so l.length sc))] σ (OptV σ (atV g l)) := by
  refine enter_p Tryd.func45 rfl rfl (by (repeat' (first | exact trivial | exact vCells_lt _ _ _ _ _ _ | constructor))) fun w => ?_
  (repeat (first | refine cj_seq ?_ | (refine cj_region ?_; refine oj_run TT rfl ?_) | refine oj_then ?_ | refine cj_block ?_))
  refine cj_set 6 (.a (.b true)) rfl trivial (fun β => rfl) ?_
  refine cj_loop (fun (_ : AtS) => σ) (fun t => [(1, .a (.v (.slice so l.length sc))), (2, .a (.p 0 0)), (4, .a (.p 1 0)), (6, .a (.b t.ok)), (7, .a (.v (.int .i64 (t.k : Nat))))]) (fun t => [(0, .loc 27, vCells t.g t.la t.lc t.ma t.mc), (1, .loc 27, zV)]) (fun _ => []) 2
    (fun t => t.k ≤ l.length ∧ (∃ lr vr, VAt σ t.g t.la t.lc lr t.ma t.mc vr) ∧ (if t.ok then atV t.g (l.drop t.k) = atV g l else t.g = nullV ∧ atV g l = none)) (fun t => l.length - t.k) ⟨0, true, g, la, lc, ma, mc⟩ ⟨Nat.zero_le _, ⟨_, _, V⟩, rfl⟩ rfl (by (repeat (first | exact trivial | refine And.intro rfl ?_))) (by (repeat (first | exact trivial | refine And.intro rfl ?_))) rfl (by (repeat' (first | exact trivial | exact Nat.le_of_ble_eq_true rfl | constructor))) (by (repeat' (first | exact trivial | exact Nat.le_of_ble_eq_true rfl | exact vCells_lt _ _ _ _ _ _ | refine AllLt.of ?_ | constructor))) fun ⟨k, ok, g', la', lc', ma', mc'⟩ ⟨hk, ⟨lr, vr, V'⟩, hp⟩ => ?_
  dsimp only at hk V' hp ⊢
  have hend : (k = l.length ∨ ok = false) → OptV σ (atV g l) (.tuple #[.agg ((vCells g' la' lc' ma' mc').map (AT.den β0)).toArray, .bool ok]) := by
    intro h
    cases ok with
    | true =>
      have hk0 : k = l.length := by simpa using h
      rw [if_pos rfl, hk0, List.drop_length, atV] at hp
      rw [← hp]
      exact ⟨_, rfl, V'.rep⟩
    | false =>
      rw [if_neg (by simp)] at hp
      rw [hp.2]
      refine ⟨_, rfl, ?_⟩
      have := V'.rep
      rw [hp.1] at this ⊢
      exact this
  (repeat (first | refine cj_seq ?_ | (refine cj_region ?_; refine oj_run TT rfl ?_)))
  refine oj_split 12 rfl (fun h => ?_) (fun h => ?_)
  rotate_left
  · have hk0 : k = l.length := by have := of_decide_eq_false (show decide ((k : Int) < l.length) = false from h); omega
    refine oj_run TT rfl ?_
    (repeat (first | refine cj_seq ?_ | (refine cj_region ?_; refine oj_run TT rfl ?_) | refine oj_then ?_ | refine cj_if_f rfl ?_ | refine cj_exit ?_ | refine cj_ret ?_ | refine nj_then ?_ | refine nj_then_exit ?_ | refine nj_block_out ?_))
    refine nj_ret TT rfl fun β w' _ _ => ?_
    exact hend (.inl hk0)
  have hkl : k < l.length := by have := of_decide_eq_true (show decide ((k : Int) < l.length) = true from h); omega
  refine oj_run TT rfl ?_
  (repeat refine oj_then ?_)
  refine cj_if rfl (fun h => ?_) (fun h => ?_)
  rotate_left
  · (repeat (first | refine cj_seq ?_ | (refine cj_region ?_; refine oj_run TT rfl ?_) | refine oj_then ?_ | refine cj_exit ?_ | refine cj_ret ?_ | refine nj_then ?_ | refine nj_then_exit ?_ | refine nj_block_out ?_))
    refine nj_ret TT rfl fun β w' _ _ => ?_
    exact hend (.inr h)
  have hrow := stepRows_get (List.getElem?_eq_getElem hkl)
  rw [if_pos h, List.drop_eq_getElem_cons hkl, atV] at hp
  generalize l[k] = s at *
  clear hend
  (repeat (first | refine cj_seq ?_ | refine cj_skip ?_ | refine cj_block ?_ | refine nj_then ?_))
  refine cj_draw [(0,.quiet),(1,.pure),(2,.pure),(3,.pure),(4,.quiet),(5,.keep),(6,.pure),(7,.pure),(8,.pure),(9,.sink),(10,.pure)] mixed (by kernel_rfl) (oj_run TT rfl ?_)
  refine oj_idx TT rfl rfl rfl rfl rfl rfl rfl rfl rfl S (by omega) hrow (oj_run TT rfl ?_)
  refine oj_callP rfl rfl rfl rfl rfl Tryd.call90 (by (repeat' (first | exact trivial | exact vCells_lt _ _ _ _ _ _ | refine AllLt.of ?_ | constructor))) (step_c σ g' la' lc' lr ma' mc' vr V' s) fun v ⟨r, hv, hr⟩ => ?_
  obtain ⟨la2, lc2, lr2, ma2, mc2, vr2, rfl, V2⟩ := hr.open
  refine ⟨.tup [.agg (vCells ((stepV g' s).getD nullV) la2 lc2 ma2 mc2), .a (.b (stepV g' s).isSome)], (by (repeat' (first | exact trivial | exact vCells_lt _ _ _ _ _ _ | refine SV.lt_tup ?_ | constructor))), hv.symm, ?_⟩
  refine oj_run TT rfl ?_
  (repeat (first | (refine cj_region ?_; refine oj_run TT rfl ?_) | refine oj_nil ?_ | refine nj_then ?_ | refine nj_block ?_ | (refine oj_add rfl rfl rfl rfl rfl rfl (by omega) ?_; refine oj_run TT rfl ?_)))
  refine nj_again (⟨k + 1, (stepV g' s).isSome, (stepV g' s).getD nullV, la2, lc2, ma2, mc2⟩ : AtS) ⟨hkl, ⟨_, _, V2⟩, ?_⟩ (by dsimp only; omega) rfl (by (repeat (first | exact trivial | refine And.intro rfl ?_))) (by (repeat (first | exact trivial | refine And.intro rfl ?_))) rfl (by (repeat' (first | exact trivial | exact Nat.le_of_ble_eq_true rfl | constructor))) (by (repeat' (first | exact trivial | exact Nat.le_of_ble_eq_true rfl | exact vCells_lt _ _ _ _ _ _ | refine AllLt.of ?_ | constructor)))
  dsimp only
  cases hst : stepV g' s with
  | none =>
    rw [hst, Option.bind_none] at hp
    exact ⟨rfl, hp.symm⟩
  | some x =>
    rw [hst, Option.bind_some] at hp
    exact hp
end Go.Sy
/- Scopes that nobody jumps in. No program in sight. -/
namespace Go.Sy
section
variable {cf : Cf} {Q : Exit → Act → World → Prop} {σ : Snap} {env : Env} {hp : HP} {A : List AE} {nh : Nat}
theorem cj_scope {c : Code} (hrd : cf.rd = none) (h : CJ cf c (Exit.noGoto Q) σ env hp A nh) : CJ cf (.scope c) Q σ env hp A nh := by
  refine ⟨fun hb a β w ha hw => ?_⟩
  have := h.run hb a β w ha hw
  rw [hrd] at this ⊢
  exact (wpIn_wide (n := 0)).2 (wp_scope_straight (wpR_none this))
theorem nj_ng_n (h : NJ cf .normal Q σ env hp A nh) : NJ cf .normal (Exit.noGoto Q) σ env hp A nh := ⟨h.run⟩
theorem nj_ng_ret (h : NJ cf .ret Q σ env hp A nh) : NJ cf .ret (Exit.noGoto Q) σ env hp A nh := ⟨h.run⟩
theorem nj_ng_exit {id : Nat} (h : NJ cf (.exit id) Q σ env hp A nh) : NJ cf (.exit id) (Exit.noGoto Q) σ env hp A nh := ⟨h.run⟩
end
end Go.Sy
namespace Go.Sy
open Go.Proofs

/-! ### Last -/

def lastG (L : List GRec) (i : Nat) : Int := (runK L ((L[i]?.map GRec.en).getD 0) (i + 1) : Nat) - 1

set_option maxRecDepth 100000 in
set_option maxHeartbeats 1000000 in
theorem Last_c (σ : Snap) (L : List GRec) (R : RecsOk L) (ao : Option Addr) (cap : Nat) (H : SlAt σ ao L.length cap 11 (recRows L)) (i : Nat) (hi : i < L.length) (hs : soundG L = true) :
    PlainS Tryd.prog 40 [.a (.v (.slice ao L.length cap)), .a (.v (.int .i64 i))] σ (fun v => v = .int .i64 (lastG L i)) := by
  have hat : atG L i = true := by
    unfold atG
    rw [hs]
    simp
    omega
  have hlg : lastG L i = (runK L L[i].en (i + 1) : Nat) - 1 := by unfold lastG; rw [List.getElem?_eq_getElem hi]; rfl
  rw [hlg]
  refine enter_p Tryd.func40 rfl rfl (by (repeat' (first | exact trivial | constructor))) fun w => ?_
  (repeat (first | refine cj_seq ?_ | (refine cj_region ?_; refine oj_run TT rfl ?_) | refine oj_then ?_))
  refine oj_callP rfl rfl rfl rfl rfl Tryd.call76 (by (repeat' (first | exact trivial | constructor))) (at_c σ L R ao cap H i) fun v hv => ⟨.a .tt, trivial, by rw [hv, hat]; rfl, ?_⟩
  refine oj_run TT rfl ?_
  (repeat (first | refine cj_seq ?_ | (refine cj_region ?_; refine oj_run TT rfl ?_) | refine oj_then ?_ | refine cj_if_f rfl ?_ | refine cj_skip ?_ | refine nj_then ?_))
  refine oj_callP rfl rfl rfl rfl rfl Tryd.call88 (by (repeat' (first | exact trivial | constructor))) (last_c σ L R.len ao cap H i hi) fun v hv => ⟨.a (.v (.int .i64 ((runK L L[i].en (i + 1) : Nat) - 1))), trivial, hv.symm, ?_⟩
  refine oj_run TT rfl ?_
  (repeat (first | refine oj_then ?_ | refine cj_ret ?_))
  refine nj_ret TT rfl fun β w' _ _ => ?_
  rfl

/-! ### Find -/

/-- Is the n-th kid, record r, what a step asks for? -/
def fitsR (s : GStep) (n : Nat) (r : GRec) : Bool := (s.named && r.nm && decide (r.name = s.key)) || (!s.named && !r.nm && decide ((n : Int) = s.at_))
/-- The first of the kids from n on that is asked for. -/
def firstR (L : List GRec) (s : GStep) : List Nat → Nat → Option Nat
  | [], _ => none
  | k :: ks, n => match L[k]? with
    | some r => if fitsR s n r then some k else firstR L s ks (n + 1)
    | none => none
def findR (L : List GRec) : Nat → List GStep → Int
  | i, [] => i
  | i, s :: l => match firstR L s (kidsG L i) 0 with
    | some k => findR L k l
    | none => -1
theorem firstR_mem {L : List GRec} {s : GStep} : ∀ {ks : List Nat} {n k : Nat}, firstR L s ks n = some k → k < L.length
  | x :: ks, n, k, h => by
    unfold firstR at h
    cases hx : L[x]? with
    | none => rw [hx] at h; cases h
    | some r =>
      rw [hx] at h
      dsimp only at h
      split at h
      · obtain rfl := Option.some.inj h
        exact (List.getElem?_eq_some_iff.1 hx).1
      · exact firstR_mem h

theorem kidsF_lt (L : List GRec) (en : Int) : ∀ n k, ∀ m ∈ kidsF L en n k, m < L.length
  | 0, _, m, h => by simp [kidsF] at h
  | n + 1, k, m, h => by
    unfold kidsF at h
    split at h
    · rename_i hk
      split at h
      · cases h with
        | head => exact hk
        | tail _ h => exact kidsF_lt L en n _ m h
      · cases h
    · cases h

set_option maxRecDepth 100000 in
set_option maxHeartbeats 1000000 in
theorem Find_c (σ : Snap) (L : List GRec) (R : RecsOk L) (ao : Option Addr) (cap : Nat) (H : SlAt σ ao L.length cap 11 (recRows L)) (hs : soundG L = true) (hL : L.length ≤ 100000) (hpos : 0 < L.length) (l : List GStep) (hl : l.length ≤ 1000000) (so : Option Addr) (sc : Nat) (S : SlAt σ so l.length sc 3 (stepRows l)) :
    PlainS Tryd.prog 43 [.a (.v (.slice ao L.length cap)), .a (.v (.slice so l.length sc))] σ (fun v => v = .int .i64 (findR L 0 l)) := by
  refine enter_p Tryd.func43 rfl rfl (by (repeat' (first | exact trivial | constructor))) fun w => ?_
  (repeat (first | refine cj_seq ?_ | (refine cj_region ?_; refine oj_run TT rfl ?_) | refine oj_then ?_ | refine cj_scope rfl ?_))
  refine oj_callP rfl rfl rfl rfl rfl Tryd.call24 (by (repeat' (first | exact trivial | constructor))) (Sound_c σ L R.len R.fit R.bw ao cap H) fun v hv => ⟨.a .tt, trivial, by rw [hv, hs]; rfl, ?_⟩
  refine oj_run TT rfl ?_
  (repeat (first | refine cj_seq ?_ | (refine cj_region ?_; refine oj_run TT rfl ?_) | refine oj_then ?_ | refine cj_if_f rfl ?_ | refine cj_skip ?_ | refine cj_block ?_ | refine nj_then ?_ | refine cj_label ?_))
  refine cj_loop2 (fun (s : Snap) (_ : Nat × Nat) => s) (fun _ t => [(0, .a (.v (.slice ao L.length cap))), (1, .a (.v (.slice so l.length sc))), (5, .a (.v (.int .i64 (t.2 : Nat)))), (13, .a (.v (.slice so l.length sc))), (14, .a (.v (.int .i64 l.length))), (15, .a (.v (.int .i64 (t.1 : Nat))))]) (fun _ _ => []) (fun _ _ => []) 0
    (fun s t => σ.le s ∧ t.1 ≤ l.length ∧ t.2 < L.length ∧ findR L t.2 (l.drop t.1) = findR L 0 l) (fun _ t => l.length - t.1) σ (0, 0) ⟨Snap.le_refl _, Nat.zero_le _, hpos, rfl⟩ rfl (by (repeat (first | exact trivial | refine And.intro rfl ?_))) (by (repeat (first | exact trivial | refine And.intro rfl ?_))) rfl (by (repeat' (first | exact trivial | constructor))) (by (repeat' exact trivial)) fun s ⟨k, i⟩ ⟨hle, hk, hi, hp⟩ => ?_
  dsimp only at hk hi hp ⊢
  (repeat (first | refine cj_seq ?_ | (refine cj_region ?_; refine oj_run TT rfl ?_) | refine oj_then ?_))
  refine cj_if rfl (fun h => ?_) (fun h => ?_)
  rotate_left
  · have hk0 : k = l.length := by have := of_decide_eq_false h; omega
    rw [hk0, List.drop_length, findR] at hp
    (repeat (first | refine cj_seq ?_ | (refine cj_region ?_; refine oj_run TT rfl ?_) | refine oj_then ?_ | refine cj_exit ?_ | refine cj_ret ?_ | refine nj_then ?_ | refine nj_then_exit ?_ | refine nj_block_out ?_ | refine nj_ng_ret ?_))
    refine nj_ret TT rfl fun β w' _ _ => ?_
    rw [← hp]
    rfl
  have hkl : k < l.length := by have := of_decide_eq_true h; omega
  have H := H.mono hle
  have S := S.mono hle
  have hrow := stepRows_get (List.getElem?_eq_getElem hkl)
  rw [List.drop_eq_getElem_cons hkl, findR] at hp
  generalize l[k] = st at *
  (repeat (first | refine cj_seq ?_ | (refine cj_region ?_; refine oj_run TT rfl ?_) | refine cj_skip ?_ | refine cj_block ?_ | refine nj_then ?_))
  refine oj_idx TT rfl rfl rfl rfl rfl rfl rfl rfl rfl S (by omega) hrow (oj_run TT rfl ?_)
  (repeat (first | refine cj_seq ?_ | (refine cj_region ?_; refine oj_run TT rfl ?_) | refine oj_then ?_))
  refine oj_callS rfl rfl rfl rfl rfl Tryd.call77 ⟨trivial, trivial, trivial⟩ (kids_c s L hL ao cap H i hi) fun v σ1 hle1 ⟨oo, oc, hv, HK⟩ => ⟨.a (.v (.slice oo (kidsG L i).length oc)), trivial, hv.symm, ?_⟩
  have H := H.mono hle1
  have hklt : ∀ m ∈ kidsG L i, m < L.length := fun m hm => kidsF_lt L _ _ _ m hm
  have hklen : (kidsG L i).length ≤ L.length := by
    unfold kidsG
    exact Nat.le_trans (kidsF_len L _ L.length (i + 1)) (Nat.sub_le _ _)
  generalize kidsG L i = ks at *
  refine oj_run TT rfl ?_
  (repeat (first | refine oj_then ?_ | refine cj_block ?_))
  refine cj_loop (fun (_ : Nat) => σ1) (fun n => [(0, .a (.v (.slice ao L.length cap))), (1, .a (.v (.slice so l.length sc))), (7, .a (.p 1 0)), (13, .a (.v (.slice so l.length sc))), (14, .a (.v (.int .i64 l.length))), (15, .a (.v (.int .i64 (k : Nat)))), (21, .a (.v (.slice oo ks.length oc))), (22, .a (.v (.int .i64 ks.length))), (23, .a (.v (.int .i64 (n : Nat))))])
    (fun _ => [(1, .loc 129, stepCells st)]) (fun _ => []) 2 (fun n => n ≤ ks.length ∧ firstR L st (ks.drop n) n = firstR L st ks 0) (fun n => ks.length - n) 0 ⟨Nat.zero_le _, rfl⟩ rfl (by (repeat (first | exact trivial | refine And.intro rfl ?_))) (by (repeat (first | exact trivial | refine And.intro rfl ?_))) rfl (by (repeat' (first | exact trivial | exact Nat.le_of_ble_eq_true rfl | constructor))) (by (repeat' (first | exact trivial | exact Nat.le_of_ble_eq_true rfl | refine AllLt.of ?_ | constructor))) fun n ⟨hn, hf⟩ => ?_
  (repeat (first | refine cj_seq ?_ | (refine cj_region ?_; refine oj_run TT rfl ?_) | refine oj_then ?_))
  refine cj_if rfl (fun h => ?_) (fun h => ?_)
  rotate_left
  · have hn0 : n = ks.length := by have := of_decide_eq_false h; omega
    rw [hn0, List.drop_length, firstR] at hf
    rw [← hf] at hp
    (repeat (first | refine cj_seq ?_ | (refine cj_region ?_; refine oj_run TT rfl ?_) | refine oj_then ?_ | refine cj_exit ?_ | refine cj_ret ?_ | refine nj_then ?_ | refine nj_then_exit ?_ | refine nj_then_ret ?_ | refine nj_block_ret ?_ | refine nj_block_out ?_ | refine nj_ng_ret ?_))
    refine nj_ret TT rfl fun β w' _ _ => ?_
    rw [← hp]
    rfl
  have hnl : n < ks.length := by have := of_decide_eq_true h; omega
  have hkr : (kidRows ks)[n]? = some [.v (.int .i64 (ks[n] : Nat))] := by unfold kidRows; rw [List.getElem?_map, List.getElem?_eq_getElem hnl]; rfl
  have hml := hklt ks[n] (List.getElem_mem hnl)
  obtain ⟨r, hr⟩ : ∃ r, L[ks[n]]? = some r := ⟨_, List.getElem?_eq_getElem hml⟩
  have hrec := recRows_get hr
  rw [List.drop_eq_getElem_cons hnl, firstR, hr] at hf
  dsimp only at hf
  generalize ks[n] = m at *
  (repeat (first | refine cj_seq ?_ | (refine cj_region ?_; refine oj_run TT rfl ?_) | refine cj_skip ?_ | refine cj_block ?_ | refine nj_then ?_))
  refine oj_idx TT rfl rfl rfl rfl rfl rfl rfl rfl rfl HK (by omega) hkr (oj_run TT rfl ?_)
  (repeat (first | refine cj_seq ?_ | refine oj_then ?_))
  refine cj_cutN (fun (_ : Unit) => σ1) (fun _ => [(0, .a (.v (.slice ao L.length cap))), (1, .a (.v (.slice so l.length sc))), (7, .a (.p 1 0)), (9, .a (.v (.int .i64 (m : Nat)))), (13, .a (.v (.slice so l.length sc))), (14, .a (.v (.int .i64 l.length))), (15, .a (.v (.int .i64 (k : Nat)))), (21, .a (.v (.slice oo ks.length oc))), (22, .a (.v (.int .i64 ks.length))), (23, .a (.v (.int .i64 (n : Nat)))), (65, .a (.b (fitsR st n r)))])
    (fun _ => [(1, .loc 129, stepCells st)]) (fun _ => []) 2 (fun _ => True) ?_ (fun _ _ => ?_)
  · refine cj_draw [(0,.pure),(1,.quiet),(2,.pure),(3,.pure),(4,.pure),(5,.pure),(6,.pure),(7,.quiet),(8,.pure),(9,.pure),(10,.pure),(11,.pure),(12,.pure),(13,.pure),(14,.quiet),(15,.pure),(16,.quiet),(17,.pure),(18,.pure),(19,.pure),(20,.pure),(21,.quiet),(22,.pure),(23,.pure),(24,.pure),(25,.pure),(26,.pure),(27,.pure),(28,.quiet),(29,.pure),(30,.pure),(31,.pure),(32,.pure),(33,.pure),(34,.quiet),(35,.pure),(36,.pure),(37,.pure)] mixed (by kernel_rfl) (oj_run TT rfl ?_)
    refine oj_split 30 rfl (fun h1 => ?_) (fun h1 => ?_)
    · have h1 : st.named = true := h1
      refine oj_run TT rfl ?_
      refine oj_idx TT rfl rfl rfl rfl rfl rfl rfl rfl rfl H (by omega) hrec (oj_run TT rfl ?_)
      refine oj_split 37 rfl (fun h2 => ?_) (fun h2 => ?_)
      · have h2 : r.nm = true := h2
        refine oj_run TT rfl ?_
        refine oj_idx TT rfl rfl rfl rfl rfl rfl rfl rfl rfl H (by omega) hrec (oj_run TT rfl ?_)
        refine oj_split 47 rfl (fun h3 => ?_) (fun h3 => ?_)
        · have h3 : decide (r.name = st.key) = true := h3
          refine oj_run TT rfl ?_
          (repeat refine oj_nil ?_)
          refine nj_set 65 (.a (.b (fitsR st n r))) rfl trivial (fun β => by unfold fitsR; rw [h1, h2, h3]; rfl) ?_
          refine nj_again () trivial Nat.zero_lt_one rfl (by (repeat (first | exact trivial | refine And.intro rfl ?_))) (by (repeat (first | exact trivial | refine And.intro rfl ?_))) rfl (by (repeat' (first | exact trivial | exact Nat.le_of_ble_eq_true rfl | constructor))) (by (repeat' (first | exact trivial | exact Nat.le_of_ble_eq_true rfl | refine AllLt.of ?_ | constructor)))
        · have h3 : decide (r.name = st.key) = false := h3
          refine oj_run TT rfl ?_
          refine oj_split 51 rfl (fun h4 => absurd (show (!st.named) = true from h4) (by rw [h1]; decide)) (fun _ => ?_)
          refine oj_run TT rfl ?_
          (repeat refine oj_nil ?_)
          refine nj_set 65 (.a (.b (fitsR st n r))) rfl trivial (fun β => by unfold fitsR; rw [h1, h2, h3]; rfl) ?_
          refine nj_again () trivial Nat.zero_lt_one rfl (by (repeat (first | exact trivial | refine And.intro rfl ?_))) (by (repeat (first | exact trivial | refine And.intro rfl ?_))) rfl (by (repeat' (first | exact trivial | exact Nat.le_of_ble_eq_true rfl | constructor))) (by (repeat' (first | exact trivial | exact Nat.le_of_ble_eq_true rfl | refine AllLt.of ?_ | constructor)))
      · have h2 : r.nm = false := h2
        refine oj_run TT rfl ?_
        refine oj_split 51 rfl (fun h4 => absurd (show (!st.named) = true from h4) (by rw [h1]; decide)) (fun _ => ?_)
        refine oj_run TT rfl ?_
        (repeat refine oj_nil ?_)
        refine nj_set 65 (.a (.b (fitsR st n r))) rfl trivial (fun β => by unfold fitsR; rw [h1, h2]; rfl) ?_
        refine nj_again () trivial Nat.zero_lt_one rfl (by (repeat (first | exact trivial | refine And.intro rfl ?_))) (by (repeat (first | exact trivial | refine And.intro rfl ?_))) rfl (by (repeat' (first | exact trivial | exact Nat.le_of_ble_eq_true rfl | constructor))) (by (repeat' (first | exact trivial | exact Nat.le_of_ble_eq_true rfl | refine AllLt.of ?_ | constructor)))
    · have h1 : st.named = false := h1
      refine oj_run TT rfl ?_
      refine oj_split 51 rfl (fun _ => ?_) (fun h4 => absurd (show (!st.named) = false from h4) (by rw [h1]; decide))
      refine oj_run TT rfl ?_
      refine oj_idx TT rfl rfl rfl rfl rfl rfl rfl rfl rfl H (by omega) hrec (oj_run TT rfl ?_)
      refine oj_split 59 rfl (fun h2 => ?_) (fun h2 => ?_)
      · have h2 : (!r.nm) = true := h2
        refine oj_run TT rfl ?_
        (repeat refine oj_nil ?_)
        refine nj_set 65 (.a (.b (fitsR st n r))) rfl trivial (fun β => by unfold fitsR; rw [h1, h2]; rfl) ?_
        refine nj_again () trivial Nat.zero_lt_one rfl (by (repeat (first | exact trivial | refine And.intro rfl ?_))) (by (repeat (first | exact trivial | refine And.intro rfl ?_))) rfl (by (repeat' (first | exact trivial | exact Nat.le_of_ble_eq_true rfl | constructor))) (by (repeat' (first | exact trivial | exact Nat.le_of_ble_eq_true rfl | refine AllLt.of ?_ | constructor)))
      · have h2 : (!r.nm) = false := h2
        refine oj_run TT rfl ?_
        (repeat refine oj_nil ?_)
        refine nj_set 65 (.a (.b (fitsR st n r))) rfl trivial (fun β => by unfold fitsR; rw [h1, h2]; rfl) ?_
        refine nj_again () trivial Nat.zero_lt_one rfl (by (repeat (first | exact trivial | refine And.intro rfl ?_))) (by (repeat (first | exact trivial | refine And.intro rfl ?_))) rfl (by (repeat' (first | exact trivial | exact Nat.le_of_ble_eq_true rfl | constructor))) (by (repeat' (first | exact trivial | exact Nat.le_of_ble_eq_true rfl | refine AllLt.of ?_ | constructor)))
  refine cj_if rfl (fun h => ?_) (fun h => ?_)
  · rw [h, if_pos rfl] at hf
    rw [← hf] at hp
    (repeat (first | refine cj_seq ?_ | (refine cj_region ?_; refine oj_run TT rfl ?_) | refine oj_then ?_ | refine oj_nil ?_ | refine cj_exit ?_ | refine nj_then ?_ | refine nj_then_exit ?_ | refine nj_block_out ?_ | refine nj_block_on rfl ?_ | (refine oj_add rfl rfl rfl rfl rfl rfl (by omega) ?_; refine oj_run TT rfl ?_)))
    refine nj_again (σ1, k + 1, m) ⟨Snap.le_trans hle hle1, hkl, hml, hp⟩ (by dsimp only; omega) rfl (by (repeat (first | exact trivial | refine And.intro rfl ?_))) (by (repeat (first | exact trivial | refine And.intro rfl ?_))) rfl (by (repeat' (first | exact trivial | constructor))) (by (repeat' exact trivial))
  · rw [h, if_neg (by simp)] at hf
    (repeat (first | (refine cj_region ?_; refine oj_run TT rfl ?_) | refine oj_nil ?_ | refine cj_skip ?_ | refine nj_then ?_ | refine nj_block ?_ | (refine oj_add rfl rfl rfl rfl rfl rfl (by omega) ?_; refine oj_run TT rfl ?_)))
    refine nj_again (n + 1) ⟨hnl, hf⟩ (by omega) rfl (by (repeat (first | exact trivial | refine And.intro rfl ?_))) (by (repeat (first | exact trivial | refine And.intro rfl ?_))) rfl (by (repeat' (first | exact trivial | exact Nat.le_of_ble_eq_true rfl | constructor))) (by (repeat' (first | exact trivial | exact Nat.le_of_ble_eq_true rfl | refine AllLt.of ?_ | constructor)))
end Go.Sy
/- Plain laws: what stands at a record's place, and the record that stands at a place. No program in sight. -/
namespace Go.Sy

/-! ### Kinds -/

mutual
def kinds : GVal → Prop
  | .mk k _ _ _ l ks vs => (l ≠ [] → k = 4) ∧ (ks ≠ [] → k = 5) ∧ kindss l ∧ kindss vs
def kindss : List GVal → Prop
  | [] => True
  | g :: gs => kinds g ∧ kindss gs
end
theorem kinds_eq (g : GVal) : kinds g ↔ (g.l ≠ [] → g.kind = 4) ∧ (g.ks ≠ [] → g.kind = 5) ∧ kindss g.l ∧ kindss g.vs := by cases g; simp only [kinds, GVal.l, GVal.kind, GVal.ks, GVal.vs]
theorem kindss_mem : ∀ {gs : List GVal} {g : GVal}, kindss gs → g ∈ gs → kinds g
  | _ :: _, _, h, hm => by
    cases hm with
    | head => exact h.1
    | tail _ hm => exact kindss_mem h.2 hm
mutual
theorem sane_kinds4 : ∀ (g : GVal) (deep c : Int), (saneG g deep c).1 = 0 → kinds g
  | .mk k b n s l ks vs, deep, c, h => by
    simp only [saneG] at h
    split at h
    · simp at h
    rename_i hf
    have hf : fieldsG (.mk k b n s l ks vs) = true := by simpa using hf
    obtain ⟨h1, h2⟩ := fields_kind hf
    simp only [GVal.l, GVal.ks, GVal.kind] at h1 h2
    split at h
    · simp at h
    split at h
    · simp at h
    split at h
    · simp at h
    simp only [kinds]
    have hl : (saneL l deep (c + 1)).1 = 0 := by
      by_cases h0 : (saneL l deep (c + 1)).1 = 0
      · exact h0
      · rw [if_pos h0] at h; exact h
    rw [if_neg (by simp [hl])] at h
    exact ⟨h1, h2, sane_kinds4s l _ _ hl, sane_kinds4s vs _ _ h⟩
theorem sane_kinds4s : ∀ (gs : List GVal) (deep c : Int), (saneL gs deep c).1 = 0 → kindss gs
  | [], _, _, _ => trivial
  | g :: gs, deep, c, h => by
    simp only [saneL] at h
    have hg : (saneG g (deep + 1) c).1 = 0 := by
      by_cases h0 : (saneG g (deep + 1) c).1 = 0
      · exact h0
      · rw [if_pos h0] at h; exact h
    rw [if_neg (by simp [hg])] at h
    exact ⟨sane_kinds4 g _ _ hg, sane_kinds4s gs _ _ h⟩
end
theorem its_kinds {g : GVal} {x : Itm} (h : g.wf) (hk : kinds g) (hx : x ∈ its g) : kinds x.v := by
  have h' := (kinds_eq g).1 hk
  rcases List.mem_append.1 (its_mem h hx) with hm | hm
  · exact kindss_mem h'.2.2.1 hm
  · exact kindss_mem h'.2.2.2 hm

/-! ### What stands at a place -/

theorem findG_first {α : Type} {q : α → Bool} : ∀ {l : List α} {k j : Nat} {x : α}, l[j]? = some x → q x = true → (∀ (i : Nat) y, i < j → l[i]? = some y → q y = false) → findG q l k = (k + j : Nat)
  | x :: l, k, 0, y, h, hq, _ => by
    simp only [List.getElem?_cons_zero, Option.some.injEq] at h
    subst h
    rw [findG, if_pos hq, Nat.add_zero]
  | x :: l, k, j + 1, y, h, hq, hn => by
    have h0 := hn 0 x (by omega) rfl
    rw [findG, h0, if_neg (by simp), findG_first (l := l) (k := k + 1) (j := j) (by simpa using h) hq fun i z hi hz => hn (i + 1) z (by omega) (by simpa using hz)]
    congr 1
    omega
  | [], _, _, _, h, _, _ => by simp at h

theorem its_split {g : GVal} {m : Nat} {x : Itm} (hx : (its g)[m]? = some x) : (x.nm = false ∧ m < g.l.length ∧ g.l[m]? = some x.v) ∨ (x.nm = true ∧ g.l.length ≤ m ∧ g.ks[m - g.l.length]? = some x.name ∧ g.vs[m - g.l.length]? = some x.v) := by
  have hl : (itsL g.l).length = g.l.length := by simp [itsL]
  unfold its at hx
  by_cases hm : m < g.l.length
  · rw [List.getElem?_append_left (by omega)] at hx
    simp only [itsL, List.getElem?_map, Option.map_eq_some_iff] at hx
    obtain ⟨y, h1, rfl⟩ := hx
    exact .inl ⟨rfl, hm, h1⟩
  · rw [List.getElem?_append_right (by omega), hl] at hx
    obtain ⟨h1, h2, h3⟩ := itsM_get _ _ _ _ hx
    exact .inr ⟨h1, by omega, h2, h3⟩

theorem stepV_its {g : GVal} (hk : keysOk g) (hd : kinds g) {m : Nat} {x : Itm} (hx : (its g)[m]? = some x) : stepV g (stepOf m x) = some x.v := by
  obtain ⟨k4, k5, -, -⟩ := (kinds_eq g).1 hd
  rcases its_split hx with ⟨h1, h2, h3⟩ | ⟨h1, h2, h3, h4⟩
  · have hk4 : g.kind = 4 := k4 (fun e => by rw [e] at h2; simp at h2)
    unfold stepV stepOf
    rw [h1, hk4]
    simp only [Bool.false_eq_true, if_false, if_true]
    rw [if_neg (by omega), if_pos (by omega), Int.toNat_natCast, h3]
  · have hk5 : g.kind = 5 := k5 (fun e => by rw [e] at h3; simp at h3)
    have hnd := (twice_nodup _ _ ((keysOk_eq g).1 hk).1).2
    have hlt := (List.getElem?_eq_some_iff.1 h3).1
    have hp : placeM g.ks x.name = (m - g.l.length : Nat) := by
      have := findG_first (q := fun k => decide (k = x.name)) (k := 0) h3 (by simp) fun i y hi hy => by
        have hne : y ≠ x.name := fun e => by
          have := (List.getElem?_inj (j := m - g.l.length) (i := i) (by omega) hnd).1 (by rw [hy, h3, e])
          omega
        simpa using hne
      rw [Nat.zero_add] at this
      exact this
    unfold stepV stepOf
    rw [h1]
    simp only [if_true]
    unfold getG
    rw [if_pos hk5, hp, if_neg (by omega), Int.toNat_natCast, h4]

theorem sub_at {gap : Int} {g : GVal} {p : Nat} {now : Int} {P : List GStep} {h : GVal} {q : Nat} {a : Int} (hs : Sub gap g p now P h q a) : g.wf → keysOk g → kinds g → atV g P = some h := by
  induction hs with
  | refl => intro _ _ _; rfl
  | @step g p now m x P h q a hx hs ih =>
    intro hw hk hd
    have hm := List.mem_of_getElem? hx
    rw [atV, stepV_its hk hd hx, Option.bind_some]
    exact ih (its_wf hw hm) (its_keys hw hk hm) (its_kinds hw hd hm)

/-! ### The record at a place -/

theorem Loc.kid_rec {gap : Int} (hg : 0 < gap) {L : List GRec} {g : GVal} {p : Nat} {now : Int} {pre : List GStep} (h : Loc gap L g p now pre) {m : Nat} {x : Itm} (hx : (its g)[m]? = some x) :
    ∃ r, L[p + 1 + cntI ((its g).take m)]? = some r ∧ r.nm = x.nm ∧ r.name = x.name := by
  obtain ⟨h1, h2⟩ := h.kid hg hx
  obtain ⟨nm, name, h3⟩ := h1.rec_
  have h4 := h1.place (p + 1 + cntI ((its g).take m) + 1) (by omega)
  unfold upF at h4
  rw [h2, if_neg (by omega), List.reverse_append] at h4
  have h5 : stepG L (p + 1 + cntI ((its g).take m)) ((p : Int).toNat) = stepOf m x := (List.cons.inj h4).1
  unfold stepG stepOf at h5
  rw [h3] at h5
  dsimp only at h5
  injection h5 with h6 h7 h8
  exact ⟨_, h3, h8, h6⟩

theorem firstR_at {L : List GRec} {s : GStep} : ∀ {ks : List Nat} {n m q : Nat} {r : GRec}, (∀ (j k : Nat), j < m → ks[j]? = some k → ∃ r, L[k]? = some r ∧ fitsR s (n + j) r = false) → ks[m]? = some q → L[q]? = some r → fitsR s (n + m) r = true →
    firstR L s ks n = some q
  | k :: ks, n, 0, q, r, _, h1, h2, h3 => by
    simp only [List.getElem?_cons_zero, Option.some.injEq] at h1
    subst h1
    unfold firstR
    rw [h2]
    dsimp only
    rw [Nat.add_zero] at h3
    rw [if_pos h3]
  | k :: ks, n, m + 1, q, r, h, h1, h2, h3 => by
    obtain ⟨r0, a1, a2⟩ := h 0 k (by omega) rfl
    unfold firstR
    rw [a1]
    dsimp only
    rw [Nat.add_zero] at a2
    rw [a2, if_neg (by simp)]
    refine firstR_at (m := m) (fun j k' hj hk' => ?_) (by simpa using h1) h2 (by rw [show n + 1 + m = n + (m + 1) by omega]; exact h3)
    have := h (j + 1) k' (by omega) (by simpa using hk')
    rw [show n + (j + 1) = n + 1 + j by omega] at this
    exact this
  | [], _, _, _, _, _, h1, _, _ => by simp at h1

theorem Loc.kid_pos {gap : Int} (hg : 0 < gap) {L : List GRec} {g : GVal} {p : Nat} {now : Int} {pre : List GStep} (h : Loc gap L g p now pre) {m : Nat} (hm : m < (its g).length) : (kidsG L p)[m]? = some (p + 1 + cntI ((its g).take m)) := by
  rw [h.kids hg, ← vals_its h.wf, pos_get _ _ _ (by simpa [valsI] using hm)]
  unfold cntI valsI
  rw [List.map_take]

theorem fits_self (m : Nat) (x : Itm) {r : GRec} (h1 : r.nm = x.nm) (h2 : r.name = x.name) : fitsR (stepOf m x) m r = true := by
  unfold fitsR stepOf
  rw [h1, h2]
  cases x.nm <;> simp
theorem fits_other {g : GVal} (hk : keysOk g) {j m : Nat} {x y : Itm} (hx : (its g)[m]? = some x) (hy : (its g)[j]? = some y) (hne : j ≠ m) {r : GRec} (h1 : r.nm = y.nm) (h2 : r.name = y.name) : fitsR (stepOf m x) j r = false := by
  have hst : stepOf j y ≠ stepOf m x := fun e => hne (stepOf_inj hk hy hx e)
  unfold fitsR stepOf at *
  rw [h1, h2]
  cases hxn : x.nm <;> cases hyn : y.nm <;> simp_all
  · omega

theorem loc_find {gap : Int} (hg : 0 < gap) {L : List GRec} {g : GVal} {p : Nat} {now : Int} {P : List GStep} {h : GVal} {q : Nat} {a : Int} (hs : Sub gap g p now P h q a) : ∀ {pre : List GStep}, Loc gap L g p now pre → findR L p P = q := by
  induction hs with
  | refl => intro pre _; rfl
  | @step g p now m x P h q a hx hs ih =>
    intro pre hl
    have hlt := (List.getElem?_eq_some_iff.1 hx).1
    obtain ⟨r, h1, h2, h3⟩ := hl.kid_rec hg hx
    have hf : firstR L (stepOf m x) (kidsG L p) 0 = some (p + 1 + cntI ((its g).take m)) := by
      refine firstR_at (m := m) (fun j k hj hk => ?_) (hl.kid_pos hg hlt) h1 (by rw [Nat.zero_add]; exact fits_self m x h2 h3)
      have hy : (its g)[j]? = some ((its g)[j]'(by omega)) := List.getElem?_eq_getElem _
      obtain ⟨r', a1, a2, a3⟩ := hl.kid_rec hg hy
      rw [hl.kid_pos hg (by omega)] at hk
      obtain rfl := Option.some.inj hk
      exact ⟨r', a1, by rw [Nat.zero_add]; exact fits_other hl.keys hx hy (by omega) a2 a3⟩
    rw [findR, hf]
    exact ih (hl.kid hg hx).1

/-! ### The last one in a record -/

theorem Loc.last {gap : Int} (hg : 0 < gap) {L : List GRec} {g : GVal} {p : Nat} {now : Int} {pre : List GStep} (h : Loc gap L g p now pre) : lastG L p = p + cntV g - 1 := by
  obtain ⟨nm, name, rest, h1, hfr⟩ := h.at_
  obtain ⟨nm', name', hr⟩ := h.rec_
  have h2 := congrArg (List.map se) h1
  rw [List.map_drop, List.map_append, (shredV_sk gap g _ nm name now h.wf).1, skV_eq, List.cons_append] at h2
  obtain ⟨-, h4⟩ := drop_at h2
  have hce := cntV_eq g
  have hwe := wV_eq gap g
  have hrun : runP (now + wV gap g) ((L.map se).drop (p + 1)) = cntL (g.l ++ g.vs) := by
    rw [h4, runP_block hfr _ (fun x hx => by have := skL_bd hg _ _ x hx; omega), skL_len]
  unfold lastG runK
  rw [hr]
  show ((p + 1 + runL (now + wV gap g) (L.drop (p + 1)) : Nat) : Int) - 1 = _
  rw [runL_se, List.map_drop, hrun, cntL_append]
  omega

theorem sub_weight {gap : Int} {g : GVal} {p : Nat} {now : Int} {P : List GStep} {h : GVal} {q : Nat} {a : Int} (hs : Sub gap g p now P h q a) : g.wf → h.weight ≤ g.weight := by
  induction hs with
  | refl => intro _; exact Nat.le_refl _
  | @step g p now m x P h q a hx hs ih =>
    intro hw
    have hm := List.mem_of_getElem? hx
    exact Nat.le_trans (ih (its_wf hw hm)) (Nat.le_of_lt (in_weight (its_mem hw hm)))

/-- WHAT IS SAID OF EACH RECORD'S PLACE. -/
theorem shred_places {gap : Int} (hg : 0 < gap) {g : GVal} {nm : Bool} {name : ByteArray} (hw : g.wf) (hk : keysOk g) (hd : kinds g) {L : List GRec} (hL : L = (shredV gap g 0 nm name 0).1) {a : Nat} (ha : a < cntV g) {r : GRec} (hr : L[a]? = some r) :
    ∃ h : GVal, atV g (placeG L a) = some h ∧ h.weight ≤ g.weight ∧ h.wf ∧ h.kind = r.kd ∧ h.s = r.s ∧ h.n = r.n ∧ h.b = r.b ∧ findR L 0 (placeG L a) = a ∧ (kidsG L a).length = h.l.length + h.vs.length ∧
      (∀ (m k : Nat), (kidsG L a)[m]? = some k → parentG L k = a ∧ k < cntV g) ∧ lastG L a = a + cntV h - 1 ∧ ((kidsG L a).length = 0 → cntV h = 1) ∧
      (∀ k, (kidsG L a)[(kidsG L a).length - 1]? = some k → lastG L k = lastG L a) := by
  subst hL
  obtain ⟨h, s, hs, hl⟩ := shred_loc hg (nm := nm) (name := name) hw hk ha
  obtain ⟨nx, mx, ex⟩ := hl.rec_
  rw [hr] at ex
  have ex := Option.some.inj ex
  have hlen : (kidsG (shredV gap g 0 nm name 0).1 a).length = (its h).length := by
    rw [hl.kids hg, ← vals_its hl.wf]
    have : ∀ (gs : List GVal) (p : Nat), (pos gs p).length = gs.length := by
      intro gs
      induction gs with
      | nil => intro p; rfl
      | cons g gs ih => intro p; simp [pos, ih]
    rw [this]
    simp [valsI]
  have hlv : (its h).length = h.l.length + h.vs.length := by
    have := congrArg List.length (vals_its hl.wf)
    simpa [valsI] using this
  have hcv := cntI_its hl.wf
  have hcnt := shredV_cnt gap g 0 nm name 0 hw
  have hkid : ∀ (m k : Nat), (kidsG (shredV gap g 0 nm name 0).1 a)[m]? = some k → ∃ x, (its h)[m]? = some x ∧ k = a + 1 + cntI ((its h).take m) := by
    intro m k hk'
    have hm : m < (its h).length := by
      have := (List.getElem?_eq_some_iff.1 hk').1
      omega
    rw [hl.kid_pos hg hm] at hk'
    exact ⟨(its h)[m], List.getElem?_eq_getElem hm, (Option.some.inj hk').symm⟩
  subst ex
  refine ⟨h, sub_at hs hw hk hd, sub_weight hs hw, hl.wf, rfl, rfl, rfl, rfl, loc_find hg hs (loc_root hw hk), by rw [hlen, hlv], fun m k hk' => ?_, hl.last hg, fun h0 => ?_, fun k hk' => ?_⟩
  · obtain ⟨x, hx, rfl⟩ := hkid m k hk'
    obtain ⟨b1, b2⟩ := hl.kid hg hx
    obtain ⟨_, _, b3⟩ := b1.rec_
    have := (List.getElem?_eq_some_iff.1 b3).1
    exact ⟨b2, by omega⟩
  · rw [hlen] at h0
    have : its h = [] := List.eq_nil_of_length_eq_zero h0
    rw [this] at hcv
    rw [hcv]
    rfl
  · obtain ⟨x, hx, rfl⟩ := hkid _ k hk'
    rw [(hl.kid hg hx).1.last hg, hl.last hg]
    have hsp := cntI_split hx
    have hlt := (List.getElem?_eq_some_iff.1 hx).1
    rw [hlen] at hsp hlt ⊢
    rw [List.drop_eq_nil_of_le (by omega : (its h).length ≤ (its h).length - 1 + 1)] at hsp
    have : cntI [] = 0 := rfl
    omega
end Go.Sy
/- Plain laws: counts of lines; single patterns; paths of records. No program in sight. -/
namespace Go.Sy

/-! ### Each line counts the records of its path -/

/-- What is counted after the paths ps. -/
structure CInv (ps : List SRow) (s : GSt) : Prop where
  inv : GInv s
  len : s.ids.length = ps.length
  cnt : ∀ (j : Nat) x, s.xs[j]? = some x → x.cnt = s.ids.count (j : Int)
  st : ∀ (k : Nat) (d : Int), s.ids[k]? = some d → ∃ (j : Nat) (x : GLine) (p : SRow), d = j ∧ s.xs[j]? = some x ∧ ps[k]? = some p ∧ x.st = p.ss
  ne : ∀ (j : Nat) x, s.xs[j]? = some x → ∃ p ∈ ps, x.st = p.ss

theorem cinv_step {ps : List SRow} {s : GSt} (h : CInv ps s) (p : SRow) : CInv (ps ++ [p]) (addOne s p) := by
  have hbd := lineG_bd s.xs p.ss
  have hold : ∀ (k : Nat) (d : Int), s.ids[k]? = some d → k < ps.length := fun k d hk => by
    have := (List.getElem?_eq_some_iff.1 hk).1
    rw [h.len] at this
    exact this
  by_cases hn : lineG s.xs p.ss < 0
  · obtain ⟨hinv, -, -⟩ := addOne_spec h.inv p
    rw [addOne_new hn] at hinv ⊢
    refine ⟨hinv, by simp [h.len], fun j x hx => ?_, fun k d hk => ?_, fun j x hx => ?_⟩
    · dsimp only at hx ⊢
      rw [List.count_append, List.count_singleton, h.inv.next]
      by_cases hj : j < s.xs.length
      · rw [List.getElem?_append_left hj] at hx
        have hc := h.cnt j x hx
        rw [hc, if_neg (by simp; omega)]
        omega
      · rw [List.getElem?_append_right (by omega)] at hx
        have hj0 : j - s.xs.length = 0 := by
          have := (List.getElem?_eq_some_iff.1 hx).1
          simpa using this
        rw [hj0] at hx
        simp only [List.getElem?_cons_zero, Option.some.injEq] at hx
        subst hx
        have hjl : j = s.xs.length := by omega
        subst hjl
        have h0 : s.ids.count (s.xs.length : Int) = 0 := by
          rw [List.count_eq_zero]
          intro hm
          obtain ⟨k, hk⟩ := List.mem_iff_getElem?.1 hm
          obtain ⟨j, x, p, e, hx, -, -⟩ := h.st k _ hk
          have := (List.getElem?_eq_some_iff.1 hx).1
          omega
        rw [h0, if_pos (by simp)]
        rfl
    · dsimp only at hk ⊢
      by_cases hkl : k < s.ids.length
      · rw [List.getElem?_append_left hkl] at hk
        obtain ⟨j, x, q, e, hx, hq, hst⟩ := h.st k d hk
        have hjl := (List.getElem?_eq_some_iff.1 hx).1
        exact ⟨j, x, q, e, by rw [List.getElem?_append_left hjl]; exact hx, by rw [List.getElem?_append_left (hold k d hk)]; exact hq, hst⟩
      · rw [List.getElem?_append_right (by omega)] at hk
        have hk0 : k - s.ids.length = 0 := by
          have := (List.getElem?_eq_some_iff.1 hk).1
          simpa using this
        rw [hk0] at hk
        simp only [List.getElem?_cons_zero, Option.some.injEq] at hk
        have hkk : k = ps.length := by have := h.len; omega
        subst hkk
        exact ⟨s.xs.length, (newLn s.next p).more, p, by rw [← hk, h.inv.next], by simp, by simp, rfl⟩
    · dsimp only at hx
      by_cases hj : j < s.xs.length
      · rw [List.getElem?_append_left hj] at hx
        obtain ⟨q, hq, e⟩ := h.ne j x hx
        exact ⟨q, List.mem_append_left _ hq, e⟩
      · rw [List.getElem?_append_right (by omega)] at hx
        have := List.mem_of_getElem? hx
        rw [List.mem_singleton] at this
        subst this
        exact ⟨p, by simp, rfl⟩
  · obtain ⟨j0, hj0⟩ : ∃ j : Nat, lineG s.xs p.ss = j := ⟨(lineG s.xs p.ss).toNat, by omega⟩
    obtain ⟨x0, hx0, hst0⟩ := lineG_at hj0
    have hlt := (List.getElem?_eq_some_iff.1 hx0).1
    obtain ⟨hinv, -, -⟩ := addOne_spec h.inv p
    rw [addOne_old hj0 hx0] at hinv ⊢
    have hid := (h.inv.at_ j0 x0 hx0).1
    have hself : (s.xs.set j0 x0.more)[j0]? = some x0.more := by rw [List.getElem?_set, if_pos rfl, if_pos hlt]
    refine ⟨hinv, by simp [h.len], fun j x hx => ?_, fun k d hk => ?_, fun j x hx => ?_⟩
    · dsimp only at hx ⊢
      rw [List.count_append, List.count_singleton, hid]
      by_cases hij : j0 = j
      · subst hij
        rw [hself] at hx
        obtain rfl := Option.some.inj hx
        have hc := h.cnt j0 x0 hx0
        show x0.cnt + 1 = _
        rw [hc, if_pos (by simp)]
        omega
      · rw [List.getElem?_set, if_neg hij] at hx
        rw [h.cnt j x hx, if_neg (by simp; omega)]
        omega
    · dsimp only at hk ⊢
      by_cases hkl : k < s.ids.length
      · rw [List.getElem?_append_left hkl] at hk
        obtain ⟨j, x, q, e, hx, hq, hst⟩ := h.st k d hk
        by_cases hij : j0 = j
        · subst hij
          rw [hx0] at hx
          obtain rfl := Option.some.inj hx
          exact ⟨j0, x0.more, q, e, hself, by rw [List.getElem?_append_left (hold k d hk)]; exact hq, hst⟩
        · exact ⟨j, x, q, e, by rw [List.getElem?_set, if_neg hij]; exact hx, by rw [List.getElem?_append_left (hold k d hk)]; exact hq, hst⟩
      · rw [List.getElem?_append_right (by omega)] at hk
        have hk0 : k - s.ids.length = 0 := by
          have := (List.getElem?_eq_some_iff.1 hk).1
          simpa using this
        rw [hk0] at hk
        simp only [List.getElem?_cons_zero, Option.some.injEq] at hk
        have hkk : k = ps.length := by have := h.len; omega
        subst hkk
        exact ⟨j0, x0.more, p, by rw [← hk, hid], hself, by simp, hst0⟩
    · dsimp only at hx
      by_cases hij : j0 = j
      · subst hij
        rw [hself] at hx
        obtain rfl := Option.some.inj hx
        exact ⟨p, by simp, hst0⟩
      · rw [List.getElem?_set, if_neg hij] at hx
        obtain ⟨q, hq, e⟩ := h.ne j x hx
        exact ⟨q, List.mem_append_left _ hq, e⟩

theorem cinv_all : ∀ (qs ps : List SRow) {s : GSt}, CInv ps s → CInv (ps ++ qs) (addAll s qs)
  | [], ps, s, h => by rw [List.append_nil]; exact h
  | q :: qs, ps, s, h => by
    have := cinv_all qs (ps ++ [q]) (cinv_step h q)
    rw [List.append_assoc] at this
    exact this
theorem cinv_adds (ps : List SRow) : CInv ps (addAll ⟨[], 0, []⟩ ps) := by
  have := cinv_all ps [] (s := ⟨[], 0, []⟩) ⟨inv0, rfl, fun j x h => by simp at h, fun k d h => by simp at h, fun j x h => by simp at h⟩
  exact this

/-- How many of the numbers are below m. -/
def cntUpto (ids : List Int) : Nat → Nat
  | 0 => 0
  | m + 1 => cntUpto ids m + ids.count (m : Int)
theorem cntUpto_all (ids : List Int) (m : Nat) (h : ∀ d ∈ ids, 0 ≤ d ∧ d < (m : Int)) : cntUpto ids m = ids.length := by
  induction ids with
  | nil =>
    clear h
    induction m with
    | zero => rfl
    | succ m ih => rw [cntUpto, ih]; rfl
  | cons d ids ih =>
    have key : ∀ (m : Nat), cntUpto (d :: ids) m = cntUpto ids m + (if 0 ≤ d ∧ d < (m : Int) then 1 else 0) := by
      intro m
      induction m with
      | zero =>
        rw [if_neg (by omega)]
        rfl
      | succ m ihm =>
        rw [cntUpto, cntUpto, ihm, List.count_cons]
        by_cases hd : d = m
        · rw [if_neg (by omega), if_pos (by simpa using hd), if_pos (by omega)]
          omega
        · rw [if_neg (show ¬ (d == (m : Int)) = true by simpa using hd)]
          by_cases he : 0 ≤ d ∧ d < (m : Int)
          · rw [if_pos he, if_pos (by omega)]
            omega
          · rw [if_neg he, if_neg (by omega)]
            omega
    rw [key m, ih fun x hx => h x (List.mem_cons_of_mem _ hx), if_pos (h d List.mem_cons_self)]
    rfl

/-! ### Patterns of one -/

theorem prefix_dot (k : ByteArray) : dotS ++ k ≠ elemS := by
  intro h
  have h1 := congrArg (fun s : ByteArray => s.data.toList.head?) h
  have h2 : (dotS ++ k).data.toList = 46 :: k.data.toList := by
    rw [ByteArray.data_append, Array.toList_append]
    rfl
  rw [h2, List.head?_cons, show elemS.data.toList.head? = some 91 by decide] at h1
  exact absurd (Option.some.inj h1) (by decide)

def deepP : GPat := ⟨4, emptyS⟩
def anyP : GPat := ⟨2, emptyS⟩
def eachP : GPat := ⟨3, emptyS⟩

theorem run_deep : ∀ (ss : List ByteArray), runV [deepP] ss = [true, true] := by
  have h0 : startV [deepP] = [true, true] := rfl
  have h1 : ∀ s, deepV [deepP] (nextV [deepP] [true, true] s) = [true, true] := fun s => rfl
  have : ∀ (ss : List ByteArray), ss.foldl (fun V s => deepV [deepP] (nextV [deepP] V s)) [true, true] = [true, true] := by
    intro ss
    induction ss with
    | nil => rfl
    | cons s ss ih => rw [List.foldl_cons, h1, ih]
  intro ss
  unfold runV
  rw [h0, this]
theorem match_deep (ss : List ByteArray) : matchG ss [deepP] = true := by unfold matchG; rw [run_deep]; rfl

theorem match_one (p : GPat) (hp : p.what ≠ 4) : ∀ ss : List ByteArray, matchG ss [p] = match ss with | [s] => fitsP p s | _ => false := by
  have h0 : startV [p] = [true, false] := by
    unfold startV deepV
    simp [List.range_succ, deepAt, hp]
  have h1 : ∀ (a b : Bool) (s : ByteArray), deepV [p] (nextV [p] [a, b] s) = [false, a && fitsP p s] := by
    intro a b s
    unfold deepV nextV
    simp only [List.length_singleton, List.range_succ, List.range_zero, List.nil_append, List.foldl_cons, List.foldl_nil, deepAt, patAt, List.getElem?_cons_zero, hp, if_false]
    cases a
    · rfl
    · cases hf : fitsP p s <;> simp
  intro ss
  unfold matchG runV
  rw [h0]
  match ss with
  | [] => rfl
  | [s] =>
    simp only [List.foldl_cons, List.foldl_nil, h1]
    rfl
  | s :: s' :: ss =>
    simp only [List.foldl_cons, h1]
    have : ∀ (ss : List ByteArray), ss.foldl (fun V s => deepV [p] (nextV [p] V s)) [false, false] = [false, false] := by
      intro ss
      induction ss with
      | nil => rfl
      | cons s ss ih => rw [List.foldl_cons, h1, Bool.false_and, ih]
    rw [Bool.false_and, this]
    rfl

theorem allG_len_le {q r : Nat → GLine → Bool} (h : ∀ k x, q k x = true → r k x = true) : ∀ (l : List GLine) (k : Nat), (allG q l k).length ≤ (allG r l k).length
  | [], _ => Nat.le_refl _
  | x :: l, k => by
    have ih := allG_len_le h l (k + 1)
    unfold allG
    by_cases hq : q k x = true
    · rw [if_pos hq, if_pos (h k x hq), List.length_cons, List.length_cons]
      omega
    · rw [if_neg hq]
      split
      · rw [List.length_cons]; omega
      · exact ih
theorem allG_full {q : Nat → GLine → Bool} : ∀ (l : List GLine) (k : Nat), (∀ (j : Nat) x, l[j]? = some x → q (k + j) x = true) → (allG q l k).length = l.length
  | [], _, _ => rfl
  | x :: l, k, h => by
    unfold allG
    rw [if_pos (show q k x = true from h 0 x rfl), List.length_cons, List.length_cons, allG_full l (k + 1) fun j y hy => by
      have := h (j + 1) y (by simpa using hy)
      rw [show k + (j + 1) = k + 1 + j by omega] at this
      exact this]
theorem allG_pos {q : Nat → GLine → Bool} : ∀ (l : List GLine) (k : Nat), 0 < (allG q l k).length ↔ ∃ (j : Nat) (x : GLine), l[j]? = some x ∧ q (k + j) x = true
  | [], _ => by simp [allG]
  | x :: l, k => by
    unfold allG
    by_cases hq : q k x = true
    · rw [if_pos hq]
      exact ⟨fun _ => ⟨0, x, rfl, hq⟩, fun _ => by rw [List.length_cons]; omega⟩
    · rw [if_neg hq, allG_pos l (k + 1)]
      constructor
      · rintro ⟨j, y, h1, h2⟩
        exact ⟨j + 1, y, by simpa using h1, by rw [show k + (j + 1) = k + 1 + j by omega]; exact h2⟩
      · rintro ⟨j, y, h1, h2⟩
        cases j with
        | zero =>
          simp only [List.getElem?_cons_zero, Option.some.injEq] at h1
          subst h1
          exact absurd h2 hq
        | succ j => exact ⟨j, y, by simpa using h1, by rw [show k + 1 + j = k + (j + 1) by omega]; exact h2⟩

/-! ### Paths of records -/

theorem pathsF_len : ∀ (L : List GRec) (way : List ByteArray), (pathsF way L).length = L.length
  | [], _ => rfl
  | r :: l, way => by rw [pathsF, List.length_cons, List.length_cons, pathsF_len l]

/-- A path is just '[]' where its record stands at the first level, and is an element. -/
theorem pathStep_elem {way : List ByteArray} {r : GRec} (h0 : 0 ≤ r.lv) (h1 : r.lv ≤ way.length + 1) : pathStep way r = [elemS] ↔ r.lv = 1 ∧ r.nm = false := by
  unfold pathStep
  have hl : (way.take (r.lv - 1).toNat).length = (r.lv - 1).toNat := by rw [List.length_take]; omega
  cases hn : r.nm with
  | true =>
    refine ⟨fun h => ?_, fun h => (by cases h.2)⟩
    rw [if_pos rfl] at h
    have h2 := congrArg List.getLast? h
    rw [List.getLast?_append] at h2
    exact absurd (Option.some.inj h2) (prefix_dot r.name)
  | false =>
    rw [if_neg (by simp)]
    by_cases hp : 0 < r.lv
    · rw [if_pos hp]
      constructor
      · intro h
        have := congrArg List.length h
        rw [List.length_append, hl] at this
        simp at this
        exact ⟨by omega, rfl⟩
      · rintro ⟨h, -⟩
        rw [h]
        rfl
    · rw [if_neg hp, List.append_nil]
      refine ⟨fun h => ?_, fun h => by omega⟩
      have := congrArg List.length h
      rw [hl] at this
      simp at this
      omega
theorem pathStep_len {way : List ByteArray} {r : GRec} (h0 : 0 ≤ r.lv) (h1 : r.lv ≤ way.length + 1) : r.lv.toNat ≤ (pathStep way r).length := by
  unfold pathStep
  rw [List.length_append, List.length_take]
  split
  · rw [List.length_singleton]; omega
  · split
    · rw [List.length_singleton]; omega
    · rw [List.length_nil]; omega

theorem paths_elem : ∀ (L : List GRec) (way : List ByteArray), levelsOk (way.length + 1) L → (elemS ∈ (pathsF way L).filterMap (fun p => match p with | [s] => some s | _ => none) ↔ ∃ r ∈ L, r.lv = 1 ∧ r.nm = false)
  | [], _, _ => by simp [pathsF]
  | r :: l, way, ⟨h1, h2, h3⟩ => by
    have h2' : r.lv ≤ way.length + 1 := by omega
    have ih := paths_elem l (pathStep way r) (h3.mono (by have := pathStep_len h1 h2'; omega))
    have he := pathStep_elem h1 h2'
    rw [pathsF, List.filterMap_cons]
    have hm : (match pathStep way r with | [s] => some s | _ => none) = some elemS ↔ pathStep way r = [elemS] := by
      match hp : pathStep way r with
      | [] => simp
      | [s] => simp
      | _ :: _ :: _ => simp
    constructor
    · intro h
      by_cases hx : pathStep way r = [elemS]
      · exact ⟨r, List.mem_cons_self, he.1 hx⟩
      · have : elemS ∈ (pathsF (pathStep way r) l).filterMap (fun p => match p with | [s] => some s | _ => none) := by
          split at h
          · exact h
          · rename_i s hs
            cases h with
            | head => exact absurd (hm.1 hs) hx
            | tail _ h => exact h
        obtain ⟨r', a, b⟩ := ih.1 this
        exact ⟨r', List.mem_cons_of_mem _ a, b⟩
    · rintro ⟨r', hr, hb⟩
      cases hr with
      | head =>
        rw [hm.2 (he.2 hb)]
        exact List.mem_cons_self
      | tail _ hr =>
        have := ih.2 ⟨r', hr, hb⟩
        split
        · exact this
        · exact List.mem_cons_of_mem _ this
end Go.Sy
