/- Parts of the proof of CShredIs: Ld, SyV, F33, Lf, Lj, Lk, SyW, Ll, F44, F49, Lm, Ln, F66. No conditions. -/
import Derived.Test.YtadnijcgohflhaaDoorM7
import Derived.Scope
/- Plain laws on the places of a value's records. No program in sight. -/
namespace Go.Sy

/-! ### Keys -/

mutual
/-- No two members of one key, at any depth. -/
def keysOk : GVal → Prop
  | .mk _ _ _ _ l ks vs => twiceG ks = false ∧ keysOks l ∧ keysOks vs
def keysOks : List GVal → Prop
  | [] => True
  | g :: gs => keysOk g ∧ keysOks gs
end

mutual
theorem sane_keys : ∀ (g : GVal) (deep c : Int), (saneG g deep c).1 = 0 → keysOk g
  | .mk k b n s l ks vs, deep, c, h => by
    simp only [saneG] at h
    split at h
    · simp at h
    split at h
    · simp at h
    rename_i ht
    split at h
    · simp at h
    split at h
    · simp at h
    simp only [keysOk]
    have hl : (saneL l deep (c + 1)).1 = 0 := by
      by_cases h0 : (saneL l deep (c + 1)).1 = 0
      · exact h0
      · rw [if_pos h0] at h; exact h
    rw [if_neg (by simp [hl])] at h
    exact ⟨by simpa using ht, sane_keyss l _ _ hl, sane_keyss vs _ _ h⟩
theorem sane_keyss : ∀ (gs : List GVal) (deep c : Int), (saneL gs deep c).1 = 0 → keysOks gs
  | [], _, _, _ => trivial
  | g :: gs, deep, c, h => by
    simp only [saneL] at h
    have hg : (saneG g (deep + 1) c).1 = 0 := by
      by_cases h0 : (saneG g (deep + 1) c).1 = 0
      · exact h0
      · rw [if_pos h0] at h; exact h
    rw [if_neg (by simp [hg])] at h
    exact ⟨sane_keys g _ _ hg, sane_keyss gs _ _ h⟩
end
theorem keysOks_mem : ∀ {gs : List GVal} {g : GVal}, keysOks gs → g ∈ gs → keysOk g
  | _ :: _, _, h, hm => by
    cases hm with
    | head => exact h.1
    | tail _ hm => exact keysOks_mem h.2 hm
theorem wfs_mem : ∀ {gs : List GVal} {g : GVal}, GVal.wfs gs → g ∈ gs → g.wf
  | _ :: _, _, h, hm => by
    simp only [GVal.wfs] at h
    cases hm with
    | head => exact h.1
    | tail _ hm => exact wfs_mem h.2 hm

theorem twice_nodup : ∀ (ks met : List ByteArray), twiceFrom met ks = false → (∀ k ∈ ks, k ∉ met) ∧ ks.Nodup
  | [], _, _ => ⟨fun _ h => (by cases h), List.nodup_nil⟩
  | k :: ks, met, h => by
    rw [twiceFrom] at h
    split at h
    · cases h
    rename_i hk
    obtain ⟨h1, h2⟩ := twice_nodup ks _ h
    refine ⟨fun x hx => ?_, ?_⟩
    · cases hx with
      | head => exact fun hm => hk (hasKey_iff.2 hm)
      | tail _ hx => exact fun hm => h1 x hx (List.mem_append_left _ hm)
    · refine List.nodup_cons.2 ⟨fun hm => h1 k hm (List.mem_append_right _ List.mem_cons_self), h2⟩

/-! ### What stands in a value -/

structure Itm where
  nm : Bool
  name : ByteArray
  v : GVal

def itsL (l : List GVal) : List Itm := l.map fun g => ⟨false, emptyS, g⟩
def itsM : List GVal → List ByteArray → List Itm
  | g :: gs, k :: ks => ⟨true, k, g⟩ :: itsM gs ks
  | _, _ => []
def its (g : GVal) : List Itm := itsL g.l ++ itsM g.vs g.ks
def valsI (xs : List Itm) : List GVal := xs.map Itm.v
theorem valsI_L (l : List GVal) : valsI (itsL l) = l := by simp [valsI, itsL, Function.comp_def]
theorem itsM_len : ∀ (vs : List GVal) (ks : List ByteArray), ks.length = vs.length → (itsM vs ks).length = vs.length ∧ valsI (itsM vs ks) = vs
  | [], [], _ => ⟨rfl, rfl⟩
  | g :: gs, k :: ks, h => by
    obtain ⟨h1, h2⟩ := itsM_len gs ks (by simpa using h)
    exact ⟨by simp [itsM, h1], by simp only [valsI, itsM, List.map_cons] at h2 ⊢; rw [h2]⟩
  | [], _ :: _, h => by simp at h
  | _ :: _, [], h => by simp at h
theorem itsM_get : ∀ (vs : List GVal) (ks : List ByteArray) (m : Nat) (x : Itm), (itsM vs ks)[m]? = some x → x.nm = true ∧ ks[m]? = some x.name ∧ vs[m]? = some x.v
  | [], ks, m, x, h => by cases ks <;> simp [itsM] at h
  | g :: gs, [], m, x, h => by simp [itsM] at h
  | g :: gs, k :: ks, 0, x, h => by simp only [itsM, List.getElem?_cons_zero, Option.some.injEq] at h; subst h; exact ⟨rfl, rfl, rfl⟩
  | g :: gs, k :: ks, m + 1, x, h => by
    simp only [itsM, List.getElem?_cons_succ] at h ⊢
    exact itsM_get gs ks m x h
theorem wf_eq (g : GVal) : g.wf ↔ g.ks.length = g.vs.length ∧ GVal.wfs g.l ∧ GVal.wfs g.vs := by cases g; simp only [GVal.wf, GVal.ks, GVal.vs, GVal.l]
theorem keysOk_eq (g : GVal) : keysOk g ↔ twiceG g.ks = false ∧ keysOks g.l ∧ keysOks g.vs := by cases g; simp only [keysOk, GVal.ks, GVal.vs, GVal.l]
theorem vals_its {g : GVal} (h : g.wf) : valsI (its g) = g.l ++ g.vs := by
  have h1 := (itsM_len g.vs g.ks ((wf_eq g).1 h).1).2
  have h0 := valsI_L g.l
  unfold valsI at h0 h1 ⊢
  rw [its, List.map_append, h0, h1]
theorem its_mem {g : GVal} {x : Itm} (h : g.wf) (hx : x ∈ its g) : x.v ∈ g.l ++ g.vs := by
  rw [← vals_its h]
  exact List.mem_map.2 ⟨x, hx, rfl⟩
theorem its_wf {g : GVal} {x : Itm} (h : g.wf) (hx : x ∈ its g) : x.v.wf := by
  have h' := (wf_eq g).1 h
  rcases List.mem_append.1 (its_mem h hx) with hm | hm
  · exact wfs_mem h'.2.1 hm
  · exact wfs_mem h'.2.2 hm
theorem its_keys {g : GVal} {x : Itm} (h : g.wf) (hk : keysOk g) (hx : x ∈ its g) : keysOk x.v := by
  have h' := (keysOk_eq g).1 hk
  rcases List.mem_append.1 (its_mem h hx) with hm | hm
  · exact keysOks_mem h'.2.1 hm
  · exact keysOks_mem h'.2.2 hm
/-- The step to what stands at m. -/
def stepOf (m : Nat) (x : Itm) : GStep := ⟨x.name, if x.nm then 0 else m, x.nm⟩

theorem stepOf_inj {g : GVal} (hk : keysOk g) {m n : Nat} {x y : Itm} (hx : (its g)[m]? = some x) (hy : (its g)[n]? = some y) (h : stepOf m x = stepOf n y) : m = n := by
  unfold stepOf at h
  injection h with h1 h2 h3
  cases hnx : x.nm with
  | false =>
    rw [hnx] at h2 h3
    rw [← h3] at h2
    simp at h2
    omega
  | true =>
    rw [hnx] at h3
    have hnd := (twice_nodup _ _ ((keysOk_eq g).1 hk).1).2
    have key : ∀ {m : Nat} {x : Itm}, (its g)[m]? = some x → x.nm = true → g.l.length ≤ m ∧ g.ks[m - g.l.length]? = some x.name := by
      intro m x hx hn
      unfold its at hx
      by_cases hm : m < g.l.length
      · rw [List.getElem?_append_left (by simpa [itsL] using hm)] at hx
        simp only [itsL, List.getElem?_map, Option.map_eq_some_iff] at hx
        obtain ⟨_, _, rfl⟩ := hx
        cases hn
      · rw [List.getElem?_append_right (by simp [itsL]; omega)] at hx
        have hl : (itsL g.l).length = g.l.length := by simp [itsL]
        rw [hl] at hx
        exact ⟨by omega, (itsM_get _ _ _ _ hx).2.1⟩
    obtain ⟨a1, a2⟩ := key hx hnx
    obtain ⟨b1, b2⟩ := key hy h3.symm
    have hlt := (List.getElem?_eq_some_iff.1 a2).1
    have := (List.getElem?_inj (j := n - g.l.length) hlt hnd).1 (by rw [a2, b2, h1])
    omega

/-! ### The shred of what stands in a value -/

def shredI (gap : Int) : List Itm → Int → Int → List GRec × Int
  | [], _, now => ([], now)
  | x :: xs, lv, now =>
    let p := shredV gap x.v lv x.nm x.name now
    let q := shredI gap xs lv p.2
    (p.1 ++ q.1, q.2)
theorem shredI_L (gap : Int) : ∀ (l : List GVal) (lv now : Int), shredI gap (itsL l) lv now = shredL gap l lv now
  | [], _, _ => rfl
  | g :: gs, lv, now => by
    show shredI gap (⟨false, emptyS, g⟩ :: itsL gs) lv now = _
    simp only [shredI, shredL, shredI_L gap gs]
    rfl
theorem shredI_M (gap : Int) : ∀ (vs : List GVal) (ks : List ByteArray) (lv now : Int), shredI gap (itsM vs ks) lv now = shredM gap vs ks lv now
  | [], [], _, _ => rfl
  | [], _ :: _, _, _ => rfl
  | _ :: _, [], _, _ => rfl
  | g :: gs, k :: ks, lv, now => by simp only [itsM, shredI, shredM, shredI_M gap gs ks]
theorem shredI_append (gap : Int) : ∀ (a b : List Itm) (lv now : Int), shredI gap (a ++ b) lv now = ((shredI gap a lv now).1 ++ (shredI gap b lv (shredI gap a lv now).2).1, (shredI gap b lv (shredI gap a lv now).2).2)
  | [], b, lv, now => by simp [shredI]
  | x :: a, b, lv, now => by simp only [List.cons_append, shredI, shredI_append gap a b, List.append_assoc]
theorem shredV_its (gap : Int) (g : GVal) (lv : Int) (nm : Bool) (name : ByteArray) (now : Int) (h : g.wf) :
    (shredV gap g lv nm name now).1 = ⟨now + gap, now + wV gap g, lv, g.kind, nm, name, g.b, g.n, g.s⟩ :: (shredI gap (its g) (lv + 1) (now + gap)).1 := by
  have h2 := (shredV_sk gap g lv nm name now h).2
  rw [shredV_eq] at h2 ⊢
  dsimp only at h2 ⊢
  rw [h2, its, shredI_append, shredI_L, shredI_M]
theorem shredI_sk (gap : Int) : ∀ (xs : List Itm) (lv now : Int), GVal.wfs (valsI xs) → (shredI gap xs lv now).1.map se = skL gap (valsI xs) now ∧ (shredI gap xs lv now).2 = now + wL gap (valsI xs)
  | [], lv, now, _ => by simp [shredI, skL, wL, valsI]
  | x :: xs, lv, now, h => by
    simp only [valsI, List.map_cons, GVal.wfs] at h ⊢
    obtain ⟨h1, h2⟩ := shredV_sk gap x.v lv x.nm x.name now h.1
    obtain ⟨h3, h4⟩ := shredI_sk gap xs lv (shredV gap x.v lv x.nm x.name now).2 h.2
    rw [h2] at h3 h4
    simp only [valsI] at h3 h4
    simp only [shredI, skL, wL, List.map_append, h1, h2, h3, h4]
    exact ⟨trivial, by omega⟩

theorem wfs_append : ∀ {a b : List GVal}, GVal.wfs (a ++ b) ↔ GVal.wfs a ∧ GVal.wfs b
  | [], b => by simp [GVal.wfs]
  | g :: a, b => by simp only [List.cons_append, GVal.wfs, wfs_append (a := a), and_assoc]
theorem wfs_its {g : GVal} (h : g.wf) : GVal.wfs (valsI (its g)) := by
  rw [vals_its h, wfs_append]
  exact ((wf_eq g).1 h).2

/-! ### Where a value lies in its value's records -/

def cntI (xs : List Itm) : Nat := cntL (valsI xs)
def wI (gap : Int) (xs : List Itm) : Int := wL gap (valsI xs)

inductive Sub (gap : Int) : GVal → Nat → Int → List GStep → GVal → Nat → Int → Prop
  | refl (g : GVal) (p : Nat) (now : Int) : Sub gap g p now [] g p now
  | step {g : GVal} {p : Nat} {now : Int} {m : Nat} {x : Itm} {P : List GStep} {h : GVal} {q : Nat} {now' : Int} (hx : (its g)[m]? = some x)
      (hs : Sub gap x.v (p + 1 + cntI ((its g).take m)) (now + gap + wI gap ((its g).take m)) P h q now') : Sub gap g p now (stepOf m x :: P) h q now'

theorem cntI_its {g : GVal} (h : g.wf) : cntV g = 1 + cntI (its g) := by rw [cntI, vals_its h, cntL_append, cntV_eq]
theorem wI_its {gap : Int} {g : GVal} (h : g.wf) : wV gap g = gap + wI gap (its g) + gap := by rw [wI, vals_its h, wV_eq]
theorem split_at {xs : List Itm} {m : Nat} {x : Itm} (h : xs[m]? = some x) : xs = xs.take m ++ x :: xs.drop (m + 1) := by
  have hl := (List.getElem?_eq_some_iff.1 h).1
  have := (List.getElem?_eq_some_iff.1 h).2
  rw [← this, ← List.drop_eq_getElem_cons hl, List.take_append_drop]
theorem valsI_append (a b : List Itm) : valsI (a ++ b) = valsI a ++ valsI b := by simp [valsI]
theorem wI_split {gap : Int} {xs : List Itm} {m : Nat} {x : Itm} (h : xs[m]? = some x) : wI gap xs = wI gap (xs.take m) + (wV gap x.v + wI gap (xs.drop (m + 1))) := by
  conv => lhs; rw [split_at h]
  unfold wI
  rw [valsI_append, wL_append]
  rfl
theorem cntI_split {xs : List Itm} {m : Nat} {x : Itm} (h : xs[m]? = some x) : cntI xs = cntI (xs.take m) + (cntV x.v + cntI (xs.drop (m + 1))) := by
  conv => lhs; rw [split_at h]
  unfold cntI
  rw [valsI_append, cntL_append]
  rfl

/-- Everything stands somewhere. -/
theorem sub_all {gap : Int} (g : GVal) : g.wf → ∀ (p : Nat) (now : Int) (i : Nat), p ≤ i → i < p + cntV g → ∃ P h now', Sub gap g p now P h i now' := by
  induction g using GVal.byWeight with | _ g ih => ?_
  intro hw p now i h1 h2
  by_cases hi : i = p
  · subst hi; exact ⟨[], g, now, .refl g i now⟩
  have key : ∀ n, n ≤ (its g).length → i < p + 1 + cntI ((its g).take n) → ∃ P h now', Sub gap g p now P h i now' := by
    intro n
    induction n with
    | zero =>
      intro _ h
      have : cntI ((its g).take 0) = 0 := by rw [List.take_zero]; rfl
      omega
    | succ n ihn =>
      intro hn h
      by_cases hlt : i < p + 1 + cntI ((its g).take n)
      · exact ihn (by omega) hlt
      · have hx : (its g)[n]? = some (its g)[n] := List.getElem?_eq_getElem (by omega)
        generalize (its g)[n] = x at hx
        have e : (its g).take (n + 1) = (its g).take n ++ [x] := by rw [List.take_succ_eq_append_getElem (by omega), (List.getElem?_eq_some_iff.1 hx).2]
        have hc : cntI ((its g).take (n + 1)) = cntI ((its g).take n) + cntV x.v := by
          unfold cntI
          rw [e, valsI_append, cntL_append]
          rfl
        have hm := List.mem_of_getElem? hx
        obtain ⟨P, h', now', hs⟩ := ih x.v (in_weight (its_mem hw hm)) (its_wf hw hm) (p + 1 + cntI ((its g).take n)) (now + gap + wI gap ((its g).take n)) i (by omega) (by omega)
        exact ⟨_, _, _, .step hx hs⟩
  have hc := cntI_its hw
  exact key (its g).length (Nat.le_refl _) (by rw [List.take_length]; omega)

theorem wI_nn {gap : Int} (hg : 0 < gap) (xs : List Itm) : 0 ≤ wI gap xs := wL_nn hg _

/-! ### The place of a record -/

structure Loc (gap : Int) (L : List GRec) (g : GVal) (p : Nat) (now : Int) (pre : List GStep) : Prop where
  wf : g.wf
  keys : keysOk g
  at_ : ∃ nm name rest, L.drop p = (shredV gap g pre.length nm name now).1 ++ rest ∧ front (now + wV gap g) (rest.map se)
  place : ∀ n, p < n → upF L n p = pre.reverse

theorem parentK_at {L : List GRec} {st : Int} {p : Nat} : ∀ {q : Nat}, p < q → (∀ k, p < k → k < q → (L[k]?.map GRec.en).getD 0 < st) → ¬ (L[p]?.map GRec.en).getD 0 < st → parentK L st q = p
  | 0, h, _, _ => by omega
  | q + 1, h, hk, hp => by
    rw [parentK]
    by_cases hq : q = p
    · subst hq; rw [if_neg hp]
    · rw [if_pos (hk q (by omega) (by omega))]
      exact parentK_at (by omega) (fun k h1 h2 => hk k h1 (by omega)) hp

theorem pos_get : ∀ (gs : List GVal) (p m : Nat), m < gs.length → (pos gs p)[m]? = some (p + cntL (gs.take m))
  | [], _, _, h => by simp at h
  | g :: gs, p, 0, _ => by simp [pos, cntL]
  | g :: gs, p, m + 1, h => by
    rw [pos, List.getElem?_cons_succ, pos_get gs _ m (by simpa using h), List.take_succ_cons, cntL]
    congr 1
    omega
theorem idxF_at : ∀ (l : List Nat) (v m k : Nat), l[m]? = some v → (∀ j, j < m → l[j]? ≠ some v) → idxF v l k = (k + m : Nat)
  | [], v, m, k, h, _ => by simp at h
  | x :: l, v, 0, k, h, _ => by
    simp only [List.getElem?_cons_zero, Option.some.injEq] at h
    rw [idxF, if_pos h.symm, Nat.add_zero]
  | x :: l, v, m + 1, k, h, hj => by
    have h0 := hj 0 (by omega)
    simp only [List.getElem?_cons_zero, ne_eq, Option.some.injEq] at h0
    rw [idxF, if_neg (fun e => h0 e.symm), idxF_at l v m (k + 1) (by simpa using h) fun j hlt => by simpa using hj (j + 1) (by omega)]
    congr 1
    omega

theorem skI_en {gap : Int} (hg : 0 < gap) {gs : List GVal} {now : Int} {S T : Sk} {p k : Nat} {x : Int × Int} (h : S.drop p = skL gap gs now ++ T) (h1 : p ≤ k) (h2 : k < p + cntL gs) (hx : S[k]? = some x) : x.2 ≤ now + wL gap gs := by
  have : (S.drop p)[k - p]? = some x := by rw [List.getElem?_drop, show p + (k - p) = k by omega]; exact hx
  rw [h, List.getElem?_append_left (by rw [skL_len]; omega)] at this
  exact (skL_bd hg gs now x (List.mem_of_getElem? this)).2.2

theorem drop_head {α : Type} {L T rest : List α} {p : Nat} {x : α} (h : L.drop p = x :: T ++ rest) : L[p]? = some x := by
  have : (L.drop p)[0]? = some x := by rw [h]; rfl
  simpa using this
theorem Loc.rec_ {gap : Int} {L : List GRec} {g : GVal} {p : Nat} {now : Int} {pre : List GStep} (h : Loc gap L g p now pre) :
    ∃ nm name, L[p]? = some ⟨now + gap, now + wV gap g, pre.length, g.kind, nm, name, g.b, g.n, g.s⟩ := by
  obtain ⟨nm, name, rest, h1, -⟩ := h.at_
  rw [shredV_its _ _ _ _ _ _ h.wf] at h1
  exact ⟨nm, name, drop_head h1⟩

theorem Loc.kids {gap : Int} (hg : 0 < gap) {L : List GRec} {g : GVal} {p : Nat} {now : Int} {pre : List GStep} (h : Loc gap L g p now pre) :
    kidsG L p = pos (g.l ++ g.vs) (p + 1) := by
  obtain ⟨nm, name, rest, h1, hfr⟩ := h.at_
  have h2 := congrArg (List.map se) h1
  rw [List.map_drop, List.map_append, (shredV_sk gap g _ nm name now h.wf).1, skV_eq, List.cons_append] at h2
  obtain ⟨h3, h4⟩ := drop_at h2
  have hlen : (L.map se).length = p + (1 + (cntL (g.l ++ g.vs) + (rest.map se).length)) := by
    have hp : p ≤ (L.map se).length := by
      have := (List.getElem?_eq_some_iff.1 h3).1
      omega
    have := congrArg List.length h2
    rw [List.length_drop, List.length_cons, List.length_append, skL_len] at this
    omega
  have hwe := wV_eq gap g
  rw [kidsG_se]
  unfold kidsAt
  rw [h3]
  refine kidsP_pos hg (rest := rest.map se) (fun x hx => ?_) (g.l ++ g.vs) (p + 1) (now + gap) _ h4 ?_ ?_
  · exact hfr x hx
  · show _ ≤ now + wV gap g
    omega
  · have := pos_cnt (g.l ++ g.vs)
    omega

theorem Loc.kid {gap : Int} (hg : 0 < gap) {L : List GRec} {g : GVal} {p : Nat} {now : Int} {pre : List GStep} (h : Loc gap L g p now pre) {m : Nat} {x : Itm} (hx : (its g)[m]? = some x) :
    Loc gap L x.v (p + 1 + cntI ((its g).take m)) (now + gap + wI gap ((its g).take m)) (pre ++ [stepOf m x]) ∧ parentG L (p + 1 + cntI ((its g).take m)) = p := by
  have hm := List.mem_of_getElem? hx
  have hwx := its_wf h.wf hm
  have hks := h.kids hg
  obtain ⟨nm, name, rest, h1, hfr⟩ := h.at_
  rw [shredV_its _ _ _ _ _ _ h.wf] at h1
  have hd1 : L.drop (p + 1) = (shredI gap (its g) (pre.length + 1) (now + gap)).1 ++ rest := by
    rw [← List.drop_drop, h1]
    rfl
  have hwi := wfs_its h.wf
  have hsp := split_at hx
  have hwt : GVal.wfs (valsI ((its g).take m)) := by
    rw [hsp, valsI_append, wfs_append] at hwi
    exact hwi.1
  have hwd : GVal.wfs (valsI ((its g).drop (m + 1))) := by
    rw [hsp, valsI_append, wfs_append] at hwi
    exact hwi.2.2
  have hsk := shredI_sk gap ((its g).take m) (pre.length + 1) (now + gap) hwt
  have hd0 := hd1
  rw [hsp, shredI_append, hsk.2] at hd1
  simp only [shredI, List.append_assoc] at hd1
  have hl1 : (shredI gap ((its g).take m) (pre.length + 1) (now + gap)).1.length = cntI ((its g).take m) := by
    have := congrArg List.length hsk.1
    rw [List.length_map, skL_len] at this
    exact this
  have hd2 : L.drop (p + 1 + cntI ((its g).take m)) = (shredV gap x.v (pre.length + 1) x.nm x.name (now + gap + wI gap ((its g).take m))).1 ++ ((shredI gap ((its g).drop (m + 1)) (pre.length + 1) (shredV gap x.v (pre.length + 1) x.nm x.name (now + gap + wI gap ((its g).take m))).2).1 ++ rest) := by
    rw [← hl1, ← List.drop_drop, hd1, List.drop_left]
    rfl
  have hsv := shredV_sk gap x.v (pre.length + 1) x.nm x.name (now + gap + wI gap ((its g).take m)) hwx
  have hwe := wI_its (gap := gap) h.wf
  have hws := wI_split (gap := gap) hx
  have hskd := shredI_sk gap ((its g).drop (m + 1)) (pre.length + 1) (shredV gap x.v (pre.length + 1) x.nm x.name (now + gap + wI gap ((its g).take m))).2 hwd
  have hfr2 : front (now + gap + wI gap ((its g).take m) + wV gap x.v) (((shredI gap ((its g).drop (m + 1)) (pre.length + 1) (shredV gap x.v (pre.length + 1) x.nm x.name (now + gap + wI gap ((its g).take m))).2).1 ++ rest).map se) := by
    rw [List.map_append, hskd.1, hsv.2]
    refine front_skL hg _ hfr ?_
    show _ + wI gap ((its g).drop (m + 1)) ≤ _
    omega
  have hq : L[p + 1 + cntI ((its g).take m)]? = some ⟨now + gap + wI gap ((its g).take m) + gap, now + gap + wI gap ((its g).take m) + wV gap x.v, pre.length + 1, x.v.kind, x.nm, x.name, x.v.b, x.v.n, x.v.s⟩ := by
    rw [shredV_its _ _ _ _ _ _ hwx] at hd2
    exact drop_head hd2
  have hp : L[p]? = some ⟨now + gap, now + wV gap g, pre.length, g.kind, nm, name, g.b, g.n, g.s⟩ := drop_head h1
  have hwd0 := wI_nn hg ((its g).drop (m + 1))
  have hwx0 := wV_pos hg x.v
  have hwx1 : 2 * gap ≤ wV gap x.v := by
    have := wV_eq gap x.v
    have := wL_nn hg (x.v.l ++ x.v.vs)
    omega
  have hpar : parentG L (p + 1 + cntI ((its g).take m)) = p := by
    unfold parentG
    rw [hq]
    refine parentK_at (by omega) (fun k hk1 hk2 => ?_) ?_
    · show (L[k]?.map GRec.en).getD 0 < now + gap + wI gap ((its g).take m) + gap
      have hS : (L.map se).drop (p + 1) = skL gap (valsI (its g)) (now + gap) ++ rest.map se := by
        rw [← List.map_drop, hd0, List.map_append, (shredI_sk gap (its g) _ _ hwi).1]
      rw [hsp, valsI_append, skL_append, List.append_assoc] at hS
      have hkl : k < L.length := by
        have := (List.getElem?_eq_some_iff.1 hq).1
        omega
      have hkx : (L.map se)[k]? = some (se L[k]) := by rw [List.getElem?_map, List.getElem?_eq_getElem hkl]; rfl
      have := skI_en hg hS (k := k) (by omega) hk2 hkx
      rw [List.getElem?_eq_getElem hkl]
      show L[k].en < _
      have hen : (se L[k]).2 = L[k].en := rfl
      rw [hen] at this
      have hwi' : wI gap ((its g).take m) = wL gap (valsI ((its g).take m)) := rfl
      omega
    · rw [hp]
      show ¬ now + wV gap g < now + gap + wI gap ((its g).take m) + gap
      omega
  refine ⟨⟨hwx, its_keys h.wf h.keys hm, ⟨x.nm, x.name, _, ?_, hfr2⟩, fun n hn => ?_⟩, hpar⟩
  · rw [List.length_append, List.length_singleton]
    exact hd2
  · obtain ⟨n, rfl⟩ : ∃ k, n = k + 1 := ⟨n - 1, by omega⟩
    unfold upF
    rw [hpar, if_neg (by omega), Int.toNat_natCast, h.place n (by omega), List.reverse_append]
    show stepG L (p + 1 + cntI ((its g).take m)) p :: _ = [stepOf m x] ++ _
    rw [List.singleton_append]
    congr 1
    unfold stepG stepOf
    rw [hq]
    dsimp only
    congr 1
    rw [hks]
    split
    · rfl
    · have hml : m < (g.l ++ g.vs).length := by
        rw [← vals_its h.wf]
        simpa [valsI] using (List.getElem?_eq_some_iff.1 hx).1
      have htk : ∀ j, cntL ((g.l ++ g.vs).take j) = cntI ((its g).take j) := fun j => by
        rw [← vals_its h.wf, cntI, valsI, valsI, List.map_take]
      have := idxF_at (pos (g.l ++ g.vs) (p + 1)) (p + 1 + cntI ((its g).take m)) m 0 (by rw [pos_get _ _ _ hml, htk]) (fun j hj => by
        rw [pos_get _ _ _ (by omega), htk]
        intro e
        have e := Option.some.inj e
        have hj' : (its g)[j]? = some ((its g)[j]'(by have := (List.getElem?_eq_some_iff.1 hx).1; omega)) := List.getElem?_eq_getElem _
        have hj2 : ((its g).take m)[j]? = some ((its g)[j]'(by have := (List.getElem?_eq_some_iff.1 hx).1; omega)) := by rw [List.getElem?_take, if_pos hj]; exact hj'
        have hc := cntI_split hj2
        rw [List.take_take, Nat.min_eq_left (by omega)] at hc
        have := cntV_pos ((its g)[j]'(by have := (List.getElem?_eq_some_iff.1 hx).1; omega)).v
        omega)
      rw [this]
      omega

theorem Loc.sub {gap : Int} (hg : 0 < gap) {L : List GRec} {g : GVal} {p : Nat} {now : Int} {P : List GStep} {h : GVal} {q : Nat} {now' : Int} (hs : Sub gap g p now P h q now') :
    ∀ {pre : List GStep}, Loc gap L g p now pre → Loc gap L h q now' (pre ++ P) := by
  induction hs with
  | refl g p now => intro pre hl; rw [List.append_nil]; exact hl
  | @step g p now m x P h q now' hx hs ih =>
    intro pre hl
    have := ih (hl.kid hg hx).1
    rw [List.append_assoc] at this
    exact this

theorem loc_root {gap : Int} {g : GVal} {nm : Bool} {name : ByteArray} (hw : g.wf) (hk : keysOk g) : Loc gap (shredV gap g 0 nm name 0).1 g 0 0 [] := by
  refine ⟨hw, hk, ⟨nm, name, [], by rw [List.drop_zero, List.append_nil]; rfl, fun x hx => by cases hx⟩, fun n hn => ?_⟩
  obtain ⟨n, rfl⟩ : ∃ k, n = k + 1 := ⟨n - 1, by omega⟩
  unfold upF
  rw [if_pos (by unfold parentG parentK; omega)]
  rfl

/-- Each record has its place in the value. -/
theorem shred_loc {gap : Int} (hg : 0 < gap) {g : GVal} {nm : Bool} {name : ByteArray} (hw : g.wf) (hk : keysOk g) {i : Nat} (hi : i < cntV g) :
    ∃ h now, Sub gap g 0 0 (placeG (shredV gap g 0 nm name 0).1 i) h i now ∧ Loc gap (shredV gap g 0 nm name 0).1 h i now (placeG (shredV gap g 0 nm name 0).1 i) := by
  obtain ⟨P, h, now, hs⟩ := sub_all (gap := gap) g hw 0 0 i (Nat.zero_le _) (by omega)
  have hl := Loc.sub hg hs (loc_root (nm := nm) (name := name) hw hk)
  rw [List.nil_append] at hl
  have : placeG (shredV gap g 0 nm name 0).1 i = P := by
    unfold placeG
    rw [hl.place (i + 1) (by omega), List.reverse_reverse]
  rw [this]
  exact ⟨h, now, hs, hl⟩

/-! ### Steps -/

end Go.Sy
/- Scopes that nobody jumps in. No program in sight. -/
namespace Go.Sy
section
variable {cf : Cf} {Q : Exit → Act → World → Prop} {σ : Snap} {env : Env} {hp : HP} {A : List AE} {nh : Nat}
theorem cj_scope {c : Code} (hrd : cf.rd = none) (h : CJ cf c (Exit.noGoto Q) σ env hp A nh) : CJ cf (.scope c) Q σ env hp A nh := by
  refine ⟨fun hb a β w ha hw => ?_⟩
  have := h.run hb a β w ha hw
  rw [hrd] at this ⊢
  exact (wpIn_wide (n := 0)).2 (wp_scope_straight (wpR_none this))
theorem nj_ng_ret (h : NJ cf .ret Q σ env hp A nh) : NJ cf .ret (Exit.noGoto Q) σ env hp A nh := ⟨h.run⟩
end
end Go.Sy
namespace Go.Sy
open Go.Proofs

/-! ### Last -/

def lastG (L : List GRec) (i : Nat) : Int := (runK L ((L[i]?.map GRec.en).getD 0) (i + 1) : Nat) - 1

set_option maxRecDepth 100000 in
set_option maxHeartbeats 1000000 in
theorem Last_c (σ : Snap) (L : List GRec) (R : RecsOk L) (ao : Option Addr) (cap : Nat) (H : SlAt σ ao L.length cap 11 (recRows L)) (i : Nat) (hi : i < L.length) (hs : soundG L = true) :
    PlainS Tryd.prog 40 [.a (.v (.slice ao L.length cap)), .a (.v (.int .i64 i))] σ (fun v => v = .int .i64 (lastG L i)) := by
  have hat : atG L i = true := by
    unfold atG
    rw [hs]
    simp
    omega
  have hlg : lastG L i = (runK L L[i].en (i + 1) : Nat) - 1 := by unfold lastG; rw [List.getElem?_eq_getElem hi]; rfl
  rw [hlg]
  refine enter_p Tryd.func40 rfl rfl (by (repeat' (first | exact trivial | constructor))) fun w => ?_
  (repeat (first | refine cj_seq ?_ | (refine cj_region ?_; refine oj_run TT rfl ?_) | refine oj_then ?_))
  refine oj_callP rfl rfl rfl rfl rfl Tryd.call76 (by (repeat' (first | exact trivial | constructor))) (at_c σ L R ao cap H i) fun v hv => ⟨.a .tt, trivial, by rw [hv, hat]; rfl, ?_⟩
  refine oj_run TT rfl ?_
  (repeat (first | refine cj_seq ?_ | (refine cj_region ?_; refine oj_run TT rfl ?_) | refine oj_then ?_ | refine cj_if_f rfl ?_ | refine cj_skip ?_ | refine nj_then ?_))
  refine oj_callP rfl rfl rfl rfl rfl Tryd.call88 (by (repeat' (first | exact trivial | constructor))) (last_c σ L R.len ao cap H i hi) fun v hv => ⟨.a (.v (.int .i64 ((runK L L[i].en (i + 1) : Nat) - 1))), trivial, hv.symm, ?_⟩
  refine oj_run TT rfl ?_
  (repeat (first | refine oj_then ?_ | refine cj_ret ?_))
  refine nj_ret TT rfl fun β w' _ _ => ?_
  rfl

/-! ### Find -/

/-- Is the n-th kid, record r, what a step asks for? -/
def fitsR (s : GStep) (n : Nat) (r : GRec) : Bool := (s.named && r.nm && decide (r.name = s.key)) || (!s.named && !r.nm && decide ((n : Int) = s.at_))
/-- The first of the kids from n on that is asked for. -/
def firstR (L : List GRec) (s : GStep) : List Nat → Nat → Option Nat
  | [], _ => none
  | k :: ks, n => match L[k]? with
    | some r => if fitsR s n r then some k else firstR L s ks (n + 1)
    | none => none
def findR (L : List GRec) : Nat → List GStep → Int
  | i, [] => i
  | i, s :: l => match firstR L s (kidsG L i) 0 with
    | some k => findR L k l
    | none => -1
theorem firstR_mem {L : List GRec} {s : GStep} : ∀ {ks : List Nat} {n k : Nat}, firstR L s ks n = some k → k < L.length
  | x :: ks, n, k, h => by
    unfold firstR at h
    cases hx : L[x]? with
    | none => rw [hx] at h; cases h
    | some r =>
      rw [hx] at h
      dsimp only at h
      split at h
      · obtain rfl := Option.some.inj h
        exact (List.getElem?_eq_some_iff.1 hx).1
      · exact firstR_mem h

theorem kidsF_lt (L : List GRec) (en : Int) : ∀ n k, ∀ m ∈ kidsF L en n k, m < L.length
  | 0, _, m, h => by simp [kidsF] at h
  | n + 1, k, m, h => by
    unfold kidsF at h
    split at h
    · rename_i hk
      split at h
      · cases h with
        | head => exact hk
        | tail _ h => exact kidsF_lt L en n _ m h
      · cases h
    · cases h

set_option maxRecDepth 100000 in
set_option maxHeartbeats 1000000 in
theorem Find_c (σ : Snap) (L : List GRec) (R : RecsOk L) (ao : Option Addr) (cap : Nat) (H : SlAt σ ao L.length cap 11 (recRows L)) (hs : soundG L = true) (hL : L.length ≤ 100000) (hpos : 0 < L.length) (l : List GStep) (hl : l.length ≤ 1000000) (so : Option Addr) (sc : Nat) (S : SlAt σ so l.length sc 3 (stepRows l)) :
    PlainS Tryd.prog 43 [.a (.v (.slice ao L.length cap)), .a (.v (.slice so l.length sc))] σ (fun v => v = .int .i64 (findR L 0 l)) := by
  refine enter_p Tryd.func43 rfl rfl (by (repeat' (first | exact trivial | constructor))) fun w => ?_
  (repeat (first | refine cj_seq ?_ | (refine cj_region ?_; refine oj_run TT rfl ?_) | refine oj_then ?_ | refine cj_scope rfl ?_))
  refine oj_callP rfl rfl rfl rfl rfl Tryd.call24 (by (repeat' (first | exact trivial | constructor))) (Sound_c σ L R.len R.fit R.bw ao cap H) fun v hv => ⟨.a .tt, trivial, by rw [hv, hs]; rfl, ?_⟩
  refine oj_run TT rfl ?_
  (repeat (first | refine cj_seq ?_ | (refine cj_region ?_; refine oj_run TT rfl ?_) | refine oj_then ?_ | refine cj_if_f rfl ?_ | refine cj_skip ?_ | refine cj_block ?_ | refine nj_then ?_ | refine cj_label ?_))
  refine cj_loop2 (fun (s : Snap) (_ : Nat × Nat) => s) (fun _ t => [(0, .a (.v (.slice ao L.length cap))), (1, .a (.v (.slice so l.length sc))), (5, .a (.v (.int .i64 (t.2 : Nat)))), (13, .a (.v (.slice so l.length sc))), (14, .a (.v (.int .i64 l.length))), (15, .a (.v (.int .i64 (t.1 : Nat))))]) (fun _ _ => []) (fun _ _ => []) 0
    (fun s t => σ.le s ∧ t.1 ≤ l.length ∧ t.2 < L.length ∧ findR L t.2 (l.drop t.1) = findR L 0 l) (fun _ t => l.length - t.1) σ (0, 0) ⟨Snap.le_refl _, Nat.zero_le _, hpos, rfl⟩ rfl (by (repeat (first | exact trivial | refine And.intro rfl ?_))) (by (repeat (first | exact trivial | refine And.intro rfl ?_))) rfl (by (repeat' (first | exact trivial | constructor))) (by (repeat' exact trivial)) fun s ⟨k, i⟩ ⟨hle, hk, hi, hp⟩ => ?_
  dsimp only at hk hi hp ⊢
  (repeat (first | refine cj_seq ?_ | (refine cj_region ?_; refine oj_run TT rfl ?_) | refine oj_then ?_))
  refine cj_if rfl (fun h => ?_) (fun h => ?_)
  rotate_left
  · have hk0 : k = l.length := by have := of_decide_eq_false h; omega
    rw [hk0, List.drop_length, findR] at hp
    (repeat (first | refine cj_seq ?_ | (refine cj_region ?_; refine oj_run TT rfl ?_) | refine oj_then ?_ | refine cj_exit ?_ | refine cj_ret ?_ | refine nj_then ?_ | refine nj_then_exit ?_ | refine nj_block_out ?_ | refine nj_ng_ret ?_))
    refine nj_ret TT rfl fun β w' _ _ => ?_
    rw [← hp]
    rfl
  have hkl : k < l.length := by have := of_decide_eq_true h; omega
  have H := H.mono hle
  have S := S.mono hle
  have hrow := stepRows_get (List.getElem?_eq_getElem hkl)
  rw [List.drop_eq_getElem_cons hkl, findR] at hp
  generalize l[k] = st at *
  (repeat (first | refine cj_seq ?_ | (refine cj_region ?_; refine oj_run TT rfl ?_) | refine cj_skip ?_ | refine cj_block ?_ | refine nj_then ?_))
  refine oj_idx TT rfl rfl rfl rfl rfl rfl rfl rfl rfl S (by omega) hrow (oj_run TT rfl ?_)
  (repeat (first | refine cj_seq ?_ | (refine cj_region ?_; refine oj_run TT rfl ?_) | refine oj_then ?_))
  refine oj_callS rfl rfl rfl rfl rfl Tryd.call77 ⟨trivial, trivial, trivial⟩ (kids_c s L hL ao cap H i hi) fun v σ1 hle1 ⟨oo, oc, hv, HK⟩ => ⟨.a (.v (.slice oo (kidsG L i).length oc)), trivial, hv.symm, ?_⟩
  have H := H.mono hle1
  have hklt : ∀ m ∈ kidsG L i, m < L.length := fun m hm => kidsF_lt L _ _ _ m hm
  have hklen : (kidsG L i).length ≤ L.length := by
    unfold kidsG
    exact Nat.le_trans (kidsF_len L _ L.length (i + 1)) (Nat.sub_le _ _)
  generalize kidsG L i = ks at *
  refine oj_run TT rfl ?_
  (repeat (first | refine oj_then ?_ | refine cj_block ?_))
  refine cj_loop (fun (_ : Nat) => σ1) (fun n => [(0, .a (.v (.slice ao L.length cap))), (1, .a (.v (.slice so l.length sc))), (7, .a (.p 1 0)), (13, .a (.v (.slice so l.length sc))), (14, .a (.v (.int .i64 l.length))), (15, .a (.v (.int .i64 (k : Nat)))), (21, .a (.v (.slice oo ks.length oc))), (22, .a (.v (.int .i64 ks.length))), (23, .a (.v (.int .i64 (n : Nat))))])
    (fun _ => [(1, .loc 129, stepCells st)]) (fun _ => []) 2 (fun n => n ≤ ks.length ∧ firstR L st (ks.drop n) n = firstR L st ks 0) (fun n => ks.length - n) 0 ⟨Nat.zero_le _, rfl⟩ rfl (by (repeat (first | exact trivial | refine And.intro rfl ?_))) (by (repeat (first | exact trivial | refine And.intro rfl ?_))) rfl (by (repeat' (first | exact trivial | exact Nat.le_of_ble_eq_true rfl | constructor))) (by (repeat' (first | exact trivial | exact Nat.le_of_ble_eq_true rfl | refine AllLt.of ?_ | constructor))) fun n ⟨hn, hf⟩ => ?_
  (repeat (first | refine cj_seq ?_ | (refine cj_region ?_; refine oj_run TT rfl ?_) | refine oj_then ?_))
  refine cj_if rfl (fun h => ?_) (fun h => ?_)
  rotate_left
  · have hn0 : n = ks.length := by have := of_decide_eq_false h; omega
    rw [hn0, List.drop_length, firstR] at hf
    rw [← hf] at hp
    (repeat (first | refine cj_seq ?_ | (refine cj_region ?_; refine oj_run TT rfl ?_) | refine oj_then ?_ | refine cj_exit ?_ | refine cj_ret ?_ | refine nj_then ?_ | refine nj_then_exit ?_ | refine nj_then_ret ?_ | refine nj_block_ret ?_ | refine nj_block_out ?_ | refine nj_ng_ret ?_))
    refine nj_ret TT rfl fun β w' _ _ => ?_
    rw [← hp]
    rfl
  have hnl : n < ks.length := by have := of_decide_eq_true h; omega
  have hkr : (kidRows ks)[n]? = some [.v (.int .i64 (ks[n] : Nat))] := by unfold kidRows; rw [List.getElem?_map, List.getElem?_eq_getElem hnl]; rfl
  have hml := hklt ks[n] (List.getElem_mem hnl)
  obtain ⟨r, hr⟩ : ∃ r, L[ks[n]]? = some r := ⟨_, List.getElem?_eq_getElem hml⟩
  have hrec := recRows_get hr
  rw [List.drop_eq_getElem_cons hnl, firstR, hr] at hf
  dsimp only at hf
  generalize ks[n] = m at *
  (repeat (first | refine cj_seq ?_ | (refine cj_region ?_; refine oj_run TT rfl ?_) | refine cj_skip ?_ | refine cj_block ?_ | refine nj_then ?_))
  refine oj_idx TT rfl rfl rfl rfl rfl rfl rfl rfl rfl HK (by omega) hkr (oj_run TT rfl ?_)
  (repeat (first | refine cj_seq ?_ | refine oj_then ?_))
  refine cj_cutN (fun (_ : Unit) => σ1) (fun _ => [(0, .a (.v (.slice ao L.length cap))), (1, .a (.v (.slice so l.length sc))), (7, .a (.p 1 0)), (9, .a (.v (.int .i64 (m : Nat)))), (13, .a (.v (.slice so l.length sc))), (14, .a (.v (.int .i64 l.length))), (15, .a (.v (.int .i64 (k : Nat)))), (21, .a (.v (.slice oo ks.length oc))), (22, .a (.v (.int .i64 ks.length))), (23, .a (.v (.int .i64 (n : Nat)))), (65, .a (.b (fitsR st n r)))])
    (fun _ => [(1, .loc 129, stepCells st)]) (fun _ => []) 2 (fun _ => True) ?_ (fun _ _ => ?_)
  · refine cj_draw [(0,.pure),(1,.quiet),(2,.pure),(3,.pure),(4,.pure),(5,.pure),(6,.pure),(7,.quiet),(8,.pure),(9,.pure),(10,.pure),(11,.pure),(12,.pure),(13,.pure),(14,.quiet),(15,.pure),(16,.quiet),(17,.pure),(18,.pure),(19,.pure),(20,.pure),(21,.quiet),(22,.pure),(23,.pure),(24,.pure),(25,.pure),(26,.pure),(27,.pure),(28,.quiet),(29,.pure),(30,.pure),(31,.pure),(32,.pure),(33,.pure),(34,.quiet),(35,.pure),(36,.pure),(37,.pure)] mixed (by kernel_rfl) (oj_run TT rfl ?_)
    refine oj_split 30 rfl (fun h1 => ?_) (fun h1 => ?_)
    · have h1 : st.named = true := h1
      refine oj_run TT rfl ?_
      refine oj_idx TT rfl rfl rfl rfl rfl rfl rfl rfl rfl H (by omega) hrec (oj_run TT rfl ?_)
      refine oj_split 37 rfl (fun h2 => ?_) (fun h2 => ?_)
      · have h2 : r.nm = true := h2
        refine oj_run TT rfl ?_
        refine oj_idx TT rfl rfl rfl rfl rfl rfl rfl rfl rfl H (by omega) hrec (oj_run TT rfl ?_)
        refine oj_split 47 rfl (fun h3 => ?_) (fun h3 => ?_)
        · have h3 : decide (r.name = st.key) = true := h3
          refine oj_run TT rfl ?_
          (repeat refine oj_nil ?_)
          refine nj_set 65 (.a (.b (fitsR st n r))) rfl trivial (fun β => by unfold fitsR; rw [h1, h2, h3]; rfl) ?_
          refine nj_again () trivial Nat.zero_lt_one rfl (by (repeat (first | exact trivial | refine And.intro rfl ?_))) (by (repeat (first | exact trivial | refine And.intro rfl ?_))) rfl (by (repeat' (first | exact trivial | exact Nat.le_of_ble_eq_true rfl | constructor))) (by (repeat' (first | exact trivial | exact Nat.le_of_ble_eq_true rfl | refine AllLt.of ?_ | constructor)))
        · have h3 : decide (r.name = st.key) = false := h3
          refine oj_run TT rfl ?_
          refine oj_split 51 rfl (fun h4 => absurd (show (!st.named) = true from h4) (by rw [h1]; decide)) (fun _ => ?_)
          refine oj_run TT rfl ?_
          (repeat refine oj_nil ?_)
          refine nj_set 65 (.a (.b (fitsR st n r))) rfl trivial (fun β => by unfold fitsR; rw [h1, h2, h3]; rfl) ?_
          refine nj_again () trivial Nat.zero_lt_one rfl (by (repeat (first | exact trivial | refine And.intro rfl ?_))) (by (repeat (first | exact trivial | refine And.intro rfl ?_))) rfl (by (repeat' (first | exact trivial | exact Nat.le_of_ble_eq_true rfl | constructor))) (by (repeat' (first | exact trivial | exact Nat.le_of_ble_eq_true rfl | refine AllLt.of ?_ | constructor)))
      · have h2 : r.nm = false := h2
        refine oj_run TT rfl ?_
        refine oj_split 51 rfl (fun h4 => absurd (show (!st.named) = true from h4) (by rw [h1]; decide)) (fun _ => ?_)
        refine oj_run TT rfl ?_
        (repeat refine oj_nil ?_)
        refine nj_set 65 (.a (.b (fitsR st n r))) rfl trivial (fun β => by unfold fitsR; rw [h1, h2]; rfl) ?_
        refine nj_again () trivial Nat.zero_lt_one rfl (by (repeat (first | exact trivial | refine And.intro rfl ?_))) (by (repeat (first | exact trivial | refine And.intro rfl ?_))) rfl (by (repeat' (first | exact trivial | exact Nat.le_of_ble_eq_true rfl | constructor))) (by (repeat' (first | exact trivial | exact Nat.le_of_ble_eq_true rfl | refine AllLt.of ?_ | constructor)))
    · have h1 : st.named = false := h1
      refine oj_run TT rfl ?_
      refine oj_split 51 rfl (fun _ => ?_) (fun h4 => absurd (show (!st.named) = false from h4) (by rw [h1]; decide))
      refine oj_run TT rfl ?_
      refine oj_idx TT rfl rfl rfl rfl rfl rfl rfl rfl rfl H (by omega) hrec (oj_run TT rfl ?_)
      refine oj_split 59 rfl (fun h2 => ?_) (fun h2 => ?_)
      · have h2 : (!r.nm) = true := h2
        refine oj_run TT rfl ?_
        (repeat refine oj_nil ?_)
        refine nj_set 65 (.a (.b (fitsR st n r))) rfl trivial (fun β => by unfold fitsR; rw [h1, h2]; rfl) ?_
        refine nj_again () trivial Nat.zero_lt_one rfl (by (repeat (first | exact trivial | refine And.intro rfl ?_))) (by (repeat (first | exact trivial | refine And.intro rfl ?_))) rfl (by (repeat' (first | exact trivial | exact Nat.le_of_ble_eq_true rfl | constructor))) (by (repeat' (first | exact trivial | exact Nat.le_of_ble_eq_true rfl | refine AllLt.of ?_ | constructor)))
      · have h2 : (!r.nm) = false := h2
        refine oj_run TT rfl ?_
        (repeat refine oj_nil ?_)
        refine nj_set 65 (.a (.b (fitsR st n r))) rfl trivial (fun β => by unfold fitsR; rw [h1, h2]; rfl) ?_
        refine nj_again () trivial Nat.zero_lt_one rfl (by (repeat (first | exact trivial | refine And.intro rfl ?_))) (by (repeat (first | exact trivial | refine And.intro rfl ?_))) rfl (by (repeat' (first | exact trivial | exact Nat.le_of_ble_eq_true rfl | constructor))) (by (repeat' (first | exact trivial | exact Nat.le_of_ble_eq_true rfl | refine AllLt.of ?_ | constructor)))
  refine cj_if rfl (fun h => ?_) (fun h => ?_)
  · rw [h, if_pos rfl] at hf
    rw [← hf] at hp
    (repeat (first | refine cj_seq ?_ | (refine cj_region ?_; refine oj_run TT rfl ?_) | refine oj_then ?_ | refine oj_nil ?_ | refine cj_exit ?_ | refine nj_then ?_ | refine nj_then_exit ?_ | refine nj_block_out ?_ | refine nj_block_on rfl ?_ | (refine oj_add rfl rfl rfl rfl rfl rfl (by omega) ?_; refine oj_run TT rfl ?_)))
    refine nj_again (σ1, k + 1, m) ⟨Snap.le_trans hle hle1, hkl, hml, hp⟩ (by dsimp only; omega) rfl (by (repeat (first | exact trivial | refine And.intro rfl ?_))) (by (repeat (first | exact trivial | refine And.intro rfl ?_))) rfl (by (repeat' (first | exact trivial | constructor))) (by (repeat' exact trivial))
  · rw [h, if_neg (by simp)] at hf
    (repeat (first | (refine cj_region ?_; refine oj_run TT rfl ?_) | refine oj_nil ?_ | refine cj_skip ?_ | refine nj_then ?_ | refine nj_block ?_ | (refine oj_add rfl rfl rfl rfl rfl rfl (by omega) ?_; refine oj_run TT rfl ?_)))
    refine nj_again (n + 1) ⟨hnl, hf⟩ (by omega) rfl (by (repeat (first | exact trivial | refine And.intro rfl ?_))) (by (repeat (first | exact trivial | refine And.intro rfl ?_))) rfl (by (repeat' (first | exact trivial | exact Nat.le_of_ble_eq_true rfl | constructor))) (by (repeat' (first | exact trivial | exact Nat.le_of_ble_eq_true rfl | refine AllLt.of ?_ | constructor)))
end Go.Sy
/- Plain laws: what stands at a record's place, and the record that stands at a place. No program in sight. -/
namespace Go.Sy

/-! ### Kinds -/

mutual
def kinds : GVal → Prop
  | .mk k _ _ _ l ks vs => (l ≠ [] → k = 4) ∧ (ks ≠ [] → k = 5) ∧ kindss l ∧ kindss vs
def kindss : List GVal → Prop
  | [] => True
  | g :: gs => kinds g ∧ kindss gs
end
mutual
theorem sane_kinds4 : ∀ (g : GVal) (deep c : Int), (saneG g deep c).1 = 0 → kinds g
  | .mk k b n s l ks vs, deep, c, h => by
    simp only [saneG] at h
    split at h
    · simp at h
    rename_i hf
    have hf : fieldsG (.mk k b n s l ks vs) = true := by simpa using hf
    obtain ⟨h1, h2⟩ := fields_kind hf
    simp only [GVal.l, GVal.ks, GVal.kind] at h1 h2
    split at h
    · simp at h
    split at h
    · simp at h
    split at h
    · simp at h
    simp only [kinds]
    have hl : (saneL l deep (c + 1)).1 = 0 := by
      by_cases h0 : (saneL l deep (c + 1)).1 = 0
      · exact h0
      · rw [if_pos h0] at h; exact h
    rw [if_neg (by simp [hl])] at h
    exact ⟨h1, h2, sane_kinds4s l _ _ hl, sane_kinds4s vs _ _ h⟩
theorem sane_kinds4s : ∀ (gs : List GVal) (deep c : Int), (saneL gs deep c).1 = 0 → kindss gs
  | [], _, _, _ => trivial
  | g :: gs, deep, c, h => by
    simp only [saneL] at h
    have hg : (saneG g (deep + 1) c).1 = 0 := by
      by_cases h0 : (saneG g (deep + 1) c).1 = 0
      · exact h0
      · rw [if_pos h0] at h; exact h
    rw [if_neg (by simp [hg])] at h
    exact ⟨sane_kinds4 g _ _ hg, sane_kinds4s gs _ _ h⟩
end
/-! ### What stands at a place -/

/-! ### The record at a place -/

theorem Loc.kid_rec {gap : Int} (hg : 0 < gap) {L : List GRec} {g : GVal} {p : Nat} {now : Int} {pre : List GStep} (h : Loc gap L g p now pre) {m : Nat} {x : Itm} (hx : (its g)[m]? = some x) :
    ∃ r, L[p + 1 + cntI ((its g).take m)]? = some r ∧ r.nm = x.nm ∧ r.name = x.name := by
  obtain ⟨h1, h2⟩ := h.kid hg hx
  obtain ⟨nm, name, h3⟩ := h1.rec_
  have h4 := h1.place (p + 1 + cntI ((its g).take m) + 1) (by omega)
  unfold upF at h4
  rw [h2, if_neg (by omega), List.reverse_append] at h4
  have h5 : stepG L (p + 1 + cntI ((its g).take m)) ((p : Int).toNat) = stepOf m x := (List.cons.inj h4).1
  unfold stepG stepOf at h5
  rw [h3] at h5
  dsimp only at h5
  injection h5 with h6 h7 h8
  exact ⟨_, h3, h8, h6⟩

theorem firstR_at {L : List GRec} {s : GStep} : ∀ {ks : List Nat} {n m q : Nat} {r : GRec}, (∀ (j k : Nat), j < m → ks[j]? = some k → ∃ r, L[k]? = some r ∧ fitsR s (n + j) r = false) → ks[m]? = some q → L[q]? = some r → fitsR s (n + m) r = true →
    firstR L s ks n = some q
  | k :: ks, n, 0, q, r, _, h1, h2, h3 => by
    simp only [List.getElem?_cons_zero, Option.some.injEq] at h1
    subst h1
    unfold firstR
    rw [h2]
    dsimp only
    rw [Nat.add_zero] at h3
    rw [if_pos h3]
  | k :: ks, n, m + 1, q, r, h, h1, h2, h3 => by
    obtain ⟨r0, a1, a2⟩ := h 0 k (by omega) rfl
    unfold firstR
    rw [a1]
    dsimp only
    rw [Nat.add_zero] at a2
    rw [a2, if_neg (by simp)]
    refine firstR_at (m := m) (fun j k' hj hk' => ?_) (by simpa using h1) h2 (by rw [show n + 1 + m = n + (m + 1) by omega]; exact h3)
    have := h (j + 1) k' (by omega) (by simpa using hk')
    rw [show n + (j + 1) = n + 1 + j by omega] at this
    exact this
  | [], _, _, _, _, _, h1, _, _ => by simp at h1

theorem Loc.kid_pos {gap : Int} (hg : 0 < gap) {L : List GRec} {g : GVal} {p : Nat} {now : Int} {pre : List GStep} (h : Loc gap L g p now pre) {m : Nat} (hm : m < (its g).length) : (kidsG L p)[m]? = some (p + 1 + cntI ((its g).take m)) := by
  rw [h.kids hg, ← vals_its h.wf, pos_get _ _ _ (by simpa [valsI] using hm)]
  unfold cntI valsI
  rw [List.map_take]

theorem fits_self (m : Nat) (x : Itm) {r : GRec} (h1 : r.nm = x.nm) (h2 : r.name = x.name) : fitsR (stepOf m x) m r = true := by
  unfold fitsR stepOf
  rw [h1, h2]
  cases x.nm <;> simp
theorem fits_other {g : GVal} (hk : keysOk g) {j m : Nat} {x y : Itm} (hx : (its g)[m]? = some x) (hy : (its g)[j]? = some y) (hne : j ≠ m) {r : GRec} (h1 : r.nm = y.nm) (h2 : r.name = y.name) : fitsR (stepOf m x) j r = false := by
  have hst : stepOf j y ≠ stepOf m x := fun e => hne (stepOf_inj hk hy hx e)
  unfold fitsR stepOf at *
  rw [h1, h2]
  cases hxn : x.nm <;> cases hyn : y.nm <;> simp_all
  · omega

theorem loc_find {gap : Int} (hg : 0 < gap) {L : List GRec} {g : GVal} {p : Nat} {now : Int} {P : List GStep} {h : GVal} {q : Nat} {a : Int} (hs : Sub gap g p now P h q a) : ∀ {pre : List GStep}, Loc gap L g p now pre → findR L p P = q := by
  induction hs with
  | refl => intro pre _; rfl
  | @step g p now m x P h q a hx hs ih =>
    intro pre hl
    have hlt := (List.getElem?_eq_some_iff.1 hx).1
    obtain ⟨r, h1, h2, h3⟩ := hl.kid_rec hg hx
    have hf : firstR L (stepOf m x) (kidsG L p) 0 = some (p + 1 + cntI ((its g).take m)) := by
      refine firstR_at (m := m) (fun j k hj hk => ?_) (hl.kid_pos hg hlt) h1 (by rw [Nat.zero_add]; exact fits_self m x h2 h3)
      have hy : (its g)[j]? = some ((its g)[j]'(by omega)) := List.getElem?_eq_getElem _
      obtain ⟨r', a1, a2, a3⟩ := hl.kid_rec hg hy
      rw [hl.kid_pos hg (by omega)] at hk
      obtain rfl := Option.some.inj hk
      exact ⟨r', a1, by rw [Nat.zero_add]; exact fits_other hl.keys hx hy (by omega) a2 a3⟩
    rw [findR, hf]
    exact ih (hl.kid hg hx).1

/-! ### The last one in a record -/

end Go.Sy
/- Plain laws: lists of records that are a value's, whatever their numbers, as long as these go up. No program in sight. -/
namespace Go.Sy

mutual
/-- L is a value's records; its numbers go up, above lo and up to hi. -/
inductive LayV : GVal → Int → Bool → ByteArray → Int → List GRec → Int → Prop
  | mk {g : GVal} {lv : Int} {nm : Bool} {name : ByteArray} {lo st en m hi : Int} {K : List GRec} (h1 : lo < st) (h2 : LayI (its g) (lv + 1) st K m) (h3 : m < en) (h4 : en ≤ hi) : LayV g lv nm name lo (⟨st, en, lv, g.kind, nm, name, g.b, g.n, g.s⟩ :: K) hi
inductive LayI : List Itm → Int → Int → List GRec → Int → Prop
  | nil {lv lo hi : Int} (h : lo ≤ hi) : LayI [] lv lo [] hi
  | cons {x : Itm} {xs : List Itm} {lv lo mid hi : Int} {A B : List GRec} (h1 : LayV x.v lv x.nm x.name lo A mid) (h2 : LayI xs lv mid B hi) : LayI (x :: xs) lv lo (A ++ B) hi
end

mutual
theorem LayV.le : ∀ {g : GVal} {lv : Int} {nm : Bool} {name : ByteArray} {lo hi : Int} {L : List GRec}, LayV g lv nm name lo L hi → lo + 2 ≤ hi
  | _, _, _, _, _, _, _, .mk h1 h2 h3 h4 => by have := h2.le; omega
theorem LayI.le : ∀ {xs : List Itm} {lv lo hi : Int} {L : List GRec}, LayI xs lv lo L hi → lo ≤ hi
  | _, _, _, _, _, .nil h => h
  | _, _, _, _, _, .cons h1 h2 => by have := h1.le; have := h2.le; omega
end

mutual
theorem LayV.bd : ∀ {g : GVal} {lv : Int} {nm : Bool} {name : ByteArray} {lo hi : Int} {L : List GRec}, LayV g lv nm name lo L hi → ∀ r ∈ L, lo < r.st ∧ r.st < r.en ∧ r.en ≤ hi
  | _, _, _, _, _, _, _, .mk h1 h2 h3 h4 => by
    intro r hr
    have hl := h2.le
    rcases List.mem_cons.1 hr with rfl | hr
    · dsimp only
      omega
    · have := h2.bd r hr
      omega
theorem LayI.bd : ∀ {xs : List Itm} {lv lo hi : Int} {L : List GRec}, LayI xs lv lo L hi → ∀ r ∈ L, lo < r.st ∧ r.st < r.en ∧ r.en ≤ hi
  | _, _, _, _, _, .nil h => by intro r hr; cases hr
  | _, _, _, _, _, .cons h1 h2 => by
    intro r hr
    have := h1.le
    have := h2.le
    rcases List.mem_append.1 hr with hr | hr
    · have := h1.bd r hr; omega
    · have := h2.bd r hr; omega
end

mutual
theorem LayV.len : ∀ {g : GVal} {lv : Int} {nm : Bool} {name : ByteArray} {lo hi : Int} {L : List GRec}, LayV g lv nm name lo L hi → g.wf → L.length = cntV g
  | _, _, _, _, _, _, _, .mk h1 h2 h3 h4, hw => by
    rw [List.length_cons, h2.len (wfs_its hw), cntI_its hw]
    omega
theorem LayI.len : ∀ {xs : List Itm} {lv lo hi : Int} {L : List GRec}, LayI xs lv lo L hi → GVal.wfs (valsI xs) → L.length = cntI xs
  | _, _, _, _, _, .nil h, _ => rfl
  | _, _, _, _, _, .cons h1 h2, hw => by
    simp only [valsI, List.map_cons, GVal.wfs] at hw
    rw [List.length_append, h1.len hw.1, h2.len hw.2]
    rfl
end

/-! ### A shred -/

mutual
theorem shredV_lay {gap : Int} (hg : 0 < gap) : ∀ (n : Nat) (g : GVal), cntV g ≤ n → g.wf → ∀ (lv : Int) (nm : Bool) (name : ByteArray) (now : Int), LayV g lv nm name now (shredV gap g lv nm name now).1 (now + wV gap g)
  | 0, g, hn, _, _, _, _, _ => by have := cntV_pos g; omega
  | n + 1, g, hn, hw, lv, nm, name, now => by
    rw [shredV_its gap g lv nm name now hw]
    have hc := cntI_its hw
    have hl := shredI_lay hg n (its g) (by omega) (wfs_its hw) (lv + 1) (now + gap)
    have hwe := wI_its (gap := gap) hw
    exact .mk (by omega) hl (by omega) (by omega)
termination_by n => (n, 0)
theorem shredI_lay {gap : Int} (hg : 0 < gap) : ∀ (n : Nat) (xs : List Itm), cntI xs ≤ n → GVal.wfs (valsI xs) → ∀ (lv now : Int), LayI xs lv now (shredI gap xs lv now).1 (now + wI gap xs)
  | _, [], _, _, _, now => .nil (by unfold wI; simp [valsI, wL])
  | n, x :: xs, hn, hw, lv, now => by
    simp only [valsI, List.map_cons, GVal.wfs] at hw
    have hc : cntI (x :: xs) = cntV x.v + cntI xs := rfl
    have he : wI gap (x :: xs) = wV gap x.v + wI gap xs := rfl
    have hs := (shredV_sk gap x.v lv x.nm x.name now hw.1).2
    have h1 := shredV_lay hg n x.v (by omega) hw.1 lv x.nm x.name now
    have h2 := shredI_lay hg n xs (by omega) hw.2 lv (now + wV gap x.v)
    unfold shredI
    dsimp only
    rw [hs, he, ← Int.add_assoc]
    exact .cons h1 h2
termination_by n xs => (n, xs.length + 1)
end
theorem shred_lay {gap : Int} (hg : 0 < gap) {g : GVal} (hw : g.wf) (lv : Int) (nm : Bool) (name : ByteArray) (now : Int) : LayV g lv nm name now (shredV gap g lv nm name now).1 (now + wV gap g) := shredV_lay hg _ g (Nat.le_refl _) hw lv nm name now
theorem shredI_lay' {gap : Int} (hg : 0 < gap) {xs : List Itm} (hw : GVal.wfs (valsI xs)) (lv now : Int) : LayI xs lv now (shredI gap xs lv now).1 (now + wI gap xs) := shredI_lay hg _ xs (Nat.le_refl _) hw lv now

mutual
theorem LayV.map {φ : Int → Int} (hφ : Incr φ) : ∀ {g : GVal} {lv : Int} {nm : Bool} {name : ByteArray} {lo hi : Int} {L : List GRec}, LayV g lv nm name lo L hi → 0 ≤ lo → LayV g lv nm name (φ lo) (L.map (stE φ)) (φ hi)
  | _, _, _, _, lo, hi, _, .mk (st := st) (en := en) (m := m) h1 h2 h3 h4, h0 => by
    have hl := h2.le
    have a1 := hφ lo st h0 h1
    have a2 := hφ m en (by omega) h3
    have a3 : φ en ≤ φ hi := by
      by_cases he : en = hi
      · rw [he]; exact Int.le_refl _
      · have := hφ en hi (by omega) (by omega); omega
    exact .mk a1 (h2.map hφ (by omega)) a2 a3
theorem LayI.map {φ : Int → Int} (hφ : Incr φ) : ∀ {xs : List Itm} {lv lo hi : Int} {L : List GRec}, LayI xs lv lo L hi → 0 ≤ lo → LayI xs lv (φ lo) (L.map (stE φ)) (φ hi)
  | _, _, lo, hi, _, .nil h, h0 => by
    refine .nil ?_
    by_cases he : lo = hi
    · rw [he]; exact Int.le_refl _
    · have := hφ lo hi h0 (by omega); omega
  | _, _, _, _, _, .cons h1 h2, h0 => by
    have := h1.le
    rw [List.map_append]
    exact .cons (h1.map hφ h0) (h2.map hφ (by omega))
end

/-! ### Nested -/

mutual
theorem LayV.nest : ∀ {g : GVal} {lv : Int} {nm : Bool} {name : ByteArray} {lo hi : Int} {L : List GRec}, LayV g lv nm name lo L hi → ∀ (k : Nat) (ro0 ro : List GRec) (last0 last : Int) (rest : List GRec), AtN lv ro0 last0 ro last → 0 ≤ lv → decide (lv = 0) = decide ((k : Int) = 0) → last ≤ lo →
    ∃ ro1 last1 last2, AtN lv ro1 last1 ro last2 ∧ last2 ≤ hi ∧ nestFrom k ro0 last0 (L ++ rest) = nestFrom (k + L.length) ro1 last1 rest
  | g, lv, nm, name, lo, hi, _, .mk (st := st) (en := en) (m := m) (K := K) h1 h2 h3 h4, k, ro0, ro, last0, last, rest, hA, h0, hk, hl => by
    have hlen := hA.len
    have hle := hA.le
    simp only [List.cons_append, nestFrom]
    rw [if_neg (by rw [hk]; simp; omega), hA.cl]
    dsimp only
    rw [if_neg (by omega)]
    generalize hr0 : (⟨st, en, lv, g.kind, nm, name, g.b, g.n, g.s⟩ : GRec) = r0
    have hen : r0.en = en := by rw [← hr0]
    obtain ⟨ro1, last1, last2, hA1, hl2, he1⟩ := h2.nest (k + 1) (r0 :: ro) (r0 :: ro) st st rest
      ⟨closeTo_same _ (by simp only [List.length_cons]; omega), by simp only [List.length_cons]; omega, by simp only [List.length_cons]; omega⟩ (by omega) (Nat.succ_pos k) (Int.le_refl _)
    refine ⟨ro1, last1, en, ⟨?_, hlen, by have := hA1.le; omega⟩, h4, ?_⟩
    · obtain ⟨x, hx⟩ := closeTo_suffix _ _ _ _ hA1.cl
      have hx : ro1 = x ++ (r0 :: ro) := hx
      have hlr : (((r0 :: ro).length : Nat) : Int) = lv + 1 := hA1.len
      have hcl := hA1.cl
      rw [← hlr, hx] at hcl
      rw [hx, closeTo_trans x (r0 :: ro) last1 last2 hcl lv (by omega), closeTo, if_pos (by omega), if_neg (by omega), hen]
      exact closeTo_same _ hlen
    · rw [he1, List.length_cons]
      congr 1
      omega
theorem LayI.nest : ∀ {xs : List Itm} {lv lo hi : Int} {L : List GRec}, LayI xs lv lo L hi → ∀ (k : Nat) (ro0 ro : List GRec) (last0 last : Int) (rest : List GRec), AtN lv ro0 last0 ro last → 1 ≤ lv → 0 < k → last ≤ lo →
    ∃ ro1 last1 last2, AtN lv ro1 last1 ro last2 ∧ last2 ≤ hi ∧ nestFrom k ro0 last0 (L ++ rest) = nestFrom (k + L.length) ro1 last1 rest
  | _, _, _, _, _, .nil h, k, ro0, ro, last0, last, rest, hA, h0, hk, hl => ⟨ro0, last0, last, hA, by omega, rfl⟩
  | _, lv, _, _, _, .cons (A := A) (B := B) h1 h2, k, ro0, ro, last0, last, rest, hA, h0, hk, hl => by
    rw [List.append_assoc, List.length_append]
    obtain ⟨ro1, last1, last2, hA1, hl2, he1⟩ := h1.nest k ro0 ro last0 last (B ++ rest) hA (by omega) (by rw [decide_eq_false (by omega), decide_eq_false (by omega)]) hl
    obtain ⟨ro2, last3, last4, hA2, hl4, he2⟩ := h2.nest (k + A.length) ro1 ro last1 last2 rest hA1 h0 (by omega) hl2
    exact ⟨ro2, last3, last4, hA2, hl4, by rw [he1, he2, Nat.add_assoc]⟩
end

theorem LayV.nested {g : GVal} {nm : Bool} {name : ByteArray} {lo hi : Int} {L : List GRec} (h : LayV g 0 nm name lo L hi) (h0 : -1 ≤ lo) : nestedG L = true := by
  unfold nestedG
  obtain ⟨ro1, last1, last2, hA, -, he⟩ := h.nest 0 [] [] (-1) (-1) [] ⟨rfl, rfl, Int.le_refl _⟩ (Int.le_refl _) rfl h0
  rw [List.append_nil] at he
  rw [he, nestFrom, closeAll_of ro1 last1 _ hA.cl, Bool.true_and]
  cases h
  rw [List.length_cons]
  exact decide_eq_true (by omega)

/-! ### Named, built -/

/-- A record without its numbers. -/
def er (r : GRec) : GRec := stE (fun _ => 0) r

mutual
theorem LayV.er_eq : ∀ {g : GVal} {lv : Int} {nm : Bool} {name : ByteArray} {lo hi : Int} {L : List GRec}, LayV g lv nm name lo L hi → g.wf → ∀ (gap now : Int), L.map er = (shredV gap g lv nm name now).1.map er
  | _, lv, nm, name, _, _, _, .mk h1 h2 h3 h4, hw, gap, now => by
    rw [shredV_its gap _ lv nm name now hw, List.map_cons, List.map_cons, h2.er_eq (wfs_its hw) gap (now + gap)]
    rfl
theorem LayI.er_eq : ∀ {xs : List Itm} {lv lo hi : Int} {L : List GRec}, LayI xs lv lo L hi → GVal.wfs (valsI xs) → ∀ (gap now : Int), L.map er = (shredI gap xs lv now).1.map er
  | _, _, _, _, _, .nil h, _, _, _ => rfl
  | x :: xs, lv, _, _, _, .cons h1 h2, hw, gap, now => by
    simp only [valsI, List.map_cons, GVal.wfs] at hw
    unfold shredI
    rw [List.map_append, List.map_append, h1.er_eq hw.1 gap now, h2.er_eq hw.2 gap (shredV gap x.v lv x.nm x.name now).2]
end

theorem namedFrom_er : ∀ (L : List GRec) (op : List Int), namedFrom op (L.map er) = namedFrom op L
  | [], _ => rfl
  | r :: l, op => by
    have ih := namedFrom_er l (op.take r.lv.toNat ++ [r.kd])
    rw [List.map_cons, namedFrom, namedFrom]
    show (if _ then false else namedFrom (op.take r.lv.toNat ++ [r.kd]) (l.map er)) = _
    rw [ih]
    rfl

mutual
theorem buildN_er : ∀ (n : Nat) (L : List GRec), buildN n (L.map er) = ((buildN n L).1, (buildN n L).2.map er)
  | 0, _ => rfl
  | _ + 1, [] => rfl
  | n + 1, r :: l => by
    rw [List.map_cons, buildN, buildN, show (er r).lv = r.lv from rfl, kidsN_er n r.lv l]
    rfl
theorem kidsN_er : ∀ (n : Nat) (lv : Int) (L : List GRec), kidsN n lv (L.map er) = ⟨(kidsN n lv L).ls, (kidsN n lv L).ks, (kidsN n lv L).vs, (kidsN n lv L).rest.map er⟩
  | 0, _, _ => rfl
  | _ + 1, _, [] => rfl
  | n + 1, lv, k :: l => by
    have h1 := buildN_er n (k :: l)
    rw [List.map_cons] at h1
    rw [List.map_cons, kidsN, kidsN, h1]
    dsimp only
    rw [kidsN_er n lv (buildN n (k :: l)).2]
    show (if lv < k.lv then if k.nm = true then _ else _ else _) = _
    by_cases ha : lv < k.lv
    · rw [if_pos ha, if_pos ha]
      by_cases hb : k.nm = true
      · rw [if_pos hb, if_pos hb]; rfl
      · rw [if_neg hb, if_neg hb]
    · rw [if_neg ha, if_neg ha]
      rfl
end

theorem LayV.named {g : GVal} {lo hi : Int} {L : List GRec} (h : LayV g 0 false emptyS lo L hi) (hw : g.wf) (hk : kindOk g) : namedG L = true := by
  have h1 := named_shred (fun _ => 0) 1 g hk
  have h2 := h.er_eq hw 1 0
  unfold namedG at h1 ⊢
  rw [← namedFrom_er, h2]
  exact h1
theorem LayV.built {g : GVal} {nm : Bool} {name : ByteArray} {lo hi : Int} {L : List GRec} (h : LayV g 0 nm name lo L hi) (hw : g.wf) : buildG L = (g, []) := by
  have h1 := build_shred (fun _ => 0) 1 g nm name 0 hw
  have h2 := h.er_eq hw 1 0
  have hl := congrArg List.length h2
  rw [List.length_map, List.length_map] at hl
  unfold buildG at h1 ⊢
  have h3 := buildN_er (enough L) L
  rw [h2] at h3
  have he : enough ((shredV 1 g 0 nm name 0).1.map (stE fun _ => 0)) = enough L := by unfold enough; rw [List.length_map, hl]
  rw [he] at h1
  have h4 : (((buildN (enough L) L).1, (buildN (enough L) L).2.map er) : GVal × List GRec) = (g, []) := by rw [← h3]; exact h1
  have h5 := congrArg Prod.fst h4
  have h6 := congrArg Prod.snd h4
  dsimp only at h5 h6
  rw [List.map_eq_nil_iff] at h6
  rw [← h5, ← h6]

/-- WHAT LIES AS A VALUE'S RECORDS IS BUILT. -/
theorem LayV.buildR {g : GVal} {lo hi : Int} {L : List GRec} (h : LayV g 0 false emptyS lo L hi) (h0 : -1 ≤ lo) (hw : g.wf) (hs : sane g = 0) (hl : L.length ≤ 4096) (hen : hi ≤ 1099511627776) : Go.Sy.buildR L = (g, 0) := by
  have h1 := h.nested h0
  have h2 := h.named hw (sane_kind g 0 0 hw hs)
  have h3 := h.built hw
  unfold Go.Sy.buildR
  rw [if_neg, if_neg, h3]
  · rw [h3]; simp [hs]
  · rw [h1, h2]
    have h4 : (L.head?.map GRec.en).getD 0 ≤ 1099511627776 := by
      cases h with
      | mk a b c d => show _ ≤ _; dsimp only [List.head?_cons, Option.map_some, Option.getD_some]; omega
    rintro (h | h | h | h)
    · omega
    · cases h
    · cases h
    · omega

/-! ### One value in another's place -/

/-- A value with what stands at m replaced. -/
def setIt (g : GVal) (m : Nat) (v : GVal) : GVal := if m < g.l.length then .mk g.kind g.b g.n g.s (g.l.set m v) g.ks g.vs else .mk g.kind g.b g.n g.s g.l g.ks (g.vs.set (m - g.l.length) v)

/-- g' is g with h' in the place of h, which stands at P. -/
inductive Swap : GVal → GVal → List GStep → GVal → GVal → Prop
  | refl (h h' : GVal) : Swap h h' [] h h'
  | step {g v' : GVal} {m : Nat} {x : Itm} {P : List GStep} {h h' : GVal} (hx : (its g)[m]? = some x) (hs : Swap x.v v' P h h') : Swap g (setIt g m v') (stepOf m x :: P) h h'

end Go.Sy
/- Plain: what the program computes of changes of records; records numbered anew tell their value. No program in sight. -/
namespace Go.Sy

/-! ### Numbers given anew -/

/-- The records, the open ones (the last one first), the next number. -/
structure RnS where
  L : List GRec
  op : List Nat
  ord : Int

def GRec.atSt (r : GRec) (x : Int) : GRec := ⟨x, r.en, r.lv, r.kd, r.nm, r.name, r.b, r.n, r.s⟩
def GRec.atEn (r : GRec) (x : Int) : GRec := ⟨r.st, x, r.lv, r.kd, r.nm, r.name, r.b, r.n, r.s⟩
def setEn (L : List GRec) (i : Nat) (x : Int) : List GRec := match L[i]? with
  | some r => L.set i (r.atEn x)
  | none => L
def setSt (L : List GRec) (i : Nat) (x : Int) : List GRec := match L[i]? with
  | some r => L.set i (r.atSt x)
  | none => L
/-- The open ones shut down to a level. -/
def shutS (lv : Int) : List GRec → List Nat → Int → RnS
  | L, [], ord => ⟨L, [], ord⟩
  | L, t :: op, ord => if lv < (op.length : Int) + 1 then shutS lv (setEn L t ord) op (ord + 1) else ⟨L, t :: op, ord⟩
def lvAt (L : List GRec) (i : Nat) : Int := (L[i]?.map GRec.lv).getD 0
def stepR (s : RnS) (k : Nat) : RnS :=
  let t := shutS (lvAt s.L k) s.L s.op s.ord
  ⟨setSt t.L k t.ord, k :: t.op, t.ord + 1⟩
def runR (s : RnS) (a n : Nat) : RnS := (List.range' a n).foldl stepR s
/-! ### A value by numbers -/

mutual
def treeN : Nat → List GRec → GVal
  | 0, _ => gval0
  | _ + 1, [] => gval0
  | n + 1, r :: l => .mk r.kd r.b r.n r.s (forestN n l).ls (forestN n l).ks (forestN n l).vs
def forestN : Nat → List GRec → Kids
  | 0, _ => ⟨[], [], [], []⟩
  | _ + 1, [] => ⟨[], [], [], []⟩
  | n + 1, k :: l =>
    let R := forestN n (l.drop (runL k.en l))
    let x := treeN n (k :: l.take (runL k.en l))
    if k.nm then ⟨R.ls, k.name :: R.ks, x :: R.vs, []⟩ else ⟨x :: R.ls, R.ks, R.vs, []⟩
end
/-- How much records weigh. -/
def recW (r : GRec) : Nat := 1 + r.s.size + r.n.dg.size + r.name.size
def recsW : List GRec → Nat
  | [] => 0
  | r :: l => recW r + recsW l
theorem recsW_append : ∀ a b : List GRec, recsW (a ++ b) = recsW a + recsW b
  | [], b => by simp [recsW]
  | r :: a, b => by simp only [List.cons_append, recsW, recsW_append a b]; omega
theorem recsW_len : ∀ L : List GRec, L.length ≤ recsW L
  | [] => Nat.le_refl _
  | r :: l => by have := recsW_len l; simp only [List.length_cons, recsW, recW]; omega

mutual
theorem treeN_w : ∀ (n : Nat) (L : List GRec), 0 < L.length → (treeN n L).weight ≤ recsW L
  | 0, L, h => by
    have : gval0.weight = 1 := rfl
    have := recsW_len L
    rw [treeN]
    omega
  | n + 1, [], h => by simp at h
  | n + 1, r :: l, _ => by
    have := forestN_w n l
    rw [treeN, GVal.weight, recsW, recW]
    omega
theorem forestN_w : ∀ (n : Nat) (L : List GRec), GVal.weights (forestN n L).ls + sizes (forestN n L).ks + GVal.weights (forestN n L).vs ≤ recsW L
  | 0, L => by rw [forestN]; simp [GVal.weights, sizes]
  | n + 1, [] => by rw [forestN]; simp [GVal.weights, sizes]
  | n + 1, k :: l => by
    have h1 := treeN_w n (k :: l.take (runL k.en l)) (by simp)
    have h2 := forestN_w n (l.drop (runL k.en l))
    have h3 : recsW (l.take (runL k.en l)) + recsW (l.drop (runL k.en l)) = recsW l := by rw [← recsW_append, List.take_append_drop]
    rw [recsW] at h1
    rw [forestN, recsW]
    by_cases hn : k.nm = true
    · rw [if_pos hn]
      dsimp only
      rw [sizes, GVal.weights]
      have : (treeN n (k :: l.take (runL k.en l))).weight + k.name.size ≤ recW k + recsW (l.take (runL k.en l)) := by
        cases n with
        | zero =>
          have : gval0.weight = 1 := rfl
          rw [treeN, recW]
          omega
        | succ n =>
          have := forestN_w n (l.take (runL k.en l))
          rw [treeN, GVal.weight, recW]
          omega
      omega
    · rw [if_neg hn]
      dsimp only
      rw [GVal.weights]
      omega
end

/-! ### Numbers given anew to a value's records are a shred's -/

theorem setEn_lv (L : List GRec) (i : Nat) (x : Int) (k : Nat) : lvAt (setEn L i x) k = lvAt L k := by
  unfold lvAt setEn
  split
  · rename_i r hr
    rw [List.getElem?_set]
    by_cases h : i = k
    · subst h
      rw [if_pos rfl, if_pos (List.getElem?_eq_some_iff.1 hr).1, hr]
      rfl
    · rw [if_neg h]
  · rfl
theorem shutS_lv : ∀ (lv : Int) (L : List GRec) (op : List Nat) (ord : Int) (k : Nat), lvAt (shutS lv L op ord).L k = lvAt L k
  | _, L, [], _, _ => rfl
  | lv, L, t :: op, ord, k => by
    rw [shutS]
    split
    · rw [shutS_lv lv, setEn_lv]
    · rfl
theorem shutS_same {lv : Int} (L : List GRec) (op : List Nat) (ord : Int) (h : (op.length : Int) ≤ lv) : shutS lv L op ord = ⟨L, op, ord⟩ := by
  cases op with
  | nil => rfl
  | cons t op =>
    rw [List.length_cons] at h
    rw [shutS, if_neg (by omega)]
theorem shutS_trans : ∀ (lv lv' : Int) (_ : lv' ≤ lv) (L : List GRec) (op : List Nat) (ord : Int), shutS lv' (shutS lv L op ord).L (shutS lv L op ord).op (shutS lv L op ord).ord = shutS lv' L op ord
  | _, _, _, L, [], _ => rfl
  | lv, lv', h, L, t :: op, ord => by
    by_cases h1 : lv < (op.length : Int) + 1
    · conv => rhs; rw [shutS, if_pos (by omega)]
      rw [shutS, if_pos h1]
      exact shutS_trans lv lv' h _ _ _
    · rw [shutS_same (lv := lv) L (t :: op) ord (by rw [List.length_cons]; omega)]

theorem er_map {L M : List GRec} (h : L.map er = M.map er) (k : Nat) : (L[k]?.map er) = (M[k]?.map er) := by
  have := congrArg (fun l : List GRec => l[k]?) h
  simpa using this
theorem er_lv {L M : List GRec} (h : L.map er = M.map er) (k : Nat) : lvAt L k = lvAt M k := by
  have := congrArg (fun o : Option GRec => (o.map GRec.lv).getD 0) (er_map h k)
  have h0 : ∀ o : Option GRec, ((o.map er).map GRec.lv).getD 0 = (o.map GRec.lv).getD 0 := fun o => by cases o <;> rfl
  unfold lvAt
  rw [← h0, this, h0]

theorem runR_add (s : RnS) (a m n : Nat) : runR s a (m + n) = runR (runR s a m) (a + m) n := by
  unfold runR
  rw [← List.range'_append_1, List.foldl_append]
theorem runR_one (s : RnS) (a : Nat) : runR s a 1 = stepR s a := rfl

theorem setSt_at (A C : List GRec) (r : GRec) (x : Int) : setSt (A ++ r :: C) A.length x = A ++ r.atSt x :: C := by
  unfold setSt
  rw [List.getElem?_append_right (Nat.le_refl _), Nat.sub_self]
  dsimp only [List.getElem?_cons_zero]
  rw [List.set_append_right _ _ (Nat.le_refl _), Nat.sub_self]
  rfl
theorem setEn_at (A C : List GRec) (r : GRec) (x : Int) : setEn (A ++ r :: C) A.length x = A ++ r.atEn x :: C := by
  unfold setEn
  rw [List.getElem?_append_right (Nat.le_refl _), Nat.sub_self]
  dsimp only [List.getElem?_cons_zero]
  rw [List.set_append_right _ _ (Nat.le_refl _), Nat.sub_self]
  rfl

mutual
theorem renum_V : ∀ (n : Nat) (g : GVal), cntV g ≤ n → g.wf → ∀ (lv : Int) (nm : Bool) (name : ByteArray) (B A C L0 : List GRec) (op0 op : List Nat) (ord0 ord : Int), 0 ≤ lv → (op.length : Int) = lv →
    B.map er = (shredV 1 g lv nm name 0).1.map er → shutS lv L0 op0 ord0 = ⟨A ++ (B ++ C), op, ord⟩ →
    shutS lv (runR ⟨L0, op0, ord0⟩ A.length (cntV g)).L (runR ⟨L0, op0, ord0⟩ A.length (cntV g)).op (runR ⟨L0, op0, ord0⟩ A.length (cntV g)).ord = ⟨A ++ ((shredV 1 g lv nm name (ord - 1)).1 ++ C), op, ord + wV 1 g⟩
  | 0, g, hn, _, _, _, _, _, _, _, _, _, _, _, _, _, _, _, _ => by have := cntV_pos g; omega
  | n + 1, g, hn, hw, lv, nm, name, B, A, C, L0, op0, op, ord0, ord, h0, hop, hB, hS => by
    have hc := cntI_its hw
    have hsv := shredV_its 1 g lv nm name 0 hw
    rw [hsv] at hB
    cases B with
    | nil => simp at hB
    | cons r K =>
      simp only [List.map_cons, List.cons.injEq] at hB
      obtain ⟨hr, hK⟩ := hB
      have hlv0 : lvAt L0 A.length = lv := by
        rw [← shutS_lv lv L0 op0 ord0, hS]
        unfold lvAt
        dsimp only
        rw [List.getElem?_append_right (Nat.le_refl _), Nat.sub_self]
        exact congrArg GRec.lv hr
      have hstep : stepR ⟨L0, op0, ord0⟩ A.length = ⟨A ++ (r.atSt ord :: (K ++ C)), A.length :: op, ord + 1⟩ := by
        unfold stepR
        dsimp only
        rw [hlv0, hS]
        dsimp only
        rw [List.cons_append, setSt_at]
      have hlenA : (A ++ [r.atSt ord]).length = A.length + 1 := by simp
      have hI := renum_I n (its g) (by omega) (wfs_its hw) (lv + 1) K (A ++ [r.atSt ord]) C (A ++ (r.atSt ord :: (K ++ C))) (A.length :: op) (A.length :: op) (ord + 1) (ord + 1) (by omega) (by rw [List.length_cons]; omega)
        (by
          rw [hK]
          have e1 := (shredI_lay' (gap := 1) (by omega) (wfs_its hw) (lv + 1) (0 + 1)).er_eq (wfs_its hw) 1 0
          exact e1)
        (by rw [shutS_same _ _ _ (by rw [List.length_cons]; omega)]; simp)
      rw [hlenA] at hI
      rw [hc, runR_add, runR_one, hstep]
      generalize runR ⟨A ++ (r.atSt ord :: (K ++ C)), A.length :: op, ord + 1⟩ (A.length + 1) (cntI (its g)) = s at *
      rw [← shutS_trans (lv + 1) lv (by omega), hI]
      dsimp only
      rw [shutS, if_pos (by omega), shutS_same _ _ _ (by omega)]
      rw [List.append_assoc, List.singleton_append, setEn_at, shredV_its 1 g lv nm name (ord - 1) hw]
      have hwe := wI_its (gap := 1) hw
      congr 1
      · rw [show ord + 1 - 1 = ord - 1 + 1 by omega, List.cons_append]
        congr 2
        · have e := hr
          unfold er stE at e
          injection e with _ _ e3 e4 e5 e6 e7 e8 e9
          obtain ⟨a1, a2, a3, a4, a5, a6, a7, a8, a9⟩ := r
          dsimp only at e3 e4 e5 e6 e7 e8 e9
          subst e3 e4 e5 e6 e7 e8 e9
          unfold GRec.atEn GRec.atSt
          dsimp only
          congr 1 <;> omega
      · omega
termination_by n => (n, 0)
theorem renum_I : ∀ (n : Nat) (xs : List Itm), cntI xs ≤ n → GVal.wfs (valsI xs) → ∀ (lv : Int) (B A C L0 : List GRec) (op0 op : List Nat) (ord0 ord : Int), 0 ≤ lv → (op.length : Int) = lv →
    B.map er = (shredI 1 xs lv 0).1.map er → shutS lv L0 op0 ord0 = ⟨A ++ (B ++ C), op, ord⟩ →
    shutS lv (runR ⟨L0, op0, ord0⟩ A.length (cntI xs)).L (runR ⟨L0, op0, ord0⟩ A.length (cntI xs)).op (runR ⟨L0, op0, ord0⟩ A.length (cntI xs)).ord = ⟨A ++ ((shredI 1 xs lv (ord - 1)).1 ++ C), op, ord + wI 1 xs⟩
  | n, [], hn, hw, lv, B, A, C, L0, op0, op, ord0, ord, h0, hop, hB, hS => by
    have : B = [] := by simpa [shredI] using hB
    subst this
    have h1 : cntI [] = 0 := rfl
    have h2 : wI 1 [] = 0 := rfl
    rw [h1, h2, Int.add_zero]
    exact hS
  | n, x :: xs, hn, hw, lv, B, A, C, L0, op0, op, ord0, ord, h0, hop, hB, hS => by
    simp only [valsI, List.map_cons, GVal.wfs] at hw
    have hc : cntI (x :: xs) = cntV x.v + cntI xs := rfl
    have he : wI 1 (x :: xs) = wV 1 x.v + wI 1 xs := rfl
    unfold shredI at hB
    dsimp only at hB
    rw [List.map_append] at hB
    obtain ⟨B1, B2, rfl, h1, h2⟩ := List.map_eq_append_iff.1 hB
    have hlen1 : B1.length = cntV x.v := by
      have := congrArg List.length h1
      rw [List.length_map, List.length_map] at this
      rw [this]
      have := congrArg List.length (shredV_sk 1 x.v lv x.nm x.name 0 hw.1).1
      rw [List.length_map, skV_len] at this
      exact this
    have hV := renum_V n x.v (by omega) hw.1 lv x.nm x.name B1 A (B2 ++ C) L0 op0 op ord0 ord h0 hop h1 (by rw [hS, List.append_assoc])
    have hsk := shredV_sk 1 x.v lv x.nm x.name (ord - 1) hw.1
    have hlen2 : (shredV 1 x.v lv x.nm x.name (ord - 1)).1.length = cntV x.v := by
      have := congrArg List.length hsk.1
      rw [List.length_map, skV_len] at this
      exact this
    rw [hc, runR_add]
    generalize runR ⟨L0, op0, ord0⟩ A.length (cntV x.v) = s at *
    have hI := renum_I n xs (by omega) hw.2 lv B2 (A ++ (shredV 1 x.v lv x.nm x.name (ord - 1)).1) C s.L s.op op s.ord (ord + wV 1 x.v) h0 hop
      (by
        rw [h2]
        have hw2 : GVal.wfs (valsI xs) := hw.2
        exact (shredI_lay' (gap := 1) (by omega) hw2 lv _).er_eq hw2 1 0)
      (by rw [hV, List.append_assoc])
    rw [List.length_append, hlen2] at hI
    rw [show (⟨s.L, s.op, s.ord⟩ : RnS) = s from rfl] at hI
    have hI2 : (shredI 1 (x :: xs) lv (ord - 1)).1 = (shredV 1 x.v lv x.nm x.name (ord - 1)).1 ++ (shredI 1 xs lv (shredV 1 x.v lv x.nm x.name (ord - 1)).2).1 := rfl
    rw [hI, he, hI2, hsk.2, show ord + wV 1 x.v - 1 = ord - 1 + wV 1 x.v by omega]
    congr 1
    · simp only [List.append_assoc]
    · omega
termination_by n xs => (n, xs.length + 1)
end

/-! ### A shred's numbers tell its value -/

theorem runL_blk {en : Int} : ∀ (B C : List GRec), (∀ r ∈ B, r.st < en) → (∀ r, C.head? = some r → en ≤ r.st) → runL en (B ++ C) = B.length
  | [], C, _, hc => by
    cases C with
    | nil => rfl
    | cons r l =>
      have := hc r rfl
      rw [List.nil_append, runL, if_neg (by omega)]
      rfl
  | r :: B, C, h, hc => by
    rw [List.cons_append, runL, if_pos (h r List.mem_cons_self), runL_blk B C (fun x hx => h x (List.mem_cons_of_mem _ hx)) hc, List.length_cons]

mutual
theorem LayV.tree : ∀ {g : GVal} {lv : Int} {nm : Bool} {name : ByteArray} {lo hi : Int} {L : List GRec}, LayV g lv nm name lo L hi → g.wf → ∀ n, 2 * L.length ≤ n → treeN n L = g
  | g, _, _, _, _, _, _, .mk (K := K) h1 h2 h3 h4, hw, n, hn => by
    rw [List.length_cons] at hn
    obtain ⟨n, rfl⟩ : ∃ m, n = m + 1 := ⟨n - 1, by omega⟩
    have := h2.forest (wfs_its hw) n (by omega)
    rw [treeN]
    dsimp only
    have hk := (wf_eq g).1 hw
    have e1 := this.1
    have e2 := this.2.1
    have e3 := this.2.2
    have hL : ((its g).filter fun x => !x.nm).map Itm.v = g.l ∧ ((its g).filter fun x => x.nm).map Itm.name = g.ks ∧ ((its g).filter fun x => x.nm).map Itm.v = g.vs := by
      have a1 : ∀ l : List GVal, (itsL l).filter (fun x => !x.nm) = itsL l ∧ (itsL l).filter (fun x => x.nm) = [] := by
        intro l
        constructor
        · rw [List.filter_eq_self]
          intro x hx
          obtain ⟨y, _, rfl⟩ := List.mem_map.1 hx
          rfl
        · rw [List.filter_eq_nil_iff]
          intro x hx
          obtain ⟨y, _, rfl⟩ := List.mem_map.1 hx
          simp
      have a2 : ∀ (vs : List GVal) (ks : List ByteArray), ks.length = vs.length → (itsM vs ks).filter (fun x => !x.nm) = [] ∧ (itsM vs ks).filter (fun x => x.nm) = itsM vs ks ∧ (itsM vs ks).map Itm.name = ks := by
        intro vs
        induction vs with
        | nil =>
          intro ks h
          cases ks with
          | nil => exact ⟨rfl, rfl, rfl⟩
          | cons => simp at h
        | cons v vs ih =>
          intro ks h
          cases ks with
          | nil => simp at h
          | cons k ks =>
            obtain ⟨b1, b2, b3⟩ := ih ks (by simpa using h)
            unfold itsM
            refine ⟨?_, ?_, ?_⟩
            · rw [List.filter_cons_of_neg (by simp), b1]
            · rw [List.filter_cons_of_pos rfl, b2]
            · rw [List.map_cons, b3]
      have b1 := a1 g.l
      have b2 := a2 g.vs g.ks hk.1
      have b3 := (itsM_len g.vs g.ks hk.1).2
      unfold its
      rw [List.filter_append, List.filter_append, b1.1, b1.2, b2.1, b2.2.1, List.append_nil, List.nil_append]
      refine ⟨valsI_L g.l, b2.2.2, b3⟩
    rw [e1, e2, e3, hL.1, hL.2.1, hL.2.2]
    cases g
    rfl
theorem LayI.forest : ∀ {xs : List Itm} {lv lo hi : Int} {L : List GRec}, LayI xs lv lo L hi → GVal.wfs (valsI xs) → ∀ n, 2 * L.length + 1 ≤ n →
    (forestN n L).ls = (xs.filter fun x => !x.nm).map Itm.v ∧ (forestN n L).ks = (xs.filter fun x => x.nm).map Itm.name ∧ (forestN n L).vs = (xs.filter fun x => x.nm).map Itm.v
  | _, _, _, _, _, .nil h, _, n, hn => by
    obtain ⟨n, rfl⟩ : ∃ m, n = m + 1 := ⟨n - 1, by omega⟩
    rw [forestN]
    exact ⟨rfl, rfl, rfl⟩
  | x :: xs, lv, lo, hi, _, .cons (A := A) (B := B) h1 h2, hw, n, hn => by
    obtain ⟨n, rfl⟩ : ∃ m, n = m + 1 := ⟨n - 1, by omega⟩
    simp only [valsI, List.map_cons, GVal.wfs] at hw
    have hB := h2.bd
    have hT := fun n hn => h1.tree hw.1 n hn
    have hpos : 0 < A.length := by
      have := h1.len hw.1
      have := cntV_pos x.v
      omega
    rw [List.length_append] at hn
    cases h1 with
    | mk a b c d =>
      rename_i st en m K
      have hKb := b.bd
      have hrun : runL en (K ++ B) = K.length := runL_blk K B (fun r hr => by have := hKb r hr; omega) (fun r hr => by
        have := hB r (by cases B with | nil => cases hr | cons y l => simp only [List.head?_cons, Option.some.injEq] at hr; subst hr; exact List.mem_cons_self)
        omega)
      rw [List.length_cons] at hn
      have hT := hT n (by rw [List.length_cons]; omega)
      obtain ⟨f1, f2, f3⟩ := h2.forest hw.2 n (by omega)
      rw [List.cons_append, forestN]
      dsimp only
      rw [hrun, List.take_left, List.drop_left, hT]
      by_cases hnm : x.nm = true
      · rw [if_pos hnm]
        rw [List.filter_cons_of_neg (by simp [hnm]), List.filter_cons_of_pos hnm]
        exact ⟨f1, by rw [List.map_cons, f2], by rw [List.map_cons, f3]⟩
      · rw [if_neg hnm]
        rw [List.filter_cons_of_pos (by simpa using hnm), List.filter_cons_of_neg hnm]
        exact ⟨by rw [List.map_cons, f1], f2, f3⟩
end

end Go.Sy
/- More rules: room made by 'append(nil, make(..)..)'; values read in a wider class. No program in sight. -/
namespace Go.Sy

section
variable {cf : Cf} {Q : Exit → Act → World → Prop} {σ : Snap} {env : Env} {hp : HP} {A : List AE} {nh : Nat} {it : Item} {rest : List Item}

/-! ### A class that knows just what is sealed -/

variable {W : (Nat → Addr) → World → Prop}

/-! ### cap -/

/-- An int's quotient. -/
theorem oj_quo {d : Nat} {x y : Operand} {xt yt : TypeId} {m n : Int} (hop : it.o.op = .binOp .quo xt x y yt) (hd : it.o.dst = some d) (hg : guardVal it.guard env = some true) (hN : Nat.blt d cf.N = true)
    (hx : evalO env x = some (.a (.v (.int .i64 m)))) (hy : evalO env y = some (.a (.v (.int .i64 n)))) (hn : n ≠ 0) (hb : -9223372036854775808 ≤ m.tdiv n ∧ m.tdiv n ≤ 9223372036854775807)
    (hk : OJ cf rest Q σ ((d, .a (.v (.int .i64 (m.tdiv n)))) :: env) hp A nh) : OJ cf (it :: rest) Q σ env hp A nh :=
  oj_arith _ hop hd hg hN hx hy (fun w P => run_quo hn (IntWalk.i64_in _ (by omega)) w P) hk

end
end Go.Sy
/- Plain law: the gaps of a shred. No program in sight. -/
namespace Go.Sy

theorem kid_pos {gap : Int} (hg : 0 < gap) {L : List GRec} {h : GVal} {p : Nat} {now : Int} {pre : List GStep} (hl : Loc gap L h p now pre) : (kidsG L p).length = (its h).length ∧ ∀ (m : Nat) (x : Itm), (its h)[m]? = some x → (kidsG L p)[m]? = some (p + 1 + cntI ((its h).take m)) := by
  have hk := hl.kids hg
  have hv := vals_its hl.wf
  have hlen : (its h).length = (h.l ++ h.vs).length := by rw [← hv]; simp [valsI]
  have hpl : ∀ (gs : List GVal) (p : Nat), (pos gs p).length = gs.length := by
    intro gs
    induction gs with
    | nil => intro _; rfl
    | cons g gs ih => intro p; rw [pos, List.length_cons, List.length_cons, ih]
  rw [hk]
  refine ⟨by rw [hpl, hlen], fun m x hx => ?_⟩
  have hm := (List.getElem?_eq_some_iff.1 hx).1
  rw [pos_get _ _ _ (by omega)]
  congr 2
  rw [← hv]
  unfold cntI valsI
  rw [List.map_take]

end Go.Sy
namespace Go.Sy
open Go.Proofs

/-! ### laid -/

/-- A record that is laid elsewhere. -/
def lift (d : Int) (ν : Int → Int) (r : GRec) : GRec := ⟨ν (r.st - 1), ν (r.en - 1), r.lv + d, r.kd, r.nm, r.name, r.b, r.n, r.s⟩
mutual
theorem LayV.lvb : ∀ {g : GVal} {lv : Int} {nm : Bool} {name : ByteArray} {lo hi : Int} {L : List GRec}, LayV g lv nm name lo L hi → ∀ r ∈ L, lv ≤ r.lv ∧ r.lv < lv + L.length
  | _, _, _, _, _, _, _, .mk h1 h2 h3 h4 => by
    intro r hr
    rw [List.length_cons]
    rcases List.mem_cons.1 hr with rfl | hr
    · dsimp only
      omega
    · have := h2.lvb r hr
      omega
theorem LayI.lvb : ∀ {xs : List Itm} {lv lo hi : Int} {L : List GRec}, LayI xs lv lo L hi → ∀ r ∈ L, lv ≤ r.lv ∧ r.lv < lv + L.length
  | _, _, _, _, _, .nil h => by intro r hr; cases hr
  | _, _, _, _, _, .cons h1 h2 => by
    intro r hr
    rw [List.length_append]
    rcases List.mem_append.1 hr with hr | hr
    · have := h1.lvb r hr; omega
    · have := h2.lvb r hr; omega
end

end Go.Sy
namespace Go.Sy
open Go.Proofs

/-! ### Insert -/

theorem sound_all {L : List GRec} (h : soundG L = true) : L.length ≤ 4096 ∧ nestedG L = true ∧ namedG L = true ∧ ((L.head?.map GRec.en).getD 0) ≤ 1099511627776 ∧ sane (buildG L).1 = 0 := by
  unfold soundG at h
  have h := of_decide_eq_true h
  unfold buildR at h
  split at h
  · exact absurd h (by decide)
  · rename_i h1
    split at h
    · exact absurd h (by decide)
    · rename_i h2
      refine ⟨?_, ?_, ?_, ?_, ?_⟩
      · exact Nat.not_lt.1 fun hc => h1 (.inl (by omega))
      · cases hn : nestedG L with
        | true => rfl
        | false => exact absurd (.inr (.inl hn)) h1
      · cases hn : namedG L with
        | true => rfl
        | false => exact absurd (.inr (.inr (.inl hn))) h1
      · exact Int.not_lt.1 fun hc => h1 (.inr (.inr (.inr (by omega))))
      · simpa using h2

theorem levels_bd : ∀ (L : List GRec) (m : Nat), levelsOk m L → ∀ r ∈ L, 0 ≤ r.lv ∧ r.lv ≤ m + L.length
  | [], _, _, r, hr => by cases hr
  | x :: l, m, ⟨h1, h2, h3⟩, r, hr => by
    rw [List.length_cons]
    rcases List.mem_cons.1 hr with rfl | hr
    · exact ⟨h1, by omega⟩
    · have := levels_bd l _ h3 r hr
      omega
theorem sound_levels {L : List GRec} (h : soundG L = true) : ∀ r ∈ L, 0 ≤ r.lv ∧ r.lv ≤ L.length := by
  have h1 := (sound_all h).2.1
  unfold nestedG at h1
  rw [Bool.and_eq_true] at h1
  have := levels_bd L 0 (nest_levels L 0 [] (-1) h1.1)
  intro r hr
  have := this r hr
  omega

mutual
theorem recsW_V (gap : Int) : ∀ (g : GVal) (lv : Int) (nm : Bool) (name : ByteArray) (now : Int), recsW (shredV gap g lv nm name now).1 ≤ g.weight + name.size
  | .mk k b n s l ks vs, lv, nm, name, now => by
    have h1 := recsW_L gap l (lv + 1) (now + gap)
    have h2 := recsW_M gap vs ks (lv + 1) (shredL gap l (lv + 1) (now + gap)).2
    simp only [shredV, recsW, recsW_append, recW, GVal.weight]
    omega
theorem recsW_L (gap : Int) : ∀ (gs : List GVal) (lv now : Int), recsW (shredL gap gs lv now).1 ≤ GVal.weights gs
  | [], _, _ => by simp [shredL, recsW, GVal.weights]
  | g :: gs, lv, now => by
    have h1 := recsW_V gap g lv false ⟨#[]⟩ now
    have h2 := recsW_L gap gs lv (shredV gap g lv false ⟨#[]⟩ now).2
    have h3 : (⟨#[]⟩ : ByteArray).size = 0 := rfl
    simp only [shredL, recsW_append, GVal.weights]
    omega
theorem recsW_M (gap : Int) : ∀ (gs : List GVal) (ks : List ByteArray) (lv now : Int), recsW (shredM gap gs ks lv now).1 ≤ GVal.weights gs + sizes ks
  | [], _, _, _ => by simp [shredM, recsW]
  | _ :: _, [], _, _ => by simp [shredM, recsW]
  | g :: gs, k :: ks, lv, now => by
    have h1 := recsW_V gap g lv true k now
    have h2 := recsW_M gap gs ks lv (shredV gap g lv true k now).2
    simp only [shredM, recsW_append, GVal.weights, sizes]
    omega
end
end Go.Sy
/- Plain law: a value that is laid again and again ahead of all others. No program in sight. -/
namespace Go.Sy

/-! ### Lists that lie as a value's records -/

/-- No text is longer than the value weighs. -/
theorem its_name_w {g : GVal} {x : Itm} (hx : x ∈ its g) : x.name.size ≤ g.weight := by
  rcases List.mem_append.1 hx with hm | hm
  · obtain ⟨y, _, rfl⟩ := List.mem_map.1 hm
    exact Nat.zero_le _
  · obtain ⟨m, hm'⟩ := List.mem_iff_getElem?.1 hm
    have h1 := size_mem (List.mem_of_getElem? (itsM_get _ _ _ _ hm').2.1)
    rw [g.weight_eq]
    omega
mutual
theorem LayV.fitc : ∀ {g : GVal} {lv : Int} {nm : Bool} {name : ByteArray} {lo hi : Int} {L : List GRec}, LayV g lv nm name lo L hi → ∀ {c : Nat}, g.wf → g.weight ≤ c → name.size ≤ c → ∀ r ∈ L, r.n.dg.size ≤ c ∧ r.s.size ≤ c ∧ r.name.size ≤ c
  | g, _, _, _, _, _, _, .mk h1 h2 h3 h4, c, hw, hg, hn => by
    intro r hr
    have he := g.weight_eq
    rcases List.mem_cons.1 hr with rfl | hr
    · exact ⟨by dsimp only; omega, by dsimp only; omega, hn⟩
    · exact h2.fitc (fun x hx => ⟨its_wf hw hx, by have := in_weight (its_mem hw hx); omega, by have := its_name_w hx; omega⟩) r hr
theorem LayI.fitc : ∀ {xs : List Itm} {lv lo hi : Int} {L : List GRec}, LayI xs lv lo L hi → ∀ {c : Nat}, (∀ x ∈ xs, x.v.wf ∧ x.v.weight ≤ c ∧ x.name.size ≤ c) → ∀ r ∈ L, r.n.dg.size ≤ c ∧ r.s.size ≤ c ∧ r.name.size ≤ c
  | _, _, _, _, _, .nil h, _, _ => fun r hr => by cases hr
  | x :: xs, _, _, _, _, .cons h1 h2, c, hx => by
    intro r hr
    have h0 := hx x List.mem_cons_self
    rcases List.mem_append.1 hr with hr | hr
    · exact h1.fitc h0.1 h0.2.1 h0.2.2 r hr
    · exact h2.fitc (fun y hy => hx y (List.mem_cons_of_mem _ hy)) r hr
end
theorem LayV.fit {g : GVal} {lo hi : Int} {L : List GRec} (h : LayV g 0 false emptyS lo L hi) (hw : g.wf) (hg : g.weight ≤ mostLen) : RecsFit L := h.fitc hw hg (Nat.zero_le _)
theorem lay_sound {g : GVal} {lo hi : Int} {L : List GRec} (h : LayV g 0 false emptyS lo L hi) (h0 : -1 ≤ lo) (hw : g.wf) (hs : sane g = 0) (hl : L.length ≤ 4096) (hen : hi ≤ 1099511627776) : soundG L = true := by
  unfold soundG
  rw [h.buildR h0 hw hs hl hen]
  rfl
/-! ### A list of truths -/

end Go.Sy
/- Plain laws: records that are laid among a value's. No program in sight. -/
namespace Go.Sy

/-! ### Levels and names -/

def upLv (d : Int) (r : GRec) : GRec := ⟨r.st, r.en, r.lv + d, r.kd, r.nm, r.name, r.b, r.n, r.s⟩

mutual
theorem LayV.lift : ∀ {g : GVal} {lv : Int} {nm : Bool} {name : ByteArray} {lo hi : Int} {L : List GRec}, LayV g lv nm name lo L hi → ∀ d : Int, LayV g (lv + d) nm name lo (L.map (upLv d)) hi
  | _, lv, _, _, _, _, _, .mk h1 h2 h3 h4, d => by
    have h := h2.lift d
    rw [show lv + 1 + d = lv + d + 1 by omega] at h
    exact .mk h1 h h3 h4
theorem LayI.lift : ∀ {xs : List Itm} {lv lo hi : Int} {L : List GRec}, LayI xs lv lo L hi → ∀ d : Int, LayI xs (lv + d) lo (L.map (upLv d)) hi
  | _, _, _, _, _, .nil h, d => .nil h
  | _, _, _, _, _, .cons h1 h2, d => by
    rw [List.map_append]
    exact .cons (h1.lift d) (h2.lift d)
end
/-! ### Sane values -/

mutual
/-- May a value, so many deep, be, but for how many there are? -/
def okAtV : GVal → Int → Prop
  | .mk k b n s l ks vs, deep => fieldsG (.mk k b n s l ks vs) = true ∧ twiceG ks = false ∧ ¬ (4 ≤ k ∧ 64 ≤ deep) ∧ okAtL l (deep + 1) ∧ okAtL vs (deep + 1)
def okAtL : List GVal → Int → Prop
  | [], _ => True
  | g :: gs, deep => okAtV g deep ∧ okAtL gs deep
end
theorem okAtV_eq (g : GVal) (deep : Int) : okAtV g deep ↔ fieldsG g = true ∧ twiceG g.ks = false ∧ ¬ (4 ≤ g.kind ∧ 64 ≤ deep) ∧ okAtL g.l (deep + 1) ∧ okAtL g.vs (deep + 1) := by
  cases g
  simp only [okAtV, GVal.ks, GVal.kind, GVal.l, GVal.vs]
theorem okAtL_mem : ∀ {gs : List GVal} {deep : Int}, okAtL gs deep ↔ ∀ g ∈ gs, okAtV g deep
  | [], _ => ⟨fun _ g h => (by cases h), fun _ => trivial⟩
  | g :: gs, deep => by
    simp only [okAtL, List.mem_cons, forall_eq_or_imp, okAtL_mem (gs := gs)]

mutual
theorem sane_ok : ∀ (g : GVal) (deep c : Int), (saneG g deep c).1 = 0 → okAtV g deep ∧ (saneG g deep c).2 = c + cntV g ∧ c + cntV g ≤ 4096
  | .mk k b n s l ks vs, deep, c, h => by
    simp only [saneG] at h ⊢
    split at h
    · simp at h
    rename_i h1
    split at h
    · simp at h
    rename_i h2
    split at h
    · simp at h
    rename_i h3
    split at h
    · simp at h
    rename_i h4
    rw [if_neg h1, if_neg h2, if_neg h3, if_neg h4]
    have hl : (saneL l deep (c + 1)).1 = 0 := by
      by_cases h0 : (saneL l deep (c + 1)).1 = 0
      · exact h0
      · rw [if_pos h0] at h; exact h
    rw [if_neg (by simp [hl])] at h ⊢
    obtain ⟨a1, a2, a3⟩ := saneL_ok l deep (c + 1) (by omega) hl
    rw [a2] at h ⊢
    obtain ⟨b1, b2, b3⟩ := saneL_ok vs deep _ a3 h
    simp only [okAtV, cntV]
    refine ⟨⟨by simpa using h1, by simpa using h2, h3, a1, b1⟩, by rw [b2]; omega, by omega⟩
theorem saneL_ok : ∀ (gs : List GVal) (deep c : Int), c ≤ 4096 → (saneL gs deep c).1 = 0 → okAtL gs (deep + 1) ∧ (saneL gs deep c).2 = c + cntL gs ∧ c + cntL gs ≤ 4096
  | [], _, c, hc, _ => ⟨trivial, by simp [saneL, cntL], by simp [cntL]; omega⟩
  | g :: gs, deep, c, hc, h => by
    simp only [saneL] at h ⊢
    have hg : (saneG g (deep + 1) c).1 = 0 := by
      by_cases h0 : (saneG g (deep + 1) c).1 = 0
      · exact h0
      · rw [if_pos h0] at h; exact h
    rw [if_neg (by simp [hg])] at h ⊢
    obtain ⟨a1, a2, a3⟩ := sane_ok g (deep + 1) c hg
    rw [a2] at h ⊢
    obtain ⟨b1, b2, b3⟩ := saneL_ok gs deep _ a3 h
    simp only [okAtL, cntL]
    exact ⟨⟨a1, b1⟩, by rw [b2]; omega, by omega⟩
end
mutual
theorem ok_sane : ∀ (g : GVal) (deep c : Int), okAtV g deep → c + cntV g ≤ 4096 → saneG g deep c = (0, c + cntV g)
  | .mk k b n s l ks vs, deep, c, h, hc => by
    simp only [okAtV, cntV] at h hc
    obtain ⟨h1, h2, h3, h4, h5⟩ := h
    simp only [saneG]
    rw [if_neg (by rw [h1]; decide), if_neg (by rw [h2]; decide), if_neg h3, if_neg (by omega), okL_sane l deep (c + 1) h4 (by omega)]
    rw [if_neg (fun h => h rfl), okL_sane vs deep _ h5 (by omega)]
    simp only [cntV]
    congr 1
    omega
theorem okL_sane : ∀ (gs : List GVal) (deep c : Int), okAtL gs (deep + 1) → c + cntL gs ≤ 4096 → saneL gs deep c = (0, c + cntL gs)
  | [], _, c, _, _ => by simp [saneL, cntL]
  | g :: gs, deep, c, h, hc => by
    simp only [okAtL, cntL] at h hc
    rw [saneL, ok_sane g (deep + 1) c h.1 (by omega), if_neg (fun h => h rfl), okL_sane gs deep _ h.2 (by omega)]
    simp only [cntL]
    congr 1
    omega
end
theorem sane_iff {g : GVal} : sane g = 0 ↔ okAtV g 0 ∧ cntV g ≤ 4096 := by
  unfold sane
  constructor
  · intro h
    obtain ⟨h1, -, h3⟩ := sane_ok g 0 0 h
    exact ⟨h1, by omega⟩
  · intro ⟨h1, h2⟩
    rw [ok_sane g 0 0 h1 (by omega)]

/-! ### A value with another one laid in it -/

end Go.Sy
namespace Go.Sy
open Go.Proofs

/-! ### The reference's shredder -/

def s2E (gs : Nat) (ao : Option Addr) (n cap : Nat) (now gap : Int) : AE := ⟨some ⟨gs, 0, none⟩, 1, 1, 135, 3, [.slice ao n cap, .int .i64 now, .int .i64 gap]⟩
def r2E (ao : Option Addr) (n cap : Nat) (l : List GRec) : AE := ⟨ao, n, cap, 132, 11, recXs l⟩
/-- The shredder and its records. -/
def sh2A (gs : Nat) (ao : Option Addr) (cap : Nat) (now gap : Int) (l : List GRec) : List AE := [s2E gs ao l.length cap now gap, r2E ao l.length cap l]

set_option maxRecDepth 100000 in
set_option maxHeartbeats 1000000 in
theorem give_c (σ : Snap) (gs : Nat) (ao : Option Addr) (n cap : Nat) (now gap : Int) (h1 : 0 ≤ now) (h2 : now ≤ 1125899906842624) (h3 : 0 ≤ gap) (h4 : gap ≤ 1000) :
    FnS Tryd.prog 123 [.a (.v (.pointer (some ⟨gs, 0, none⟩)))] σ [s2E gs ao n cap now gap] (fun v _ A' => v = .int .i64 (now + gap) ∧ A' = [s2E gs ao n cap (now + gap) gap]) := by
  refine enter_f Tryd.func123 rfl rfl (by (repeat' (first | exact trivial | constructor))) fun w => ?_
  (repeat (first | refine cj_seq ?_ | (refine cj_region ?_; refine oj_run TT rfl ?_) | refine oj_then ?_))
  refine cj_draw [(0,.pure),(1,.pure),(2,.pure),(3,.pure),(4,.quiet),(5,.pure),(6,.pure),(7,.pure),(8,.quiet),(9,.pure),(10,.pure),(11,.pure),(12,.sink)] mixed (by kernel_rfl) (oj_run TT rfl ?_)
  refine oj_ldA 0 (c := .v (.int .i64 now)) TT rfl rfl rfl rfl rfl rfl rfl rfl rfl rfl rfl trivial (oj_run TT rfl ?_)
  refine oj_ldA 0 (c := .v (.int .i64 gap)) TT rfl rfl rfl rfl rfl rfl rfl rfl rfl rfl rfl trivial (oj_run TT rfl ?_)
  refine oj_add rfl rfl rfl rfl rfl rfl (by omega) (oj_run TT rfl ?_)
  refine oj_stA 0 (A' := [s2E gs ao n cap (now + gap) gap]) TT rfl rfl rfl rfl rfl rfl rfl rfl rfl rfl (by show 1 < 1 * 3; omega) trivial rfl rfl (oj_run TT rfl ?_)
  (repeat (first | refine cj_seq ?_ | (refine cj_region ?_; refine oj_run TT rfl ?_) | refine oj_then ?_))
  refine oj_ldA 0 (c := .v (.int .i64 (now + gap))) TT rfl rfl rfl rfl rfl rfl rfl rfl rfl rfl rfl trivial (oj_run TT rfl ?_)
  (repeat (first | refine oj_then ?_ | refine cj_ret ?_))
  refine nj_fret TT rfl fun β w' _ _ => ?_
  exact ⟨rfl, rfl⟩

def ord82_3 : List (Nat × Tag) := [(0,.pure),(1,.pure),(2,.pure),(3,.quiet),(4,.pure),(5,.pure),(6,.keep),(7,.pure),(8,.pure),(9,.sink)]

def ord82_11 : List (Nat × Tag) := [(0,.pure),(1,.pure),(2,.quiet),(3,.pure),(4,.pure),(5,.pure),(6,.quiet),(7,.pure),(8,.quiet),(9,.pure),(10,.pure),(11,.pure),(12,.quiet),(13,.pure),(14,.pure),(15,.sink)]

/-- A constant that is handed on stands for its value. -/
theorem FnS.b {P : Program} {f : FuncId} {p q s l : SV} {x y : AT} {σ : Snap} {A : List AE} {Φ : Value → Snap → List AE → Prop} (e : x.den β0 = y.den β0) (h : FnS P f [p, q, .a x, s, l] σ A Φ) : FnS P f [p, q, .a y, s, l] σ A Φ := by
  unfold FnS at *
  simp only [List.map_cons, List.map_nil, SV.den] at *
  rw [← e]; exact h

set_option maxRecDepth 100000 in
set_option maxHeartbeats 4000000 in
theorem value2_c (g : GVal) : ∀ (σ : Snap) (r : List AT) (nm : Bool) (name : ByteArray) (lv : Int) (gs : Nat) (ao : Option Addr) (cap : Nat) (now gap : Int) (L : List GRec), RepV σ g r → 0 ≤ now → now + 2000 * g.weight ≤ 1125899906842624 → 0 ≤ gap → gap ≤ 1000 →
    L.length + g.weight ≤ 1000000 → 0 ≤ lv → lv + g.weight ≤ 1099511627776 → L.length ≤ cap →
    FnS Tryd.prog 82 [.a (.v (.pointer (some ⟨gs, 0, none⟩))), .agg r, .a (.b nm), .a (.v (.string name)), .a (.v (.int .i64 lv))] σ (sh2A gs ao cap now gap L) (fun v _ A' => v = .tuple #[] ∧ ∃ ao' cap', (L ++ (shredV gap g lv nm name now).1).length ≤ cap' ∧
      A' = sh2A gs ao' cap' (shredV gap g lv nm name now).2 gap (L ++ (shredV gap g lv nm name now).1)) := by
  induction g using GVal.byWeight with | _ g ih => ?_
  intro σ r nm name lv gs ao cap now gap L hr hn1 hn2 hg1 hg2 hnw hlv1 hlv2 hncap
  obtain ⟨la, lc, lrows, ma, mc, vrows, rfl, V⟩ := hr.open
  have hwg := g.weight_eq
  have hwl := weights_len g.l
  have hwv := weights_len g.vs
  have hkv := V.kv
  have hsl := shredL_now g.l (lv + 1) (now + gap) hg1 hg2
  have hsm := shredM_now (gap := gap) g.vs g.ks (lv + 1) (shredL gap g.l (lv + 1) (now + gap)).2 hg1 hg2
  have hll := (shredL_len gap g.l (lv + 1) (now + gap)).1
  have hlm := (shredM_len gap g.vs g.ks (lv + 1) (shredL gap g.l (lv + 1) (now + gap)).2).1
  rw [shredV_eq]
  refine enter_f Tryd.func82 rfl rfl (by (repeat' (first | exact trivial | exact vCells_lt _ _ _ _ _ _ | constructor))) fun w => ?_
  (repeat (first | refine cj_seq ?_ | (refine cj_region ?_; refine oj_run TT rfl ?_) | refine oj_then ?_))
  refine oj_ldA 0 (c := .v (.slice ao L.length cap)) TT rfl rfl rfl rfl rfl rfl rfl rfl rfl rfl rfl trivial (oj_run TT rfl ?_)
  (repeat (first | refine cj_seq ?_ | refine oj_then ?_))
  let x0 : GRec := ⟨0, 0, lv, g.kind, nm, name, g.b, g.n, g.s⟩
  let x1 : GRec := ⟨now + gap, 0, lv, g.kind, nm, name, g.b, g.n, g.s⟩
  refine cj_draw [(0,.pure),(1,.pure),(2,.pure),(3,.pure),(4,.quiet),(5,.pure),(6,.pure),(7,.quiet),(8,.pure),(9,.pure),(10,.pure),(11,.quiet),(12,.pure),(13,.quiet),(14,.pure),(15,.quiet),(16,.pure),(17,.keep),(18,.sink),(19,.pure),(20,.pure),(21,.sink)] mixed (by kernel_rfl) (oj_run TT rfl ?_)
  refine oj_ldA 0 (c := .v (.slice ao L.length cap)) TT rfl rfl rfl rfl rfl rfl rfl rfl rfl rfl rfl trivial (oj_run TT rfl ?_)
  refine oj_append_lit TT 1 rfl rfl rfl rfl rfl rfl rfl rfl rfl rfl rfl rfl rfl rfl rfl rfl rfl rfl (by (repeat' (first | exact trivial | refine AllLt.of ?_ | constructor))) rfl (by omega) (by show (L.length + 1) * 112 ≤ _; omega) fun ao1 cap1 hcap1 => oj_run TT rfl ?_
  refine oj_stA 0 (A' := [s2E gs ao1 (L.length + 1) cap1 now gap, ⟨ao1, L.length + 1, cap1, 132, 11, recXs L ++ (recCells x0).map AT.val⟩]) TT rfl rfl rfl rfl rfl rfl rfl rfl rfl rfl (by show 0 < 1 * 3; omega) trivial rfl rfl (oj_run TT rfl ?_)
  rw [recXs_push]
  (repeat (first | refine cj_seq ?_ | refine oj_then ?_))
  have hM : (L ++ [x0])[L.length]? = some x0 := by simp
  have hMl : L.length < (L ++ [x0]).length := (List.getElem?_eq_some_iff.1 hM).1
  have hMs : (L ++ [x0]).set L.length x1 = L ++ [x1] := by simp
  have hMn : (L ++ [x1]).length = (L ++ [x0]).length := by simp
  have hMk : L.length + 1 = (L ++ [x0]).length := by simp
  rw [hMk]
  rw [hMk] at hcap1
  generalize hMM : L ++ [x0] = M at *
  refine cj_arrAt 1 (E := r2E ao1 M.length cap1 M) rfl (by show 0 < M.length; omega) fun g1 hg1' => ?_
  have hg1' : ao1 = some ⟨g1, 0, none⟩ := hg1'
  subst hg1'
  refine cj_drawW ord82_3 (fun β w => w.cell? ⟨gs, 0, none⟩ = some (.slice (some ⟨g1, 0, none⟩) M.length cap1)) (fun β w h => (h.arr 0 (s2E gs (some ⟨g1, 0, none⟩) M.length cap1 now gap) rfl).cell rfl rfl) mixed (by kernel_rfl) ?_
  refine ow_pure TT rfl rfl rfl rfl rfl rfl ?_
  refine ow_pure TT rfl rfl rfl rfl rfl rfl ?_
  refine ow_pure TT rfl rfl rfl rfl rfl rfl ?_
  refine ow_ld1 TT (.v (.slice (some ⟨g1, 0, none⟩) M.length cap1)) rfl rfl rfl rfl rfl rfl rfl rfl (fun _ _ h => h) trivial ?_
  refine ow_pure TT rfl rfl rfl rfl rfl rfl ?_
  refine ow_pure TT rfl rfl rfl rfl rfl rfl ?_
  refine ow_call [0, 1] (A0 := [s2E gs (some ⟨g1, 0, none⟩) M.length cap1 now gap]) (Ar := [r2E (some ⟨g1, 0, none⟩) M.length cap1 M]) rfl rfl rfl rfl rfl rfl rfl Tryd.call123 (by (repeat' (first | exact trivial | constructor))) (give_c σ gs (some ⟨g1, 0, none⟩) M.length cap1 now gap hn1 (by omega) hg1 hg2) fun v σ1 A1 hle1 ⟨hv, hA⟩ => ?_
  subst hA
  refine ⟨fun β w h => (h.arr 0 (s2E gs (some ⟨g1, 0, none⟩) M.length cap1 (now + gap) gap) rfl).cell rfl rfl, .a (.v (.int .i64 (now + gap))), trivial, hv.symm, ?_⟩
  refine ow_end rfl (fun β w h => (h.arr 0 (s2E gs (some ⟨g1, 0, none⟩) M.length cap1 (now + gap) gap) rfl).cell rfl rfl) (oj_run TT rfl ?_)
  refine oj_indexAddr TT rfl rfl rfl rfl rfl rfl rfl rfl rfl ⟨by omega, by omega⟩ (oj_run TT rfl ?_)
  have hoff : L.length * 11 + 0 < M.length * 11 := by omega
  refine oj_stA 1 (A' := [s2E gs (some ⟨g1, 0, none⟩) M.length cap1 (now + gap) gap, r2E (some ⟨g1, 0, none⟩) M.length cap1 (L ++ [x1])]) (off := L.length * 11 + 0) TT rfl rfl rfl rfl ?_ rfl rfl rfl rfl rfl hoff trivial rfl ?_ (oj_run TT rfl ?_)
  · show some (SV.a (AT.v (.pointer (some (Addr.add (Addr.add ⟨g1, 0, none⟩ ((L.length : Int).toNat * 11)) 0))))) = _
    rw [add0, Addr.add_lit]
    rfl
  · show [_, _] = [_, _]
    congr 1
    congr 1
    unfold r2E
    congr 1
    show (recXs M).set (L.length * 11 + 0) (AT.v (.int .i64 (now + gap))).val = _
    rw [recXs_set (r' := x1) _ hM (by omega) rfl, hMs]
  clear hMs
  (repeat (first | refine cj_seq ?_ | (refine cj_region ?_; refine oj_run TT rfl ?_) | refine oj_then ?_ | refine cj_block ?_))
  refine cj_cutB (fun (s : ShS) => s.σ) (fun _ => [(0, .a (.v (.pointer (some ⟨gs, 0, none⟩)))), (4, .a (.v (.int .i64 lv))), (6, .a (.p 0 0)), (10, .a (.v (.int .i64 L.length)))])
    (fun _ => [(0, .loc 27, vCells g la lc ma mc)]) (fun s => sh2A gs s.ao s.cap s.now gap (L ++ x1 :: s.P)) 2
    (fun s => σ1.le s.σ ∧ s.P = (shredL gap g.l (lv + 1) (now + gap)).1 ∧ s.now = (shredL gap g.l (lv + 1) (now + gap)).2 ∧ (L ++ x1 :: s.P).length ≤ s.cap) ?_ (fun s ⟨hs, hsP, hsn, hscap⟩ => ?_)
  · refine cj_loop (fun (s : ShS) => s.σ) (fun s => [(0, .a (.v (.pointer (some ⟨gs, 0, none⟩)))), (4, .a (.v (.int .i64 lv))), (6, .a (.p 0 0)), (10, .a (.v (.int .i64 L.length))), (11, .a (.v (.int .i64 s.k)))])
      (fun _ => [(0, .loc 27, vCells g la lc ma mc)]) (fun s => sh2A gs s.ao s.cap s.now gap (L ++ x1 :: s.P)) 2
      (fun s => s.k ≤ g.l.length ∧ σ1.le s.σ ∧ s.P ++ (shredL gap (g.l.drop s.k) (lv + 1) s.now).1 = (shredL gap g.l (lv + 1) (now + gap)).1 ∧ (shredL gap (g.l.drop s.k) (lv + 1) s.now).2 = (shredL gap g.l (lv + 1) (now + gap)).2 ∧
        0 ≤ s.now ∧ s.now + 2000 * GVal.weights (g.l.drop s.k) ≤ now + gap + 2000 * GVal.weights g.l ∧ s.P.length + GVal.weights (g.l.drop s.k) ≤ GVal.weights g.l ∧ (L ++ x1 :: s.P).length ≤ s.cap)
      (fun s => g.l.length - s.k) ⟨σ1, 0, some ⟨g1, 0, none⟩, cap1, now + gap, []⟩ ⟨Nat.zero_le _, Snap.le_refl _, rfl, rfl, by dsimp only; omega, by dsimp only; rw [List.drop_zero]; omega, by dsimp only; rw [List.drop_zero]; simp, by show (L ++ [x1]).length ≤ _; rw [hMn]; exact hcap1⟩
      rfl (by (repeat (first | exact trivial | refine And.intro rfl ?_))) (by (repeat (first | exact trivial | refine And.intro rfl ?_))) (by unfold sh2A; dsimp only; rw [hMn]) (by (repeat' (first | exact trivial | exact Nat.le_of_ble_eq_true rfl | constructor))) (by (repeat' (first | exact trivial | exact Nat.le_of_ble_eq_true rfl | exact vCells_lt _ _ _ _ _ _ | constructor))) fun ⟨s, k, ao, cap, nw, P⟩ ⟨hk, hs, hP1, hP2, hnw1, hnw2, hPw, hcp⟩ => ?_
    dsimp only at hk hs hP1 hP2 hnw1 hnw2 hPw hcp ⊢
    (repeat (first | refine cj_seq ?_ | (refine cj_region ?_; refine oj_run TT rfl ?_) | refine oj_then ?_))
    refine cj_if rfl (fun h => ?_) (fun h => ?_)
    · have hkl : k < g.l.length := by simpa using h
      obtain ⟨rr, hr1, hr2⟩ := (V.l.mono (Snap.le_trans hle1 hs)).get (List.getElem?_eq_getElem hkl)
      obtain ⟨la', lc', lrows', ma', mc', vrows', rfl, V'⟩ := hr2.open
      have hwx := weight_l (List.getElem_mem hkl)
      have hwd := weights_drop (List.getElem?_eq_getElem hkl)
      rw [List.drop_eq_getElem_cons hkl, shredL] at hP1 hP2
      have hnx := shredV_now (gap := gap) g.l[k] (lv + 1) false emptyS nw hg1 hg2
      have hlx := (shredV_len gap g.l[k] (lv + 1) false emptyS nw).1
      have hlen : (L ++ x1 :: P).length = L.length + 1 + P.length := by simp; omega
      (repeat (first | refine cj_seq ?_ | (refine cj_region ?_; refine oj_run TT rfl ?_) | refine cj_skip ?_ | refine cj_block ?_ | refine nj_then ?_))
      refine oj_idx TT rfl rfl rfl rfl rfl rfl rfl rfl rfl ((V.L.mono hle1).mono hs) (by omega) hr1 (oj_run TT rfl ?_)
      (repeat (refine oj_add rfl rfl rfl rfl rfl rfl (by omega) ?_; refine oj_run TT rfl ?_))
      refine oj_callF [0, 1] (A0 := sh2A gs ao cap nw gap (L ++ x1 :: P)) (Ar := []) rfl rfl rfl rfl rfl rfl rfl Tryd.call82 (by (repeat' (first | exact trivial | exact vCells_lt _ _ _ _ _ _ | constructor))) (FnS.b rfl (ih _ hwx s _ false emptyS (lv + 1) gs ao cap nw gap (L ++ x1 :: P) V'.rep hnw1 (by omega) hg1 hg2 (by omega) (by omega) (by omega) hcp)) fun v σ2 A2 hle2 ⟨hv, ao', cap', hcp', hA⟩ => ⟨.tup [], (by (repeat' (first | exact trivial | refine SV.lt_tup ?_))), hv.symm, ?_⟩
      subst hA
      refine oj_run TT rfl ?_
      (repeat (first | (refine cj_region ?_; refine oj_run TT rfl ?_) | refine oj_nil ?_ | refine nj_then ?_ | refine nj_block ?_ | (refine oj_add rfl rfl rfl rfl rfl rfl (by omega) ?_; refine oj_run TT rfl ?_)))
      refine nj_again ⟨σ2, k + 1, ao', cap', (shredV gap g.l[k] (lv + 1) false emptyS nw).2, P ++ (shredV gap g.l[k] (lv + 1) false emptyS nw).1⟩
        ⟨hkl, Snap.le_trans hs hle2, by rw [List.append_assoc]; exact hP1, hP2, by dsimp only; omega, by dsimp only; omega, by dsimp only; rw [List.length_append]; omega, ?_⟩ (by dsimp only; omega) rfl (by (repeat (first | exact trivial | refine And.intro rfl ?_))) (by (repeat (first | exact trivial | refine And.intro rfl ?_))) ?_ (by (repeat' (first | exact trivial | exact Nat.le_of_ble_eq_true rfl | constructor))) (by (repeat' (first | exact trivial | exact Nat.le_of_ble_eq_true rfl | exact vCells_lt _ _ _ _ _ _ | constructor)))
      · have e : L ++ x1 :: (P ++ (shredV gap g.l[k] (lv + 1) false emptyS nw).1) = L ++ x1 :: P ++ (shredV gap g.l[k] (lv + 1) false emptyS nw).1 := by simp
        dsimp only
        rw [e]; exact hcp'
      · have e : L ++ x1 :: (P ++ (shredV gap g.l[k] (lv + 1) false emptyS nw).1) = L ++ x1 :: P ++ (shredV gap g.l[k] (lv + 1) false emptyS nw).1 := by simp
        dsimp only
        rw [e, List.append_nil]
    · have hk0 : k = g.l.length := by simp at h; omega
      subst hk0
      rw [List.drop_length, shredL] at hP1 hP2
      rw [List.append_nil] at hP1
      (repeat (first | refine cj_exit ?_ | refine nj_then_exit ?_ | refine nj_block_out ?_))
      refine nj_again ⟨s, g.l.length, ao, cap, nw, P⟩ ⟨hs, hP1, hP2, hcp⟩ Nat.zero_lt_one rfl (by (repeat (first | exact trivial | refine And.intro rfl ?_))) (by (repeat (first | exact trivial | refine And.intro rfl ?_))) rfl (by (repeat' (first | exact trivial | exact Nat.le_of_ble_eq_true rfl | constructor))) (by (repeat' (first | exact trivial | exact Nat.le_of_ble_eq_true rfl | exact vCells_lt _ _ _ _ _ _ | constructor)))
  obtain ⟨s, k0, ao, cap, nw0, P0⟩ := s
  dsimp only at hs hsP hsn hscap ⊢
  have hlP : P0.length ≤ GVal.weights g.l := by rw [hsP]; exact hll
  have hn0 : nw0 ≤ now + gap + 2000 * GVal.weights g.l := by rw [hsn]; exact hsl.2
  have hn0' : now + gap ≤ nw0 := by rw [hsn]; exact hsl.1
  rw [← hsn] at hlm hsm
  rw [← hsn, ← hsP]
  clear hsn hsP
  (repeat (first | refine cj_seq ?_ | (refine cj_region ?_; refine oj_run TT rfl ?_) | refine oj_then ?_ | refine cj_block ?_))
  refine cj_cutB (fun (s : ShS) => s.σ) (fun _ => [(0, .a (.v (.pointer (some ⟨gs, 0, none⟩)))), (10, .a (.v (.int .i64 L.length)))])
    (fun _ => []) (fun s => sh2A gs s.ao s.cap s.now gap (L ++ x1 :: P0 ++ s.P)) 0
    (fun s => σ1.le s.σ ∧ s.P = (shredM gap g.vs g.ks (lv + 1) nw0).1 ∧ s.now = (shredM gap g.vs g.ks (lv + 1) nw0).2 ∧ (L ++ x1 :: P0 ++ s.P).length ≤ s.cap) ?_ (fun s ⟨hs, hsP, hsn, hscap⟩ => ?_)
  · refine cj_loop (fun (s : ShS) => s.σ) (fun s => [(0, .a (.v (.pointer (some ⟨gs, 0, none⟩)))), (4, .a (.v (.int .i64 lv))), (6, .a (.p 0 0)), (10, .a (.v (.int .i64 L.length))), (12, .a (.v (.int .i64 s.k)))])
      (fun _ => [(0, .loc 27, vCells g la lc ma mc)]) (fun s => sh2A gs s.ao s.cap s.now gap (L ++ x1 :: P0 ++ s.P)) 2
      (fun s => s.k ≤ g.ks.length ∧ σ1.le s.σ ∧ s.P ++ (shredM gap (g.vs.drop s.k) (g.ks.drop s.k) (lv + 1) s.now).1 = (shredM gap g.vs g.ks (lv + 1) nw0).1 ∧ (shredM gap (g.vs.drop s.k) (g.ks.drop s.k) (lv + 1) s.now).2 = (shredM gap g.vs g.ks (lv + 1) nw0).2 ∧
        0 ≤ s.now ∧ s.now + 2000 * GVal.weights (g.vs.drop s.k) ≤ nw0 + 2000 * GVal.weights g.vs ∧ s.P.length + GVal.weights (g.vs.drop s.k) ≤ GVal.weights g.vs ∧ (L ++ x1 :: P0 ++ s.P).length ≤ s.cap)
      (fun s => g.ks.length - s.k) ⟨s, 0, ao, cap, nw0, []⟩ ⟨Nat.zero_le _, hs, rfl, rfl, by dsimp only; omega, by dsimp only; rw [List.drop_zero]; omega, by dsimp only; rw [List.drop_zero]; simp, by dsimp only; rw [List.append_nil]; exact hscap⟩
      rfl (by (repeat (first | exact trivial | refine And.intro rfl ?_))) (by (repeat (first | exact trivial | refine And.intro rfl ?_))) (by rw [List.append_nil]) (by (repeat' (first | exact trivial | exact Nat.le_of_ble_eq_true rfl | constructor))) (by (repeat' (first | exact trivial | exact Nat.le_of_ble_eq_true rfl | exact vCells_lt _ _ _ _ _ _ | constructor))) fun ⟨s, k, ao, cap, nw, P⟩ ⟨hk, hs, hP1, hP2, hnw1, hnw2, hPw, hcp⟩ => ?_
    dsimp only at hk hs hP1 hP2 hnw1 hnw2 hPw hcp ⊢
    (repeat (first | refine cj_seq ?_ | (refine cj_region ?_; refine oj_run TT rfl ?_) | refine oj_then ?_))
    refine cj_if rfl (fun h => ?_) (fun h => ?_)
    · have hkl : k < g.ks.length := by simpa using h
      have hkv' : k < g.vs.length := by omega
      obtain ⟨rr, hr1, hr2⟩ := (V.v.mono (Snap.le_trans hle1 hs)).get (List.getElem?_eq_getElem hkv')
      have hrow := keyRows_get (List.getElem?_eq_getElem hkl) hr1
      obtain ⟨la', lc', lrows', ma', mc', vrows', rfl, V'⟩ := hr2.open
      have hwx := weight_v (List.getElem_mem hkv')
      have hwd := weights_drop (List.getElem?_eq_getElem hkv')
      rw [List.drop_eq_getElem_cons hkv', List.drop_eq_getElem_cons hkl, shredM] at hP1 hP2
      have hnx := shredV_now (gap := gap) g.vs[k] (lv + 1) true g.ks[k] nw hg1 hg2
      have hlx := (shredV_len gap g.vs[k] (lv + 1) true g.ks[k] nw).1
      have hlen : (L ++ x1 :: P0 ++ P).length = L.length + 1 + P0.length + P.length := by simp; omega
      (repeat (first | refine cj_seq ?_ | refine cj_skip ?_ | refine cj_block ?_ | refine nj_then ?_))
      refine cj_draw ord82_11 mixed (by kernel_rfl) (oj_run TT rfl ?_)
      refine oj_idx TT rfl rfl rfl rfl rfl rfl rfl rfl rfl ((V.M.mono hle1).mono hs) (by omega) hrow (oj_run TT rfl ?_)
      refine oj_idx TT rfl rfl rfl rfl rfl rfl rfl rfl rfl ((V.M.mono hle1).mono hs) (by omega) hrow (oj_run TT rfl ?_)
      refine oj_add rfl rfl rfl rfl rfl rfl (by omega) (oj_run TT rfl ?_)
      refine oj_callF [0, 1] (A0 := sh2A gs ao cap nw gap (L ++ x1 :: P0 ++ P)) (Ar := []) rfl rfl rfl rfl rfl rfl rfl Tryd.call82 (by (repeat' (first | exact trivial | exact vCells_lt _ _ _ _ _ _ | constructor))) (FnS.b rfl (ih _ hwx s _ true g.ks[k] (lv + 1) gs ao cap nw gap (L ++ x1 :: P0 ++ P) V'.rep hnw1 (by omega) hg1 hg2 (by omega) (by omega) (by omega) hcp)) fun v σ2 A2 hle2 ⟨hv, ao', cap', hcp', hA⟩ => ⟨.tup [], (by (repeat' (first | exact trivial | refine SV.lt_tup ?_))), hv.symm, ?_⟩
      subst hA
      refine oj_run TT rfl ?_
      (repeat (first | (refine cj_region ?_; refine oj_run TT rfl ?_) | refine oj_nil ?_ | refine nj_then ?_ | refine nj_block ?_ | (refine oj_add rfl rfl rfl rfl rfl rfl (by omega) ?_; refine oj_run TT rfl ?_)))
      refine nj_again ⟨σ2, k + 1, ao', cap', (shredV gap g.vs[k] (lv + 1) true g.ks[k] nw).2, P ++ (shredV gap g.vs[k] (lv + 1) true g.ks[k] nw).1⟩
        ⟨hkl, Snap.le_trans hs hle2, by rw [List.append_assoc]; exact hP1, hP2, by dsimp only; omega, by dsimp only; omega, by dsimp only; rw [List.length_append]; omega, ?_⟩ (by dsimp only; omega) rfl (by (repeat (first | exact trivial | refine And.intro rfl ?_))) (by (repeat (first | exact trivial | refine And.intro rfl ?_))) ?_ (by (repeat' (first | exact trivial | exact Nat.le_of_ble_eq_true rfl | constructor))) (by (repeat' (first | exact trivial | exact Nat.le_of_ble_eq_true rfl | exact vCells_lt _ _ _ _ _ _ | constructor)))
      · dsimp only
        rw [← List.append_assoc]; exact hcp'
      · dsimp only
        rw [← List.append_assoc, List.append_nil]
    · have hk0 : k = g.ks.length := by simp at h; omega
      subst hk0
      rw [List.drop_length, List.drop_of_length_le (by omega), shredM] at hP1 hP2
      rw [List.append_nil] at hP1
      (repeat (first | refine cj_exit ?_ | refine nj_then_exit ?_ | refine nj_block_out ?_))
      refine nj_again ⟨s, g.ks.length, ao, cap, nw, P⟩ ⟨hs, hP1, hP2, hcp⟩ Nat.zero_lt_one rfl (by (repeat (first | exact trivial | refine And.intro rfl ?_))) (by (repeat (first | exact trivial | refine And.intro rfl ?_))) rfl (by (repeat' (first | exact trivial | constructor))) (by (repeat' exact trivial))
  obtain ⟨s, k0, ao, cap, nw1, P1⟩ := s
  dsimp only at hs hsP hsn hscap ⊢
  have hn1' : nw1 ≤ nw0 + 2000 * GVal.weights g.vs := by rw [hsn]; exact hsm.2
  have hn1'' : nw0 ≤ nw1 := by rw [hsn]; exact hsm.1
  rw [← hsn, ← hsP]
  clear hsn hsP
  have hM : (L ++ x1 :: P0 ++ P1)[L.length]? = some x1 := by simp
  have hMl : L.length < (L ++ x1 :: P0 ++ P1).length := (List.getElem?_eq_some_iff.1 hM).1
  have hMs : (L ++ x1 :: P0 ++ P1).set L.length ⟨now + gap, nw1 + gap, lv, g.kind, nm, name, g.b, g.n, g.s⟩ = L ++ ⟨now + gap, nw1 + gap, lv, g.kind, nm, name, g.b, g.n, g.s⟩ :: (P0 ++ P1) := by simp
  have hMn : (L ++ ⟨now + gap, nw1 + gap, lv, g.kind, nm, name, g.b, g.n, g.s⟩ :: (P0 ++ P1)).length = (L ++ x1 :: P0 ++ P1).length := by simp
  generalize hMM : L ++ x1 :: P0 ++ P1 = M at *
  refine cj_arrAt 1 (E := r2E ao M.length cap M) rfl (by show 0 < M.length; omega) fun g1 hg1' => ?_
  have hg1' : ao = some ⟨g1, 0, none⟩ := hg1'
  subst hg1'
  refine cj_drawW ord82_3 (fun β w => w.cell? ⟨gs, 0, none⟩ = some (.slice (some ⟨g1, 0, none⟩) M.length cap)) (fun β w h => (h.arr 0 (s2E gs (some ⟨g1, 0, none⟩) M.length cap nw1 gap) rfl).cell rfl rfl) mixed (by kernel_rfl) ?_
  refine ow_pure TT rfl rfl rfl rfl rfl rfl ?_
  refine ow_pure TT rfl rfl rfl rfl rfl rfl ?_
  refine ow_pure TT rfl rfl rfl rfl rfl rfl ?_
  refine ow_ld1 TT (.v (.slice (some ⟨g1, 0, none⟩) M.length cap)) rfl rfl rfl rfl rfl rfl rfl rfl (fun _ _ h => h) trivial ?_
  refine ow_pure TT rfl rfl rfl rfl rfl rfl ?_
  refine ow_pure TT rfl rfl rfl rfl rfl rfl ?_
  refine ow_call [0, 1] (A0 := [s2E gs (some ⟨g1, 0, none⟩) M.length cap nw1 gap]) (Ar := [r2E (some ⟨g1, 0, none⟩) M.length cap M]) rfl rfl rfl rfl rfl rfl rfl Tryd.call123 (by (repeat' (first | exact trivial | constructor))) (give_c s gs (some ⟨g1, 0, none⟩) M.length cap nw1 gap (by omega) (by omega) hg1 hg2) fun v σ2 A2 hle2 ⟨hv, hA⟩ => ?_
  subst hA
  refine ⟨fun β w h => (h.arr 0 (s2E gs (some ⟨g1, 0, none⟩) M.length cap (nw1 + gap) gap) rfl).cell rfl rfl, .a (.v (.int .i64 (nw1 + gap))), trivial, hv.symm, ?_⟩
  refine ow_end rfl (fun β w h => (h.arr 0 (s2E gs (some ⟨g1, 0, none⟩) M.length cap (nw1 + gap) gap) rfl).cell rfl rfl) (oj_run TT rfl ?_)
  refine oj_indexAddr TT rfl rfl rfl rfl rfl rfl rfl rfl rfl ⟨by omega, by omega⟩ (oj_run TT rfl ?_)
  have hoff : L.length * 11 + 1 < M.length * 11 := by omega
  refine oj_stA 1 (A' := sh2A gs (some ⟨g1, 0, none⟩) cap (nw1 + gap) gap (L ++ ⟨now + gap, nw1 + gap, lv, g.kind, nm, name, g.b, g.n, g.s⟩ :: (P0 ++ P1))) (off := L.length * 11 + 1) TT rfl rfl rfl rfl ?_ rfl rfl rfl rfl rfl hoff trivial rfl ?_ (oj_run TT rfl ?_)
  · show some (SV.a (AT.v (.pointer (some (Addr.add (Addr.add ⟨g1, 0, none⟩ ((L.length : Int).toNat * 11)) 1))))) = _
    rw [add0, Addr.add_lit]
    rfl
  · unfold sh2A
    rw [hMn]
    show [_, _] = [_, _]
    congr 1
    congr 1
    unfold r2E
    congr 1
    show (recXs M).set (L.length * 11 + 1) (AT.v (.int .i64 (nw1 + gap))).val = _
    rw [recXs_set (r' := ⟨now + gap, nw1 + gap, lv, g.kind, nm, name, g.b, g.n, g.s⟩) _ hM (by omega) rfl, hMs]
  (repeat refine oj_nil ?_)
  refine nj_fend TT rfl fun β w' _ _ => ?_
  refine ⟨rfl, _, cap, ?_, rfl⟩
  rw [hMn]; exact hscap
end Go.Sy
