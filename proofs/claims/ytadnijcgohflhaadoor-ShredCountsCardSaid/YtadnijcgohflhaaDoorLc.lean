/- Plain laws about the shred as a list: whose records stand under whose. -/
import Derived.Test.YtadnijcgohflhaaDoorF20
namespace Go.Sy

def se (r : GRec) : Int × Int := (r.st, r.en)
abbrev Sk := List (Int × Int)
def runP (en : Int) : Sk → Nat
  | [] => 0
  | x :: l => if x.1 < en then runP en l + 1 else 0
def kidsP (S : Sk) (en : Int) : Nat → Nat → List Nat
  | 0, _ => []
  | n + 1, k => match S[k]? with
    | none => []
    | some x => if x.1 < en then k :: kidsP S en n (k + 1 + runP x.2 (S.drop (k + 1))) else []
def kidsAt (S : Sk) (i : Nat) : List Nat := kidsP S ((S[i]?.map (·.2)).getD 0) S.length (i + 1)

theorem runL_se (en : Int) : ∀ l : List GRec, runL en l = runP en (l.map se)
  | [] => rfl
  | r :: l => by simp only [runL, List.map_cons, runP, runL_se en l, se]
theorem kidsF_se (L : List GRec) (en : Int) : ∀ n k, kidsF L en n k = kidsP (L.map se) en n k
  | 0, _ => rfl
  | n + 1, k => by
    unfold kidsF kidsP
    by_cases h : k < L.length
    · rw [dif_pos h, List.getElem?_map, List.getElem?_eq_getElem h]
      simp only [Option.map_some, se, runK, runL_se, List.map_drop, kidsF_se L en n]
    · rw [dif_neg h, List.getElem?_map, List.getElem?_eq_none (by omega)]
      rfl
theorem kidsG_se (L : List GRec) (i : Nat) : kidsG L i = kidsAt (L.map se) i := by
  unfold kidsG kidsAt
  rw [kidsF_se, List.length_map, List.getElem?_map, Option.map_map]
  rfl

mutual
/-- How far a value's numbers reach. -/
def wV (gap : Int) : GVal → Int
  | .mk _ _ _ _ l _ vs => gap + (wL gap l + wL gap vs) + gap
def wL (gap : Int) : List GVal → Int
  | [] => 0
  | g :: gs => wV gap g + wL gap gs
end
mutual
/-- A value's numbers. -/
def skV (gap : Int) : GVal → Int → Sk
  | .mk _ _ _ _ l _ vs, now => (now + gap, now + (gap + (wL gap l + wL gap vs) + gap)) :: (skL gap l (now + gap) ++ skL gap vs (now + gap + wL gap l))
def skL (gap : Int) : List GVal → Int → Sk
  | [], _ => []
  | g :: gs, now => skV gap g now ++ skL gap gs (now + wV gap g)
end

theorem wL_append (gap : Int) : ∀ a b : List GVal, wL gap (a ++ b) = wL gap a + wL gap b
  | [], b => by simp [wL]
  | g :: a, b => by simp only [List.cons_append, wL, wL_append gap a b]; omega
theorem skL_append (gap : Int) : ∀ (a b : List GVal) (now : Int), skL gap (a ++ b) now = skL gap a now ++ skL gap b (now + wL gap a)
  | [], b, now => by simp [skL, wL]
  | g :: a, b, now => by
    simp only [List.cons_append, skL, wL, skL_append gap a b, List.append_assoc]
    congr 3
    omega
theorem skV_eq (gap : Int) (g : GVal) (now : Int) : skV gap g now = (now + gap, now + wV gap g) :: skL gap (g.l ++ g.vs) (now + gap) := by
  cases g
  rw [skL_append]
  simp only [skV, wV, GVal.l, GVal.vs]
theorem wV_eq (gap : Int) (g : GVal) : wV gap g = gap + wL gap (g.l ++ g.vs) + gap := by
  cases g
  rw [wL_append]
  simp only [wV, GVal.l, GVal.vs]

mutual
theorem shredV_sk (gap : Int) : ∀ (g : GVal) (lv : Int) (nm : Bool) (name : ByteArray) (now : Int), g.wf → (shredV gap g lv nm name now).1.map se = skV gap g now ∧ (shredV gap g lv nm name now).2 = now + wV gap g
  | .mk k b n s l ks vs, lv, nm, name, now, h => by
    simp only [GVal.wf] at h
    obtain ⟨h1, h2⟩ := shredL_sk gap l (lv + 1) (now + gap) h.2.1
    obtain ⟨h3, h4⟩ := shredM_sk gap vs ks (lv + 1) (shredL gap l (lv + 1) (now + gap)).2 h.1 h.2.2
    rw [h2] at h3 h4
    simp only [shredV, skV, wV, List.map_cons, List.map_append, h2, h3, h4, h1, se]
    refine ⟨?_, by omega⟩
    congr 2
    omega
theorem shredL_sk (gap : Int) : ∀ (gs : List GVal) (lv now : Int), GVal.wfs gs → (shredL gap gs lv now).1.map se = skL gap gs now ∧ (shredL gap gs lv now).2 = now + wL gap gs
  | [], lv, now, _ => by simp [shredL, skL, wL]
  | g :: gs, lv, now, h => by
    simp only [GVal.wfs] at h
    obtain ⟨h1, h2⟩ := shredV_sk gap g lv false ⟨#[]⟩ now h.1
    obtain ⟨h3, h4⟩ := shredL_sk gap gs lv (shredV gap g lv false ⟨#[]⟩ now).2 h.2
    rw [h2] at h3 h4
    simp only [shredL, skL, wL, List.map_append, h1, h2, h3, h4]
    exact ⟨trivial, by omega⟩
theorem shredM_sk (gap : Int) : ∀ (gs : List GVal) (ks : List ByteArray) (lv now : Int), ks.length = gs.length → GVal.wfs gs → (shredM gap gs ks lv now).1.map se = skL gap gs now ∧ (shredM gap gs ks lv now).2 = now + wL gap gs
  | [], ks, lv, now, _, _ => by simp [shredM, skL, wL]
  | g :: gs, [], lv, now, h, _ => by simp at h
  | g :: gs, k :: ks, lv, now, h, h' => by
    simp only [GVal.wfs] at h'
    obtain ⟨h1, h2⟩ := shredV_sk gap g lv true k now h'.1
    obtain ⟨h3, h4⟩ := shredM_sk gap gs ks lv (shredV gap g lv true k now).2 (by simpa using h) h'.2
    rw [h2] at h3 h4
    simp only [shredM, skL, wL, List.map_append, h1, h2, h3, h4]
    exact ⟨trivial, by omega⟩
end

mutual
theorem wV_pos {gap : Int} (hg : 0 < gap) : ∀ g : GVal, 0 < wV gap g
  | .mk _ _ _ _ l _ vs => by
    simp only [wV]
    have := wL_nn hg l
    have := wL_nn hg vs
    omega
theorem wL_nn {gap : Int} (hg : 0 < gap) : ∀ gs : List GVal, 0 ≤ wL gap gs
  | [] => by simp [wL]
  | g :: gs => by
    simp only [wL]
    have := wV_pos hg g
    have := wL_nn hg gs
    omega
end

mutual
theorem skV_bd {gap : Int} (hg : 0 < gap) : ∀ (g : GVal) (now : Int), ∀ x ∈ skV gap g now, now < x.1 ∧ x.1 < x.2 ∧ x.2 ≤ now + wV gap g
  | .mk k b n s l ks vs, now, x, hx => by
    have h1 := wL_nn hg l
    have h2 := wL_nn hg vs
    simp only [skV, wV] at hx ⊢
    rcases List.mem_cons.1 hx with rfl | hx
    · dsimp only; omega
    rcases List.mem_append.1 hx with hx | hx
    · have := skL_bd hg l _ x hx; omega
    · have := skL_bd hg vs _ x hx; omega
theorem skL_bd {gap : Int} (hg : 0 < gap) : ∀ (gs : List GVal) (now : Int), ∀ x ∈ skL gap gs now, now < x.1 ∧ x.1 < x.2 ∧ x.2 ≤ now + wL gap gs
  | [], now, x, hx => by simp [skL] at hx
  | g :: gs, now, x, hx => by
    have h1 := wV_pos hg g
    have h2 := wL_nn hg gs
    simp only [skL, wL] at hx ⊢
    rcases List.mem_append.1 hx with hx | hx
    · have := skV_bd hg g _ x hx; omega
    · have := skL_bd hg gs _ x hx; omega
end

mutual
theorem skV_len (gap : Int) : ∀ (g : GVal) (now : Int), (skV gap g now).length = cntV g
  | .mk k b n s l ks vs, now => by
    simp only [skV, cntV, List.length_cons, List.length_append, skL_len gap l, skL_len gap vs]
    omega
theorem skL_len (gap : Int) : ∀ (gs : List GVal) (now : Int), (skL gap gs now).length = cntL gs
  | [], now => by simp [skL, cntL]
  | g :: gs, now => by simp only [skL, cntL, List.length_append, skV_len gap g, skL_len gap gs]
end

/-- What follows begins at 'en' or behind. -/
def front (en : Int) (rest : Sk) : Prop := ∀ x, rest.head? = some x → en ≤ x.1

theorem runP_block {en : Int} {rest : Sk} (hr : front en rest) : ∀ B : Sk, (∀ x ∈ B, x.1 < en) → runP en (B ++ rest) = B.length
  | [], _ => by
    cases rest with
    | nil => rfl
    | cons x l =>
      have := hr x rfl
      simp only [List.nil_append, runP, List.length_nil]
      rw [if_neg (by omega)]
  | x :: B, h => by
    simp only [List.cons_append, runP, List.length_cons]
    rw [if_pos (h x List.mem_cons_self), runP_block hr B fun y hy => h y (List.mem_cons_of_mem _ hy)]

def pos : List GVal → Nat → List Nat
  | [], _ => []
  | g :: gs, p => p :: pos gs (p + cntV g)

theorem drop_at {S : Sk} {p : Nat} {x : Int × Int} {T : Sk} (h : S.drop p = x :: T) : S[p]? = some x ∧ S.drop (p + 1) = T := by
  constructor
  · have : (S.drop p)[0]? = some x := by rw [h]; rfl
    simpa using this
  · rw [← List.drop_drop, h]
    rfl
theorem drop_blk {S B T : Sk} {p : Nat} (h : S.drop p = B ++ T) : S.drop (p + B.length) = T := by
  rw [← List.drop_drop, h, List.drop_left]

theorem cntV_pos (g : GVal) : 0 < cntV g := by rw [cntV_eq]; omega

theorem front_skL {gap : Int} (hg : 0 < gap) {en now : Int} {rest : Sk} (gs : List GVal) (hr : front en rest) (he : now + wL gap gs ≤ en) : front now (skL gap gs now ++ rest) := by
  intro x hx
  cases gs with
  | nil =>
    have := hr x (by simpa [skL] using hx)
    simp only [wL] at he
    omega
  | cons g gs =>
    simp only [skL, skV_eq, List.cons_append, List.head?_cons, Option.some.injEq] at hx
    subst hx
    dsimp only
    omega

theorem kidsP_pos {gap : Int} (hg : 0 < gap) {S : Sk} {en : Int} {rest : Sk} (hr : front en rest) : ∀ (gs : List GVal) (p : Nat) (now : Int) (n : Nat), S.drop p = skL gap gs now ++ rest → now + wL gap gs ≤ en → gs.length < n →
    kidsP S en n p = pos gs p
  | [], p, now, n, h, he, hn => by
    obtain ⟨n, rfl⟩ : ∃ m, n = m + 1 := ⟨n - 1, by simp at hn; omega⟩
    unfold kidsP pos
    cases hx : S[p]? with
    | none => rfl
    | some x =>
      have h0 : (S.drop p)[0]? = some x := by simpa using hx
      rw [h] at h0
      have := hr x (by rw [List.head?_eq_getElem?]; simpa [skL] using h0)
      dsimp only
      rw [if_neg (by omega)]
  | g :: gs, p, now, n, h, he, hn => by
    obtain ⟨n, rfl⟩ : ∃ m, n = m + 1 := ⟨n - 1, by omega⟩
    have hw := wL_nn hg gs
    have hlen := skV_len gap g now
    simp only [skL, wL, List.append_assoc] at h he
    have h3 := drop_blk h
    have hbd := skV_bd hg g now
    rw [skV_eq] at h hlen h3 hbd
    rw [List.cons_append] at h
    obtain ⟨h1, h2⟩ := drop_at h
    have hx := hbd _ List.mem_cons_self
    dsimp only at hx
    rw [List.length_cons] at hlen
    have hf : front (now + wV gap g) (skL gap gs (now + wV gap g) ++ rest) := front_skL hg gs hr (by omega)
    unfold kidsP pos
    rw [h1]
    dsimp only
    rw [if_pos (by omega), h2, runP_block hf _ (fun y hy => by have := hbd y (List.mem_cons_of_mem _ hy); omega), show p + 1 + (skL gap (g.l ++ g.vs) (now + gap)).length = p + cntV g by omega,
      kidsP_pos hg hr gs (p + cntV g) (now + wV gap g) n (by rw [← h3, List.length_cons, hlen]) (by omega) (by simp at hn; omega)]

theorem pos_cnt (gs : List GVal) : gs.length ≤ cntL gs := by
  induction gs with
  | nil => simp
  | cons g gs ih =>
    have := cntV_pos g
    simp only [List.length_cons, cntL]
    omega

def chain (S : Sk) (en : Int) : Int → List Nat → Prop
  | _, [] => True
  | last, m :: ms => ∃ x, S[m]? = some x ∧ last < x.1 ∧ x.2 < en ∧ chain S en x.2 ms

theorem chain_pos {gap : Int} (hg : 0 < gap) {S : Sk} {en : Int} {rest : Sk} : ∀ (gs : List GVal) (p : Nat) (now last : Int), S.drop p = skL gap gs now ++ rest → now + wL gap gs < en → last ≤ now → chain S en last (pos gs p)
  | [], _, _, _, _, _, _ => trivial
  | g :: gs, p, now, last, h, he, hl => by
    have hw := wL_nn hg gs
    have hlen := skV_len gap g now
    simp only [skL, wL, List.append_assoc] at h he
    have h3 := drop_blk h
    rw [hlen] at h3
    rw [skV_eq, List.cons_append] at h
    obtain ⟨h1, _⟩ := drop_at h
    exact ⟨_, h1, by dsimp only; omega, by dsimp only; omega, chain_pos hg gs _ _ _ h3 (by omega) (Int.le_refl _)⟩

/-- How often m is a child of the n records from a on. -/
def sumP (S : Sk) (m a : Nat) : Nat → Nat
  | 0 => 0
  | n + 1 => sumP S m a n + (kidsAt S (a + n)).count m
theorem sumP_add (S : Sk) (m a n : Nat) : ∀ k, sumP S m a (n + k) = sumP S m a n + sumP S m (a + n) k
  | 0 => rfl
  | k + 1 => by
    have e : a + (n + k) = a + n + k := by omega
    show sumP S m a (n + k) + (kidsAt S (a + (n + k))).count m = sumP S m a n + (sumP S m (a + n) k + (kidsAt S (a + n + k)).count m)
    rw [sumP_add S m a n k, e]
    omega

def ind (a b m : Nat) : Nat := if a ≤ m ∧ m < b then 1 else 0
theorem ind_t {a b m : Nat} (h : a ≤ m ∧ m < b) : ind a b m = 1 := if_pos h
theorem ind_f {a b m : Nat} (h : ¬ (a ≤ m ∧ m < b)) : ind a b m = 0 := if_neg h

def okAt (S : Sk) (i : Nat) : Prop := ∃ x, S[i]? = some x ∧ chain S x.2 x.1 (kidsAt S i)

def TreeOk (gap : Int) (g : GVal) : Prop := ∀ (S : Sk) (p : Nat) (now : Int) (rest : Sk), S.drop p = skV gap g now ++ rest → front (now + wV gap g) rest →
  (∀ i, p ≤ i → i < p + cntV g → okAt S i) ∧ ∀ m, sumP S m p (cntV g) = ind (p + 1) (p + cntV g) m

theorem sibs_ok {gap : Int} (hg : 0 < gap) : ∀ gs : List GVal, (∀ g ∈ gs, TreeOk gap g) → ∀ (S : Sk) (p : Nat) (now : Int) (rest : Sk), S.drop p = skL gap gs now ++ rest → front (now + wL gap gs) rest →
    (∀ i, p ≤ i → i < p + cntL gs → okAt S i) ∧ ∀ m, sumP S m p (cntL gs) + (pos gs p).count m = ind p (p + cntL gs) m
  | [], _, S, p, now, rest, h, hr => by
    simp only [cntL]
    refine ⟨fun i h1 h2 => by omega, fun m => ?_⟩
    rw [ind_f (by omega)]
    rfl
  | g :: gs, ih, S, p, now, rest, h, hr => by
    have hlen := skV_len gap g now
    have hc := cntV_pos g
    simp only [skL, wL, List.append_assoc] at h hr
    have h3 := drop_blk h
    rw [hlen] at h3
    rw [← Int.add_assoc] at hr
    obtain ⟨a1, a2⟩ := ih g List.mem_cons_self S p now _ h (front_skL hg gs hr (Int.le_refl _))
    obtain ⟨b1, b2⟩ := sibs_ok hg gs (fun x hx => ih x (List.mem_cons_of_mem _ hx)) S (p + cntV g) (now + wV gap g) rest h3 hr
    simp only [cntL, pos]
    refine ⟨fun i h1 h2 => ?_, fun m => ?_⟩
    · by_cases hi : i < p + cntV g
      · exact a1 i h1 hi
      · exact b1 i (by omega) (by omega)
    · have a2 := a2 m
      have b2 := b2 m
      rw [sumP_add, List.count_cons]
      by_cases hm : p = m
      · subst hm
        simp only [beq_self_eq_true, if_true]
        rw [ind_f (by omega)] at a2
        rw [ind_f (by omega)] at b2
        rw [ind_t (by omega)]
        omega
      · rw [if_neg (by simpa using hm)]
        by_cases h1 : p < m ∧ m < p + cntV g
        · rw [ind_t (by omega)] at a2
          rw [ind_f (by omega)] at b2
          rw [ind_t (by omega)]
          omega
        · rw [ind_f (by omega)] at a2
          by_cases h2 : p + cntV g ≤ m ∧ m < p + cntV g + cntL gs
          · rw [ind_t (by omega)] at b2
            rw [ind_t (by omega)]
            omega
          · rw [ind_f (by omega)] at b2
            rw [ind_f (by omega)]
            omega

theorem tree_ok {gap : Int} (hg : 0 < gap) (g : GVal) : TreeOk gap g := by
  induction g using GVal.byWeight with | _ g ih => ?_
  intro S p now rest h hr
  have hlen := skV_len gap g now
  have hce := cntV_eq g
  rw [← cntL_append] at hce
  have hwe := wV_eq gap g
  have hlS : cntV g ≤ S.length := by
    have := congrArg List.length h
    rw [List.length_append, hlen, List.length_drop] at this
    omega
  rw [skV_eq, List.cons_append] at h
  obtain ⟨h1, h2⟩ := drop_at h
  have hr' : front (now + gap + wL gap (g.l ++ g.vs)) rest := fun x hx => by have := hr x hx; omega
  obtain ⟨b1, b2⟩ := sibs_ok hg (g.l ++ g.vs) (fun x hx => ih x (in_weight hx)) S (p + 1) (now + gap) rest h2 hr'
  have hk : kidsAt S p = pos (g.l ++ g.vs) (p + 1) := by
    unfold kidsAt
    rw [h1]
    exact kidsP_pos hg hr (g.l ++ g.vs) (p + 1) (now + gap) S.length h2 (by omega) (by have := pos_cnt (g.l ++ g.vs); omega)
  refine ⟨fun i h3 h4 => ?_, fun m => ?_⟩
  · by_cases hi : i = p
    · subst hi
      refine ⟨_, h1, ?_⟩
      rw [hk]
      exact chain_pos hg (g.l ++ g.vs) (i + 1) (now + gap) _ h2 (by dsimp only; omega) (by dsimp only; omega)
    · exact b1 i (by omega) (by omega)
  · have b2 := b2 m
    rw [hce, sumP_add]
    show 0 + (kidsAt S p).count m + _ = _
    rw [hk]
    by_cases hm : p + 1 ≤ m ∧ m < p + 1 + cntL (g.l ++ g.vs)
    · rw [ind_t hm] at b2
      rw [ind_t (by omega)]
      omega
    · rw [ind_f hm] at b2
      rw [ind_f (by omega)]
      omega

/-- THE COUNTS OF A SHRED: every record but the first is met once. -/
theorem shred_tree {gap : Int} (hg : 0 < gap) (g : GVal) (lv : Int) (nm : Bool) (name : ByteArray) (hw : g.wf) :
    (∀ i, i < cntV g → okAt ((shredV gap g lv nm name 0).1.map se) i) ∧ ∀ m, sumP ((shredV gap g lv nm name 0).1.map se) m 0 (cntV g) = ind 1 (cntV g) m := by
  rw [(shredV_sk gap g lv nm name 0 hw).1]
  obtain ⟨h1, h2⟩ := tree_ok hg g (skV gap g 0) 0 0 [] (by simp) (fun x hx => by cases hx)
  refine ⟨fun i hi => h1 i (Nat.zero_le _) (by omega), fun m => ?_⟩
  rw [h2 m]
  simp only [Nat.zero_add]
end Go.Sy
