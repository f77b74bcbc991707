/- A local row becomes an array of the call's own; loads and stores in arrays; pieces of slices and strings. No program in sight. -/
import Derived.Test.YtadnijcgohflhaaDoorSyI
namespace Go.Sy

/-! ### A known row's address, told -/

def concP (h g : Nat) : PT → PT
  | .loc i o => bif Nat.beq i h then .val (.pointer (some ⟨g, o, none⟩)) else .loc i o
  | .val x => .val x
def conc (h g : Nat) : AT → AT
  | .p i o => bif Nat.beq i h then .v (.pointer (some ⟨g, o, none⟩)) else .p i o
  | .sl i n => bif Nat.beq i h then .v (.slice (some ⟨g, 0, none⟩) n n) else .sl i n
  | .fn f c => .fn f (c.map (concP h g))
  | x => x
def concS1 (h g : Nat) : S1 → S1
  | .a x => .a (conc h g x)
  | .agg cs => .agg (cs.map (conc h g))
def concS (h g : Nat) : SV → SV
  | .a x => .a (conc h g x)
  | .agg cs => .agg (cs.map (conc h g))
  | .tup vs => .tup (vs.map (concS1 h g))
def concE (h g : Nat) : Env → Env
  | [] => []
  | (i, x) :: l => (i, concS h g x) :: concE h g l
/-- The rows but one. -/
def HP.del (h : Nat) : HP → HP
  | [] => []
  | (i, k, cs) :: l => bif Nat.beq i h then HP.del h l else (i, k, cs) :: HP.del h l

section
variable {h g : Nat} {β : Nat → Addr}

theorem concP_den (hβ : β h = ⟨g, 0, none⟩) (x : PT) : (concP h g x).den β = x.den β := by
  cases x with
  | loc i o =>
    simp only [concP]
    cases hb : Nat.beq i h with
    | false => rfl
    | true => have := Nat.eq_of_beq_eq_true hb; subst this; simp only [cond_true, PT.den, hβ, add0]
  | val x => rfl
theorem conc_den (hβ : β h = ⟨g, 0, none⟩) (x : AT) : (conc h g x).den β = x.den β := by
  cases x with
  | p i o =>
    simp only [conc]
    cases hb : Nat.beq i h with
    | false => rfl
    | true => have := Nat.eq_of_beq_eq_true hb; subst this; simp only [cond_true, AT.den, hβ, add0]
  | sl i n =>
    simp only [conc]
    cases hb : Nat.beq i h with
    | false => rfl
    | true => have := Nat.eq_of_beq_eq_true hb; subst this; simp only [cond_true, AT.den, hβ]
  | fn f c =>
    simp only [conc, AT.den, List.map_map]
    have : (PT.den β ∘ concP h g) = PT.den β := by funext x; exact concP_den hβ x
    rw [this]
  | _ => rfl
theorem concL_den (hβ : β h = ⟨g, 0, none⟩) (l : List AT) : (l.map (conc h g)).map (AT.den β) = l.map (AT.den β) := by
  rw [List.map_map]
  have : (AT.den β ∘ conc h g) = AT.den β := by funext x; exact conc_den hβ x
  rw [this]
theorem concS1_den (hβ : β h = ⟨g, 0, none⟩) (x : S1) : (concS1 h g x).den β = x.den β := by
  cases x with
  | a x => exact conc_den hβ x
  | agg l => simp only [concS1, S1.den, concL_den hβ]
theorem concS_den (hβ : β h = ⟨g, 0, none⟩) (x : SV) : (concS h g x).den β = x.den β := by
  cases x with
  | a x => exact conc_den hβ x
  | agg l => simp only [concS, SV.den, concL_den hβ]
  | tup vs =>
    simp only [concS, SV.den, List.map_map]
    have : (S1.den β ∘ concS1 h g) = S1.den β := by funext x; exact concS1_den hβ x
    rw [this]

theorem concP_lt {n : Nat} {x : PT} (hx : x.lt n) : (concP h g x).lt n := by
  cases x with
  | loc i o => simp only [concP]; cases Nat.beq i h <;> first | exact hx | trivial
  | val x => trivial
theorem conc_lt {n : Nat} {x : AT} (hx : x.lt n) : (conc h g x).lt n := by
  cases x with
  | p i o => simp only [conc]; cases Nat.beq i h <;> first | exact hx | trivial
  | sl i m => simp only [conc]; cases Nat.beq i h <;> first | exact hx | trivial
  | fn f c =>
    intro y hy
    obtain ⟨z, hz, rfl⟩ := List.mem_map.1 hy
    exact concP_lt (hx z hz)
  | _ => trivial
theorem concS1_lt {n : Nat} {x : S1} (hx : x.lt n) : (concS1 h g x).lt n := by
  cases x with
  | a x => exact conc_lt (x := x) hx
  | agg l =>
    intro y hy
    obtain ⟨z, hz, rfl⟩ := List.mem_map.1 hy
    exact conc_lt (hx z hz)
theorem concS_lt {n : Nat} {x : SV} (hx : x.lt n) : (concS h g x).lt n := by
  cases x with
  | a x => exact conc_lt (x := x) hx
  | agg l =>
    intro y hy
    obtain ⟨z, hz, rfl⟩ := List.mem_map.1 hy
    exact conc_lt (hx z hz)
  | tup vs =>
    intro y hy
    obtain ⟨z, hz, rfl⟩ := List.mem_map.1 hy
    exact concS1_lt (hx z hz)

theorem concE_get : ∀ {env : Env} {i : Nat} {x : SV}, (concE h g env).get i = some x → ∃ y, env.get i = some y ∧ x = concS h g y
  | [], _, _, hx => by cases hx
  | (j, y) :: l, i, x, hx => by
    simp only [concE] at hx
    rw [Env.get_cons] at hx ⊢
    by_cases hji : j = i
    · rw [if_pos hji] at hx ⊢; injection hx with hx; exact ⟨y, rfl, hx.symm⟩
    · rw [if_neg hji] at hx ⊢; exact concE_get hx

theorem HP.del_get {hp : HP} {i : Nat} : (HP.del h hp).get i = if i = h then none else hp.get i := by
  induction hp with
  | nil => simp [HP.del, HP.get]
  | cons e l ih =>
    obtain ⟨j, k, cs⟩ := e
    simp only [HP.del]
    cases hb : Nat.beq j h with
    | true =>
      have := Nat.eq_of_beq_eq_true hb
      subst this
      simp only [cond_true]
      rw [ih, HP.get_cons]
      by_cases hij : i = j
      · rw [if_pos hij, if_pos hij]
      · rw [if_neg hij, if_neg hij, if_neg (fun e => hij e.symm)]
    | false =>
      have hne : j ≠ h := fun e => by subst e; simp at hb
      simp only [cond_false]
      rw [HP.get_cons, HP.get_cons, ih]
      by_cases hij : j = i
      · rw [if_pos hij, if_neg (by omega), if_pos hij]
      · rw [if_neg hij, if_neg hij]
theorem HP.del_some {hp : HP} {i : Nat} {x : HK × List AT} (hx : (HP.del h hp).get i = some x) : i ≠ h ∧ hp.get i = some x := by
  rw [HP.del_get] at hx
  by_cases hih : i = h
  · rw [if_pos hih] at hx; cases hx
  · rw [if_neg hih] at hx; exact ⟨hih, hx⟩
end

section
variable {cf : Cf} {σ : Snap} {hp : HP} {A : List AE} {β : Nat → Addr} {w : World}

theorem append_get {A : List AE} {E F : AE} {i : Nat} (h : (A ++ [E])[i]? = some F) : (i < A.length ∧ A[i]? = some F) ∨ (i = A.length ∧ F = E) := by
  by_cases hlt : i < A.length
  · rw [List.getElem?_append_left hlt] at h; exact .inl ⟨hlt, h⟩
  · rw [List.getElem?_append_right (by omega)] at h
    have h0 : i - A.length = 0 := by
      cases hq : i - A.length with
      | zero => rfl
      | succ m => rw [hq] at h; simp at h
    rw [h0] at h
    simp at h
    exact .inr ⟨by omega, h.symm⟩
theorem append_get_old {A : List AE} {E F : AE} {i : Nat} (h : A[i]? = some F) : (A ++ [E])[i]? = some F := by
  rw [List.getElem?_append_left (List.getElem?_eq_some_iff.1 h).1]; exact h
theorem append_get_new {A : List AE} {E : AE} : (A ++ [E])[A.length]? = some E := by
  rw [List.getElem?_append_right (Nat.le_refl _), Nat.sub_self]; rfl

/-- A row that is the call's own is an array of its own. -/
theorem StW.own {h : Nat} {e : TypeId} {cs : List AT} (hrow : hp.get h = some (.loc e, cs)) (hcs : ∀ c ∈ cs, c.lt 0) {g : Nat} (hβ : β h = ⟨g, 0, none⟩) {n sz : Nat} (hlen : cs.length = n * sz) (hn : n ≤ maxLen) :
    StW cf σ hp A β w ↔ StW cf σ (HP.del h hp) (A ++ [⟨some ⟨g, 0, none⟩, n, n, e, sz, cs.map AT.val⟩]) β w := by
  have hval : cs.map AT.val = cs.map (AT.den β) := List.map_congr_left fun c hc => (AT.den_val (hcs c hc) β).symm
  have hget' : ∀ {i : Nat} {x : HK × List AT}, i ≠ h → hp.get i = some x → (HP.del h hp).get i = some x := by
    intro i x hne hi
    rw [HP.del_get, if_neg hne]; exact hi
  constructor
  · intro H
    obtain ⟨l1, l2, l3, l4⟩ := H.loc h e cs hrow
    have hgb : (β h).block = g := by rw [hβ]
    refine ⟨H.os, H.tape, H.output, H.size, H.fr, H.sealed, H.le, H.grow, fun i e' l hi => H.loc i e' l (HP.del_some hi).2, fun i l hi => H.ro i l (HP.del_some hi).2, fun i j e1 e2 c1 c2 hi hj => H.inj i j e1 e2 c1 c2 (HP.del_some hi).2 (HP.del_some hj).2,
      fun i E hE => ?_, fun i j E F hE hF hij b hb => ?_, fun i j E e' l hE hj => ?_⟩
    · rcases append_get hE with ⟨_, hE'⟩ | ⟨_, rfl⟩
      · exact H.arr i E hE'
      · refine ⟨by simp [hlen], .inr ⟨g, _, rfl, by rw [← hgb]; exact l2, Nat.le_refl _, hn, by simp [hlen], ?_, by rw [← hgb]; exact l3, by rw [← hgb]; exact l4⟩⟩
        simp only [hval]
        rw [← hlen]
        exact List.take_of_length_le (by simp)
    · rcases append_get hE with ⟨_, hE'⟩ | ⟨hi', rfl⟩ <;> rcases append_get hF with ⟨_, hF'⟩ | ⟨hj', rfl⟩
      · exact H.arrd i j E F hE' hF' hij b hb
      · simp only [AE.blk, Option.map_some]
        have := H.arrh i h E e cs hE' hrow
        rw [hgb] at this
        rw [hb] at this
        exact fun hc => this hc.symm
      · simp only [AE.blk, Option.map_some, Option.some.injEq] at hb
        have := H.arrh j h F e cs hF' hrow
        rw [hgb, hb] at this
        exact this
      · omega
    · obtain ⟨hjh, hj'⟩ := HP.del_some hj
      rcases append_get hE with ⟨_, hE'⟩ | ⟨_, rfl⟩
      · exact H.arrh i j E e' l hE' hj'
      · simp only [AE.blk, Option.map_some, ne_eq, Option.some.injEq]
        intro hc
        exact hjh (H.inj j h e' e l cs hj' hrow (by rw [hgb]; exact hc.symm))
  · intro H
    have hnew := H.arr A.length _ append_get_new
    have hrowW : w.heap[g]? = some (.cells (cs.map (AT.den β)).toArray e (0, 0)) ∧ σ g = none ∧ Own cf g := by
      rcases hnew.2 with h1 | ⟨g', cur, h3, h4, h5, h6, h7, h8, h9, h10⟩
      · cases h1.1
      · injection h3 with h3
        simp only [Addr.mk.injEq, and_true] at h3
        subst h3
        refine ⟨?_, h9, h10⟩
        rw [h4]
        congr 2
        simp only at h7 h8
        rw [← h7, ← Array.length_toList, List.take_length, hval] at h8
        rw [← h8]
    have hsplit : ∀ {i : Nat} {k : HK} {l : List AT}, hp.get i = some (k, l) → (i = h ∧ k = .loc e ∧ l = cs) ∨ (i ≠ h ∧ (HP.del h hp).get i = some (k, l)) := by
      intro i k l hi
      by_cases hih : i = h
      · subst hih
        rw [hrow] at hi
        injection hi with hi
        simp only [Prod.mk.injEq] at hi
        exact .inl ⟨rfl, hi.1.symm, hi.2.symm⟩
      · exact .inr ⟨hih, hget' hih hi⟩
    refine ⟨H.os, H.tape, H.output, H.size, H.fr, H.sealed, H.le, H.grow, fun i e' l hi => ?_, fun i l hi => ?_, fun i j e1 e2 c1 c2 hi hj hij => ?_, fun i E hE => H.arr i E (append_get_old hE), fun i j E F hE hF => H.arrd i j E F (append_get_old hE) (append_get_old hF), fun i j E e' l hE hj => ?_⟩
    · rcases hsplit hi with ⟨rfl, hk, rfl⟩ | ⟨hne, hi'⟩
      · injection hk with hk
        subst hk
        rw [hβ]
        exact ⟨rfl, hrowW⟩
      · exact H.loc i e' l hi'
    · rcases hsplit hi with ⟨rfl, hk, rfl⟩ | ⟨hne, hi'⟩
      · cases hk
      · exact H.ro i l hi'
    · rcases hsplit hi with ⟨rfl, _, rfl⟩ | ⟨hne, hi'⟩ <;> rcases hsplit hj with ⟨rfl, _, rfl⟩ | ⟨hne', hj'⟩
      · rfl
      · exact absurd (by simp [AE.blk]; rw [← hij, hβ]) (H.arrh A.length j _ e2 c2 append_get_new hj')
      · exact absurd (by simp [AE.blk]; rw [hij, hβ]) (H.arrh A.length i _ e1 c1 append_get_new hi')
      · exact H.inj i j e1 e2 c1 c2 hi' hj' hij
    · rcases hsplit hj with ⟨rfl, _, rfl⟩ | ⟨hne, hj'⟩
      · rw [hβ]
        intro hc
        have hlt := (List.getElem?_eq_some_iff.1 hE).1
        exact H.arrd i A.length E _ (append_get_old hE) append_get_new (by omega) g hc (by simp [AE.blk])
      · exact H.arrh i j E e' l (append_get_old hE) hj'
end

section
variable {cf : Cf} {Q : Exit → Act → World → Prop} {σ : Snap} {env : Env} {hp : HP} {A : List AE} {nh : Nat} {it : Item} {rest : List Item}

theorem StA.conc {β : Nat → Addr} {a : Act} {h g : Nat} (hβ : β h = ⟨g, 0, none⟩) (ha : StA cf env β a) : StA cf (concE h g env) β a := by
  refine ⟨ha.size, ha.defers, fun i x hx => ?_⟩
  obtain ⟨y, hy, rfl⟩ := concE_get hx
  rw [concS_den hβ]; exact ha.env i y hy
theorem Bd.conc {h g : Nat} (hb : Bd env hp nh) : Bd (concE h g env) (HP.del h hp) nh := by
  refine ⟨fun i x hx => ?_, fun i k cs hi => hb.hp i k cs (HP.del_some hi).2⟩
  obtain ⟨y, hy, rfl⟩ := concE_get hx
  exact concS_lt (hb.env i y hy)

theorem oj_own {l : List Item} (h : Nat) {e : TypeId} {cs : List AT} (n sz : Nat) (hrow : hp.get h = some (.loc e, cs)) (hcs : ∀ c ∈ cs, c.lt 0) (hlen : cs.length = n * sz) (hn : n ≤ 9223372036854775807)
    (k : ∀ g, OJ cf l Q σ (concE h g env) (HP.del h hp) (A ++ [⟨some ⟨g, 0, none⟩, n, n, e, sz, cs.map AT.val⟩]) nh) : OJ cf l Q σ env hp A nh := by
  refine ⟨fun hb a β ha hex => ?_⟩
  obtain ⟨w, hw⟩ := hex
  have hβ : β h = ⟨(β h).block, 0, none⟩ := (hw.loc h e cs hrow).1
  have e1 : (fun w => StW cf σ hp A β w) = fun w => StW cf σ (HP.del h hp) (A ++ [⟨some ⟨(β h).block, 0, none⟩, n, n, e, sz, cs.map AT.val⟩]) β w := by
    funext w; exact propext (StW.own hrow hcs hβ hlen (by simp only [maxLen]; exact hn))
  rw [e1]
  exact (k _).run hb.conc a β (ha.conc hβ) ⟨w, (congrFun e1 w) ▸ hw⟩
theorem cj_own {c : Code} (h : Nat) {e : TypeId} {cs : List AT} (n sz : Nat) (hrow : hp.get h = some (.loc e, cs)) (hcs : ∀ c ∈ cs, c.lt 0) (hlen : cs.length = n * sz) (hn : n ≤ 9223372036854775807)
    (k : ∀ g, CJ cf c Q σ (concE h g env) (HP.del h hp) (A ++ [⟨some ⟨g, 0, none⟩, n, n, e, sz, cs.map AT.val⟩]) nh) : CJ cf c Q σ env hp A nh := by
  refine ⟨fun hb a β w ha hw => ?_⟩
  have hβ : β h = ⟨(β h).block, 0, none⟩ := (hw.loc h e cs hrow).1
  exact (k _).run hb.conc a β w (ha.conc hβ) ((StW.own hrow hcs hβ hlen (by simp only [maxLen]; exact hn)).1 hw)
theorem nj_own {ex : Exit} (h : Nat) {e : TypeId} {cs : List AT} (n sz : Nat) (hrow : hp.get h = some (.loc e, cs)) (hcs : ∀ c ∈ cs, c.lt 0) (hlen : cs.length = n * sz) (hn : n ≤ 9223372036854775807)
    (k : ∀ g, NJ cf ex Q σ (concE h g env) (HP.del h hp) (A ++ [⟨some ⟨g, 0, none⟩, n, n, e, sz, cs.map AT.val⟩]) nh) : NJ cf ex Q σ env hp A nh := by
  refine ⟨fun hb a β w ha hw => ?_⟩
  have hβ : β h = ⟨(β h).block, 0, none⟩ := (hw.loc h e cs hrow).1
  exact (k _).run hb.conc a β w (ha.conc hβ) ((StW.own hrow hcs hβ hlen (by simp only [maxLen]; exact hn)).1 hw)

/-- An array that is not empty stands somewhere. -/
theorem ArrOk.some {w : World} {E : AE} (h : ArrOk cf σ w E) (hn : 0 < E.cap) : ∃ g, E.ao = .some ⟨g, 0, none⟩ := by
  rcases h.2 with h1 | ⟨g, cur, h3, _⟩
  · omega
  · exact ⟨g, h3⟩
theorem ArrOk.ncap {w : World} {E : AE} (h : ArrOk cf σ w E) : E.n ≤ E.cap := by
  rcases h.2 with h1 | ⟨g, cur, h3, h4, h5, _⟩
  · omega
  · exact h5
theorem oj_arrAt {l : List Item} (i : Nat) {E : AE} (hi : A[i]? = some E) (hn : 0 < E.n) (k : ∀ g, E.ao = some ⟨g, 0, none⟩ → OJ cf l Q σ env hp A nh) : OJ cf l Q σ env hp A nh := by
  refine ⟨fun hb a β ha hex => ?_⟩
  obtain ⟨w, hw⟩ := hex
  have hE := hw.arr i E hi
  obtain ⟨g, hg⟩ := hE.some (Nat.lt_of_lt_of_le hn hE.ncap)
  exact (k g hg).run hb a β ha ⟨w, hw⟩
theorem cj_arrAt {c : Code} (i : Nat) {E : AE} (hi : A[i]? = some E) (hn : 0 < E.n) (k : ∀ g, E.ao = some ⟨g, 0, none⟩ → CJ cf c Q σ env hp A nh) : CJ cf c Q σ env hp A nh := by
  refine ⟨fun hb a β w ha hw => ?_⟩
  have hE := hw.arr i E hi
  obtain ⟨g, hg⟩ := hE.some (Nat.lt_of_lt_of_le hn hE.ncap)
  exact (k g hg).run hb a β w ha hw
theorem cj_arrCap {c : Code} (i : Nat) {E : AE} (hi : A[i]? = some E) (k : E.n ≤ E.cap → E.xs.length = E.n * E.sz → CJ cf c Q σ env hp A nh) : CJ cf c Q σ env hp A nh :=
  ⟨fun hb a β w ha hw => (k (hw.arr i E hi).ncap (hw.arr i E hi).1).run hb a β w ha hw⟩

/-- An operation that yields one value, in all worlds of the kind. -/
theorem oj_valW {d : Nat} (y : SV) (hd : it.o.dst = some d) (hg : guardVal it.guard env = some true) (hN : Nat.blt d cf.N = true) (hlt : y.lt nh) (ht : (match it.tag with | .pure => false | _ => true) = true)
    (hrun : Bd env hp nh → ∀ a β, StA cf env β a → ∀ w, StW cf σ hp A β w → (execOp a.eval it.o).run cf.P w = .ok (.value (y.den β)) w) (k : OJ cf rest Q σ ((d, y) :: env) hp A nh) : OJ cf (it :: rest) Q σ env hp A nh := by
  refine ⟨fun hb a β ha hex => ?_⟩
  have hN' : d < cf.N := by simpa [Nat.blt_eq] using hN
  have h' := k.run (hb.put hlt d) (a.put (some d) (y.den β)) β (ha.put hN' y) hex
  have hrun := hrun hb a β ha
  simp only [RunT]
  rw [if_pos (guardVal_ok ha hg), hd]
  cases htag : it.tag with
  | pure => rw [htag] at ht; cases ht
  | quiet => exact ⟨_, fun w hw => .inl (hrun w hw), h'⟩
  | keep => exact fun w hw => wp_of_quiet (.inl (hrun w hw)) ⟨_, _, hw, fun _ h => h, fun _ h => h, by rw [hd]; exact h'⟩
  | sink => exact fun w hw => wp_of_quiet (.inl (hrun w hw)) ⟨_, _, hw, fun _ h => h, by rw [hd]; exact h'⟩
  | free => exact fun w hw => wp_of_quiet (.inl (hrun w hw)) ⟨_, _, hw, fun _ h => h, by rw [hd]; exact h'⟩

theorem ArrOk.cell {w : World} {E : AE} (h : ArrOk cf σ w E) {g : Nat} (hg : E.ao = .some ⟨g, 0, none⟩) {j : Nat} {v : Value} (hv : E.xs[j]? = .some v) : w.cell? ⟨g, j, none⟩ = .some v := by
  rcases h.2 with h1 | ⟨g', cur, h3, h4, h5, h6, h7, h8, _⟩
  · rw [h1.1] at hg; cases hg
  · rw [hg] at h3
    injection h3 with h3
    simp only [Addr.mk.injEq, and_true] at h3
    subst h3
    rw [cell_of_row w g j cur E.e (0, 0) h4]
    rw [← h8, List.getElem?_take] at hv
    split at hv
    · simpa using hv
    · cases hv

/-- A load of one cell, in an array of one's own. -/
theorem oj_ldA (i : Nat) {E : AE} {d t : Nat} {x : Operand} {T : List (Nat × TI)} (hT : TTok cf.P T) {ti : TI} {g off : Nat} {c : AT} (hop : it.o.op = .load t x) (hd : it.o.dst = some d) (hg : guardVal it.guard env = some true) (hN : Nat.blt d cf.N = true)
    (htag : (match it.tag with | .pure => false | _ => true) = true) (hx : evalO env x = some (.a (.v (.pointer (some ⟨g, off, none⟩))))) (hi : A[i]? = some E) (hE : E.ao = some ⟨g, 0, none⟩) (ht : tget T t = some ti) (hag : ti.agg = false)
    (hv : E.xs[off]? = some c.val) (hc : c.lt 0) (k : OJ cf rest Q σ ((d, .a c) :: env) hp A nh) : OJ cf (it :: rest) Q σ env hp A nh := by
  refine oj_valW (.a c) hd hg hN (AT.lt_mono (Nat.zero_le _) hc) htag (fun _ a β ha w hw => ?_) k
  obtain ⟨inf, d', z, hs⟩ := tiOf_spec (hT _ _ ht)
  have hcell := (hw.arr i E hi).cell hE hv
  have hx' : a.eval x = .pointer (some ⟨g, off, none⟩) := evalO_eval ha hx
  have hload : (load ⟨g, off, none⟩).run cf.P w = .ok c.val w := by rw [run_load, hcell]
  simp only [execOp, hop, Instr.loadAt, hx', Instr.sureAddr, loadVar, Sem.run_bind, Sem.run_pure, Result.andThen_ok, run_isAgg hs.und, hs.agg, hag, Bool.false_eq_true, if_false, hload]
  simp only [SV.den, AT.den_val hc β]

/-- A load of a struct, in an array of one's own. -/
theorem oj_ldAs (i : Nat) {E : AE} {d t : Nat} {x : Operand} {T : List (Nat × TI)} (hT : TTok cf.P T) {ti : TI} {g off : Nat} (cs : List AT) (hop : it.o.op = .load t x) (hd : it.o.dst = some d) (hg : guardVal it.guard env = some true) (hN : Nat.blt d cf.N = true)
    (htag : (match it.tag with | .pure => false | _ => true) = true) (hx : evalO env x = some (.a (.v (.pointer (some ⟨g, off, none⟩))))) (hi : A[i]? = some E) (hE : E.ao = some ⟨g, 0, none⟩) (ht : tget T t = some ti) (hag : ti.agg = true)
    (hlen : cs.length = ti.size) (hv : ∀ (j : Nat) c, cs[j]? = some c → E.xs[off + j]? = some c.val) (hc : ∀ c ∈ cs, c.lt 0) (k : OJ cf rest Q σ ((d, .agg cs) :: env) hp A nh) : OJ cf (it :: rest) Q σ env hp A nh := by
  refine oj_valW (.agg cs) hd hg hN (fun c h => AT.lt_mono (Nat.zero_le _) (hc c h)) htag (fun _ a β ha w hw => ?_) k
  obtain ⟨inf, d', z, hs⟩ := tiOf_spec (hT _ _ ht)
  have hx' : a.eval x = .pointer (some ⟨g, off, none⟩) := evalO_eval ha hx
  have hrun := run_loadCells_list (P := cf.P) (w := w) ⟨g, off, none⟩ (cs.map (AT.den β)) (fun j v hv' => by
    rw [List.getElem?_map] at hv'
    obtain ⟨c, hc', rfl⟩ := map_some hv'
    rw [Addr.add_lit, AT.den_val (hc c (List.mem_of_getElem? hc')) β]
    exact (hw.arr i E hi).cell hE (hv j c hc'))
  have hl : (cs.map (AT.den β)).length = inf.size := by simp [hlen, hs.size]
  rw [hl] at hrun
  simp only [execOp, hop, Instr.loadAt, hx', Instr.sureAddr, loadVar, Sem.run_bind, Sem.run_pure, Result.andThen_ok, run_isAgg hs.und, hs.agg, hag, if_true, run_size hs.info, hrun]
  rfl

/-- A store of one cell. -/
theorem oj_stA (i : Nat) {E : AE} {A' : List AE} {t : Nat} {x y : Operand} {T : List (Nat × TI)} (hT : TTok cf.P T) {ti : TI} {g off : Nat} {c : AT} (hop : it.o.op = .store t x y) (hd : it.o.dst = none) (hg : guardVal it.guard env = some true)
    (htag : canSink it.tag = true) (hx : evalO env x = some (.a (.v (.pointer (some ⟨g, off, none⟩))))) (hy : evalO env y = some (.a c)) (hi : A[i]? = some E) (hE : E.ao = some ⟨g, 0, none⟩) (ht : tget T t = some ti) (hsz : ti.size = 1)
    (hoff : off < E.n * E.sz) (hc : c.lt 0) (hone : c.one = true) (hA : A.set i ⟨E.ao, E.n, E.cap, E.e, E.sz, E.xs.set off c.val⟩ = A') (k : OJ cf rest Q σ env hp A' nh) : OJ cf (it :: rest) Q σ env hp A nh := by
  subst hA
  refine ⟨fun hb a β ha hex => ?_⟩
  have key : ∀ w, StW cf σ hp A β w → ∀ Q', it.o.wq cf.P a w (fun a' w' => ∃ E' S' : World → Prop, S' w' ∧ (∀ x, S' x → E' x) ∧ RunT cf.P Q rest E' S' a') Q' := by
    intro w hw Q'
    obtain ⟨inf, d', z, hs⟩ := tiOf_spec (hT _ _ ht)
    have hx' : a.eval x = .pointer (some ⟨g, off, none⟩) := evalO_eval ha hx
    have hy' : a.eval y = c.val := by rw [← AT.den_val hc β]; exact evalO_eval ha hy
    have hE0 := hw.arr i E hi
    rcases hE0.2 with h1 | ⟨g', cur, h3, h4, h5, h6, h7, h8, h9, h10⟩
    · rw [h1.1] at hE; cases hE
    · rw [hE] at h3
      injection h3 with h3
      simp only [Addr.mk.injEq, and_true] at h3
      subst h3
      have hnc : E.n * E.sz ≤ E.cap * E.sz := Nat.mul_le_mul_right _ h5
      have h1v : c.val.oneCell' = true := AT.one_den β0 hone
      have hcell : c.val.cells = #[c.val] := by
        unfold Value.cells
        split
        · rename_i q hq; rw [hq] at h1v; cases h1v
        · rfl
      have hst := run_storeCells_at cf.P g off E.e [c.val] 0 cur w h4 (by simp only [List.length_singleton]; omega) (fun v hv => by
        simp only [List.mem_singleton] at hv; subst hv; exact h1v)
      simp only [Nat.add_zero] at hst
      have hset : cur.toList.take off ++ [c.val] ++ cur.toList.drop (off + 1) = cur.toList.set off c.val := by
        rw [List.set_eq_take_append_cons_drop, if_pos (by rw [Array.length_toList]; omega)]
        simp
      have hrun : (execOp a.eval it.o).run cf.P w = .ok .skip (w.setRow g (cur.toList.set off c.val).toArray) := by
        have hsz' : inf.size = 1 := by rw [hs.size, hsz]
        simp only [execOp, hop, Instr.storeAt, hx', hy', Instr.sureAddr, storeVar, Sem.run_bind, Sem.run_pure, Result.andThen_ok, hcell, run_size hs.info, hsz', List.size_toArray, List.length_singleton, ne_eq, not_true, if_false, Sem.run_ite, hst]
        rw [hset]
      unfold Oper.wq
      rw [hrun]
      have hw' := hw.setArr (E' := ⟨E.ao, E.n, E.cap, E.e, E.sz, E.xs.set off c.val⟩) (cur' := (cur.toList.set off c.val).toArray) hi hE h4 rfl rfl rfl rfl h5 (by simp [hE0.1]) (by simp [h7]) (by
        simp only [← h8, List.take_set])
      refine ⟨_, _, hw', fun _ h => h, ?_⟩
      rw [hd]
      exact k.run hb a β ha ⟨_, hw'⟩
  simp only [RunT]
  rw [if_pos (guardVal_ok ha hg)]
  cases htag' : it.tag with
  | pure => rw [htag'] at htag; cases htag
  | quiet => rw [htag'] at htag; cases htag
  | keep => rw [htag'] at htag; cases htag
  | sink => exact fun w hw => key w hw _
  | free => exact fun w hw => key w hw _

/-- A piece of a slice. -/
theorem run_sliceBounds {isS : Bool} {len cap l h : Nat} {lo hi : Option Value} (hlo : lo = none ∧ l = 0 ∨ ∃ k m, lo = some (.int k m) ∧ m = (l : Int)) (hhi : hi = none ∧ h = len ∨ ∃ k m, hi = some (.int k m) ∧ m = (h : Int)) (hl : l ≤ h) (hh : h ≤ cap) (hlc : len ≤ cap) (P : Program) (w : World) :
    (Instr.sliceBounds isS len cap lo hi none).run P w = .ok (l, h, cap) w := by
  rcases hlo with ⟨rfl, rfl⟩ | ⟨k, m, rfl, rfl⟩ <;> rcases hhi with ⟨rfl, rfl⟩ | ⟨k', m', rfl, rfl⟩ <;>
    simp [Instr.sliceBounds, Instr.sliceBound, asIntOf, hh, hl]

def optV (env : Env) : Option Operand → Option (Option Value)
  | none => some none
  | some o =>
    match evalO env o with
    | some (.a (.v (.int k m))) => some (some (.int k m))
    | _ => none

theorem optV_ok {β : Nat → Addr} {a : Act} (ha : StA cf env β a) {o : Option Operand} {v : Option Value} (h : optV env o = some v) : o.map a.eval = v := by
  cases o with
  | none => simp only [optV, Option.some.injEq] at h; subst h; rfl
  | some o =>
    simp only [optV] at h
    split at h
    · rename_i k m hk
      injection h with h
      subst h
      simp only [Option.map_some, evalO_eval ha hk]
      rfl
    · cases h

theorem oj_slice {d : Nat} {x : Operand} {lo hi : Option Operand} {vl vh : Option Value} {t e : TypeId} {T : List (Nat × TI)} (hT : TTok cf.P T) {ti te : TI} {ao : Option Addr} {n cap : Nat} (l h : Nat) (hop : it.o.op = .slice t x lo hi none) (hd : it.o.dst = some d)
    (hg : guardVal it.guard env = some true) (hN : Nat.blt d cf.N = true) (hx : evalO env x = some (.a (.v (.slice ao n cap)))) (hlo : optV env lo = some vl) (hhi : optV env hi = some vh)
    (ht : tget T t = some ti) (hkd : ti.kind = .slice e) (hte : tget T e = some te) (hl' : vl = none ∧ l = 0 ∨ ∃ k m, vl = some (.int k m) ∧ m = (l : Int)) (hh' : vh = none ∧ h = n ∨ ∃ k m, vh = some (.int k m) ∧ m = (h : Int)) (hlh : l ≤ h) (hhc : h ≤ cap) (hnc : n ≤ cap)
    (k : OJ cf rest Q σ ((d, .a (.v (.slice (if cap = l then ao else ao.map (·.add (l * te.size))) (h - l) (cap - l)))) :: env) hp A nh) : OJ cf (it :: rest) Q σ env hp A nh := by
  refine oj_val _ hd hg hN (by trivial) (fun _ a β ha w => ?_) k
  obtain ⟨i2, d2, z2, hs2⟩ := tiOf_spec (hT _ _ ht)
  obtain ⟨i3, d3, z3, hs3⟩ := tiOf_spec (hT _ _ hte)
  have h1 := hs2.kind
  have hun : cf.P.underlying t = some (.slice e) := by
    rw [hkd] at h1
    have h2 := hs2.und
    cases d2 <;> first
      | (simp only [kindD, TK.slice.injEq] at h1; subst h1; exact h2)
      | (simp only [kindD] at h1; cases h1)
  have h2 : a.eval x = .slice ao n cap := evalO_eval ha hx
  simp only [execOp, hop, h2, optV_ok ha hlo, optV_ok ha hhi, Option.map_none, Instr.sliceAt, Instr.slice, Sem.run_bind, run_underlying hun, Result.andThen_ok, run_sliceBounds hl' hh' hlh hhc hnc, run_size hs3.info, hs3.size, Sem.run_pure]
  rfl

/-- The first elements of a slice. -/
theorem oj_slice_to {d : Nat} {x hi : Operand} {t e : TypeId} {T : List (Nat × TI)} (hT : TTok cf.P T) {ti te : TI} {ao : Option Addr} {n cap : Nat} {kk : IntKind} {m : Int} (h : Nat) (hop : it.o.op = .slice t x none (some hi) none) (hd : it.o.dst = some d)
    (hg : guardVal it.guard env = some true) (hN : Nat.blt d cf.N = true) (hx : evalO env x = some (.a (.v (.slice ao n cap)))) (hhi : evalO env hi = some (.a (.v (.int kk m))))
    (ht : tget T t = some ti) (hkd : ti.kind = .slice e) (hte : tget T e = some te) (hm : m = (h : Int)) (hhc : h ≤ cap) (hnc : n ≤ cap)
    (k : OJ cf rest Q σ ((d, .a (.v (.slice ao h cap))) :: env) hp A nh) : OJ cf (it :: rest) Q σ env hp A nh := by
  refine oj_slice (vl := none) (vh := some (.int kk m)) hT 0 h hop hd hg hN hx rfl (by simp [optV, hhi]) ht hkd hte (.inl ⟨rfl, rfl⟩) (.inr ⟨kk, m, rfl, hm⟩) (Nat.zero_le _) hhc hnc ?_
  have e1 : (if cap = 0 then ao else ao.map (·.add (0 * te.size))) = ao := by
    split
    · rfl
    · cases ao <;> simp [Addr.add_zero']
  rw [e1]
  exact k

/-- A piece of a string. -/
theorem oj_slice_str {d : Nat} {x : Operand} {lo hi : Option Operand} {vl vh : Option Value} {t : TypeId} {T : List (Nat × TI)} (hT : TTok cf.P T) {ti : TI} {s : ByteArray} (l h : Nat) (hop : it.o.op = .slice t x lo hi none) (hd : it.o.dst = some d)
    (hg : guardVal it.guard env = some true) (hN : Nat.blt d cf.N = true) (hx : evalO env x = some (.a (.v (.string s)))) (hlo : optV env lo = some vl) (hhi : optV env hi = some vh)
    (ht : tget T t = some ti) (hkd : ti.kind = .str) (hl' : vl = none ∧ l = 0 ∨ ∃ k m, vl = some (.int k m) ∧ m = (l : Int)) (hh' : vh = none ∧ h = s.size ∨ ∃ k m, vh = some (.int k m) ∧ m = (h : Int)) (hlh : l ≤ h) (hhc : h ≤ s.size)
    (k : OJ cf rest Q σ ((d, .a (.v (.string (s.extract l h)))) :: env) hp A nh) : OJ cf (it :: rest) Q σ env hp A nh := by
  refine oj_val _ hd hg hN (by trivial) (fun _ a β ha w => ?_) k
  obtain ⟨i2, d2, z2, hs2⟩ := tiOf_spec (hT _ _ ht)
  have h1 := hs2.kind
  have hun : cf.P.underlying t = some .string := by
    rw [hkd] at h1
    have h2 := hs2.und
    cases d2 <;> first
      | exact h2
      | (simp only [kindD] at h1; cases h1)
  have h2 : a.eval x = .string s := evalO_eval ha hx
  simp only [execOp, hop, h2, optV_ok ha hlo, optV_ok ha hhi, Option.map_none, Instr.sliceAt, Instr.slice, Sem.run_bind, run_underlying hun, Result.andThen_ok, Option.isSome_none, Bool.false_eq_true, if_false, run_sliceBounds hl' hh' hlh hhc (Nat.le_refl _), Sem.run_pure]
  rfl
end

/-! ### Flat rows -/

theorem flat_len {α : Type} {sz : Nat} : ∀ {rows : List (List α)}, (∀ r ∈ rows, r.length = sz) → rows.flatten.length = rows.length * sz
  | [], _ => by simp
  | r :: l, h => by
    rw [List.flatten_cons, List.length_append, h r (List.mem_cons_self ..), flat_len fun q hq => h q (List.mem_cons_of_mem _ hq), List.length_cons, Nat.add_mul]
    omega

theorem flat_get {α : Type} {sz : Nat} : ∀ {rows : List (List α)} (_ : ∀ r ∈ rows, r.length = sz) {m j : Nat} {r : List α} {c : α}, rows[m]? = some r → r[j]? = some c → rows.flatten[m * sz + j]? = some c
  | [], _, _, _, _, _, h, _ => by simp at h
  | q :: l, h, m, j, r, c, hm, hj => by
    have hq := h q (List.mem_cons_self ..)
    rw [List.flatten_cons]
    cases m with
    | zero =>
      simp at hm
      subst hm
      have := (List.getElem?_eq_some_iff.1 hj).1
      rw [Nat.zero_mul, Nat.zero_add, List.getElem?_append_left this]; exact hj
    | succ m =>
      rw [List.getElem?_append_right (by rw [hq, Nat.add_mul]; omega)]
      have e : (m + 1) * sz + j - q.length = m * sz + j := by rw [hq, Nat.add_mul]; omega
      rw [e]
      exact flat_get (fun r hr => h r (List.mem_cons_of_mem _ hr)) (by simpa using hm) hj

theorem flat_set {α : Type} {sz : Nat} : ∀ {rows : List (List α)} (_ : ∀ r ∈ rows, r.length = sz) {m j : Nat} {r : List α} (c : α), rows[m]? = some r → j < sz → rows.flatten.set (m * sz + j) c = (rows.set m (r.set j c)).flatten
  | [], _, _, _, _, _, h, _ => by simp at h
  | q :: l, h, m, j, r, c, hm, hj => by
    have hq := h q (List.mem_cons_self ..)
    rw [List.flatten_cons]
    cases m with
    | zero =>
      simp at hm
      subst hm
      rw [Nat.zero_mul, Nat.zero_add, List.set_append_left _ _ (by omega)]
      simp
    | succ m =>
      rw [List.set_append_right _ _ (by rw [hq, Nat.add_mul]; omega)]
      have e : (m + 1) * sz + j - q.length = m * sz + j := by rw [hq, Nat.add_mul]; omega
      rw [e, flat_set (fun r hr => h r (List.mem_cons_of_mem _ hr)) c (by simpa using hm) hj]
      simp

theorem flat_take {α : Type} {sz : Nat} : ∀ {rows : List (List α)} (_ : ∀ r ∈ rows, r.length = sz) (k : Nat), rows.flatten.take (k * sz) = (rows.take k).flatten
  | [], _, k => by simp
  | q :: l, h, 0 => by simp
  | q :: l, h, k + 1 => by
    have hq := h q (List.mem_cons_self ..)
    rw [List.flatten_cons, List.take_succ_cons, List.flatten_cons, ← flat_take (fun r hr => h r (List.mem_cons_of_mem _ hr)) k, List.take_append, hq, List.take_of_length_le (by rw [hq, Nat.add_mul]; omega)]
    congr 2
    rw [Nat.add_mul]
    omega

/-- What a sealed array is as a slice. -/
theorem ArrSealed.sl {σ : Snap} {E : AE} {rows : List (List AT)} {n sz : Nat} (h : ArrSealed σ E) (hx : E.xs = rows.flatten.map AT.val) (hr : ∀ r ∈ rows, r.length = sz ∧ ∀ c ∈ r, c.lt 0) (hl : rows.length = n) (hn : E.n = n) (hcap : n ≤ E.cap) : SlAt σ E.ao n E.cap sz rows := by
  refine ⟨hl, hcap, hr, ?_⟩
  rcases h with ⟨_, h2⟩ | ⟨g, h1, h2⟩
  · exact .inl (by omega)
  · refine .inr ⟨⟨g, 0, none⟩, h1, fun i r j c hi hj => ?_⟩
    rw [add0]
    refine h2 _ _ ?_
    rw [hx, List.getElem?_map, flat_get (fun r hr' => (hr r hr').1) hi hj]
    rfl

end Go.Sy
