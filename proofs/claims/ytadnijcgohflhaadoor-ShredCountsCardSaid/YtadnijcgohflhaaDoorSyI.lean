/- Contracts with arrays handed in and out; local rows become arrays; elements of arrays. No program in sight. -/
import Derived.Test.YtadnijcgohflhaaDoorSyH
namespace Go.Sy

/-! ### Arrays in another order -/

def reA (is : List Nat) (A : List AE) : List AE :=
  match is with
  | [] => []
  | i :: is => match A[i]? with
    | some E => E :: reA is A
    | none => reA is A

def nodupB : List Nat → Bool
  | [] => true
  | i :: is => !(is.any (Nat.beq i)) && nodupB is

theorem reA_get {A : List AE} : ∀ {is : List Nat} {j : Nat} {E : AE}, (reA is A)[j]? = some E → ∃ i ∈ is, A[i]? = some E
  | [], j, E, h => by simp [reA] at h
  | i :: is, j, E, h => by
    simp only [reA] at h
    split at h
    · rename_i F hF
      cases j with
      | zero => simp at h; subst h; exact ⟨i, List.mem_cons_self .., hF⟩
      | succ j =>
        obtain ⟨k, hk, hE⟩ := reA_get (is := is) (by simpa using h)
        exact ⟨k, List.mem_cons_of_mem _ hk, hE⟩
    · obtain ⟨k, hk, hE⟩ := reA_get (is := is) h
      exact ⟨k, List.mem_cons_of_mem _ hk, hE⟩

theorem nodupB_cons {i : Nat} {is : List Nat} (h : nodupB (i :: is) = true) : i ∉ is ∧ nodupB is = true := by
  simp only [nodupB, Bool.and_eq_true, Bool.not_eq_true'] at h
  refine ⟨fun hi => ?_, h.2⟩
  have : is.any (Nat.beq i) = true := List.any_eq_true.2 ⟨i, hi, Nat.beq_refl i⟩
  rw [h.1] at this; cases this

theorem reA_get2 {A : List AE} : ∀ {is : List Nat} {j k : Nat} {E F : AE}, nodupB is = true → j ≠ k → (reA is A)[j]? = some E → (reA is A)[k]? = some F → ∃ p q : Nat, p ≠ q ∧ A[p]? = some E ∧ A[q]? = some F
  | [], j, k, E, F, _, _, h, _ => by simp [reA] at h
  | i :: is, j, k, E, F, hn, hjk, h, h' => by
    obtain ⟨hi, hn⟩ := nodupB_cons hn
    simp only [reA] at h h'
    split at h
    · rename_i G hG
      rw [hG] at h'
      simp only at h'
      cases j with
      | zero =>
        cases k with
        | zero => exact absurd rfl hjk
        | succ k =>
          simp at h; subst h
          obtain ⟨q, hq, hF⟩ := reA_get (is := is) (by simpa using h')
          exact ⟨i, q, fun e => hi (e ▸ hq), hG, hF⟩
      | succ j =>
        cases k with
        | zero =>
          simp at h'; subst h'
          obtain ⟨q, hq, hF⟩ := reA_get (is := is) (by simpa using h)
          exact ⟨q, i, fun e => hi (e ▸ hq), hF, hG⟩
        | succ k => exact reA_get2 (j := j) (k := k) hn (by omega) (by simpa using h) (by simpa using h')
    · rename_i hG
      rw [hG] at h'
      exact reA_get2 hn hjk h h'

section
variable {cf : Cf} {σ : Snap} {hp : HP} {A : List AE} {β : Nat → Addr} {w : World}

theorem StW.reA (h : StW cf σ hp A β w) {is : List Nat} (hn : nodupB is = true) : StW cf σ hp (reA is A) β w := by
  refine ⟨h.os, h.tape, h.output, h.size, h.fr, h.sealed, h.le, h.grow, h.loc, h.ro, h.inj, fun i E hE => ?_, fun i j E F hE hF hij => ?_, fun i j E e cs hE => ?_⟩
  · obtain ⟨k, _, hk⟩ := reA_get hE; exact h.arr k E hk
  · obtain ⟨p, q, hpq, hp', hq'⟩ := reA_get2 hn hij hE hF; exact h.arrd p q E F hp' hq' hpq
  · obtain ⟨k, _, hk⟩ := reA_get hE; exact h.arrh k j E e cs hk

/-- An array that is shortened. -/
def AE.cut (E : AE) (k : Nat) : AE := ⟨E.ao, k, E.cap, E.e, E.sz, E.xs.take (k * E.sz)⟩

theorem ArrOk.cut {E : AE} (h : ArrOk cf σ w E) {k : Nat} (hk : k ≤ E.n) : ArrOk cf σ w (E.cut k) := by
  have hm : k * E.sz ≤ E.n * E.sz := Nat.mul_le_mul_right _ hk
  refine ⟨by simp only [AE.cut, List.length_take, h.1]; exact Nat.min_eq_left hm, ?_⟩
  rcases h.2 with ⟨e1, e2, e3⟩ | ⟨g, cur, h3, h4, h5, h6, h7, h8, h9, h10⟩
  · exact .inl ⟨e1, by simp only [AE.cut]; omega, e3⟩
  · refine .inr ⟨g, cur, h3, h4, by simp only [AE.cut]; omega, h6, h7, ?_, h9, h10⟩
    simp only [AE.cut]
    rw [← h8, List.take_take, Nat.min_eq_left hm]

theorem StW.cutArr (h : StW cf σ hp A β w) {i : Nat} {E : AE} (hi : A[i]? = some E) {k : Nat} (hk : k ≤ E.n) : StW cf σ hp (A.set i (E.cut k)) β w := by
  refine ⟨h.os, h.tape, h.output, h.size, h.fr, h.sealed, h.le, h.grow, h.loc, h.ro, h.inj, fun j F hF => ?_, fun j l F G hF hG hjl => ?_, fun j l F e cs hF => ?_⟩
  · rcases set_get hF with ⟨rfl, rfl⟩ | ⟨hij, hF'⟩
    · exact (h.arr i E hi).cut hk
    · exact h.arr j F hF'
  · have key : ∀ {j : Nat} {F : AE}, (A.set i (E.cut k))[j]? = some F → ∃ F', A[j]? = some F' ∧ F.blk = F'.blk := by
      intro j F hF
      rcases set_get hF with ⟨rfl, rfl⟩ | ⟨_, hF'⟩
      · exact ⟨E, hi, rfl⟩
      · exact ⟨F, hF', rfl⟩
    obtain ⟨F', h1, h2⟩ := key hF
    obtain ⟨G', h3, h4⟩ := key hG
    rw [h2, h4]
    exact h.arrd j l F' G' h1 h3 hjl
  · rcases set_get hF with ⟨rfl, rfl⟩ | ⟨_, hF'⟩
    · exact h.arrh i l E e cs hi
    · exact h.arrh j l F e cs hF'
end

/-! ### The contract -/

def blks (A : List AE) (b : Nat) : Prop := ∃ E ∈ A, E.blk = some b

theorem StW.bare {P : Program} {w0 w : World} {σ0 σ : Snap} {M : Nat → Prop} {N : Nat} {ds : List Deferred} {hp : HP} {A : List AE} {β : Nat → Addr} (h : StW ⟨P, w0, σ0, M, N, ds, none⟩ σ hp A β w) : StW ⟨P, w0, σ0, M, 0, [], none⟩ σ [] A β0 w where
  os := h.os
  tape := h.tape
  output := h.output
  size := h.size
  fr := h.fr
  sealed := h.sealed
  le := h.le
  grow := h.grow
  loc := fun _ _ _ h => by cases h
  ro := fun _ _ h => by cases h
  inj := fun _ _ _ _ _ _ h => by cases h
  arr := fun i E hE => h.arr i E hE
  arrd := h.arrd
  arrh := fun _ _ _ _ _ _ h => by cases h

theorem StW.clothe {P : Program} {w0 w : World} {σ0 σ : Snap} {M : Nat → Prop} {A : List AE} (h : StW ⟨P, w0, σ0, M, 0, [], none⟩ σ [] A β0 w) (N : Nat) (β : Nat → Addr) : StW ⟨P, w0, σ0, M, N, [], none⟩ σ [] A β w where
  os := h.os
  tape := h.tape
  output := h.output
  size := h.size
  fr := h.fr
  sealed := h.sealed
  le := h.le
  grow := h.grow
  loc := fun _ _ _ h => by cases h
  ro := fun _ _ h => by cases h
  inj := fun _ _ _ _ _ _ h => by cases h
  arr := fun i E hE => h.arr i E hE
  arrd := h.arrd
  arrh := fun _ _ _ _ _ _ h => by cases h

def postF (P : Program) (w : World) (σ : Snap) (A : List AE) (Φ : Value → Snap → List AE → Prop) : Value → World → Snap → Prop :=
  fun v w' σ' => ∃ A', Φ v σ' A' ∧ StW ⟨P, w, σ, blks A, 0, [], none⟩ σ' [] A' β0 w'

/-- A FUNCTION'S CONTRACT: the arrays A are handed in, to be changed; those of A' are handed out, none sealed. -/
def FnC (P : Program) (f : FuncId) (args : Array Value) (σ : Snap) (A : List AE) (Φ : Value → Snap → List AE → Prop) : Prop :=
  ∀ w, StW ⟨P, w, σ, blks A, 0, [], none⟩ σ [] A β0 w → CallC P f args w (blks A) σ (postF P w σ A Φ)

theorem FnC.mono {P : Program} {f : FuncId} {args : Array Value} {σ : Snap} {A : List AE} {Φ Ψ : Value → Snap → List AE → Prop} (h : FnC P f args σ A Φ) (hi : ∀ v σ' A', σ.le σ' → Φ v σ' A' → Ψ v σ' A') : FnC P f args σ A Ψ :=
  fun w hw => Calls.mono (h w hw) fun _ _ ⟨v, σ', h1, h2, h3, h4, A', h5, h6⟩ => ⟨v, σ', h1, h2, h3, h4, A', hi v σ' A' h3.le h5, h6⟩

theorem blks_nil : blks [] = fun _ => False := by funext b; simp [blks]

theorem FnC.pure {P : Program} {f : FuncId} {args : Array Value} {σ : Snap} {Φ : Value → Snap → Prop} (h : FnC P f args σ [] (fun v σ' _ => Φ v σ')) : PureC P f args σ Φ := by
  intro w hs
  have := h w (StW.start hs β0)
  rw [blks_nil] at this
  exact Calls.mono this fun _ _ ⟨v, σ', h1, h2, h3, h4, A', h5, h6⟩ => ⟨v, σ', h1, h2, h3, h4, h5⟩

/-- A function begins. -/
theorem enter_fn {P : Program} {f : FuncId} {fn : Func} {c : Code} {args : Array Value} {σ : Snap} {A : List AE} {Φ : Value → Snap → List AE → Prop}
    (hf : P.funcs[f]? = some fn) (hb : fn.body = some c) (svs : List SV) (hargs : args = (svs.map (SV.den β0)).toArray) (hN : svs.length ≤ fn.ntmps) (hlt : ∀ x ∈ svs, x.lt 0)
    (h : ∀ w, CJ ⟨P, w, σ, blks A, fn.ntmps, [], none⟩ c (bodyPost P fn (postR w (blks A) σ (postF P w σ A Φ))) σ (argEnv 0 svs) [] A 0) : FnC P f args σ A Φ :=
  fun w hw => enter hf hb svs β0 [] A 0 hargs hN hlt (fun _ _ _ h => by cases h) (hw.clothe _ _) (h w)

/-- The function returns. -/
theorem nj_fret {P : Program} {w0 : World} {σ0 : Snap} {A0 : List AE} {N : Nat} {T : List (Nat × TI)} (hT : TTok P T) {fn : Func} {Φ : Value → Snap → List AE → Prop} {σ : Snap} {env : Env} {hp : HP} {A : List AE} {nh : Nat}
    {xs : List S1} (hr : resL T env hp fn.results.toList = some xs) (h : ∀ β w, Bd env hp nh → StW ⟨P, w0, σ0, blks A0, N, [], none⟩ σ hp A β w → Φ ((resSV xs).den β) σ A) :
    NJ ⟨P, w0, σ0, blks A0, N, [], none⟩ .ret (bodyPost P fn (postR w0 (blks A0) σ0 (postF P w0 σ0 A0 Φ))) σ env hp A nh :=
  nj_ret hT hr fun β w hb hw => ⟨A, h β w hb hw, hw.bare⟩
theorem nj_fend {P : Program} {w0 : World} {σ0 : Snap} {A0 : List AE} {N : Nat} {T : List (Nat × TI)} (hT : TTok P T) {fn : Func} {Φ : Value → Snap → List AE → Prop} {σ : Snap} {env : Env} {hp : HP} {A : List AE} {nh : Nat}
    {xs : List S1} (hr : resL T env hp fn.results.toList = some xs) (h : ∀ β w, Bd env hp nh → StW ⟨P, w0, σ0, blks A0, N, [], none⟩ σ hp A β w → Φ ((resSV xs).den β) σ A) :
    NJ ⟨P, w0, σ0, blks A0, N, [], none⟩ .normal (bodyPost P fn (postR w0 (blks A0) σ0 (postF P w0 σ0 A0 Φ))) σ env hp A nh :=
  nj_end hT hr fun β w hb hw => ⟨A, h β w hb hw, hw.bare⟩

section
variable {cf : Cf} {Q : Exit → Act → World → Prop} {σ : Snap} {env : Env} {hp : HP} {A : List AE} {nh : Nat} {it : Item} {rest : List Item}

theorem nj_re {e : Exit} (is : List Nat) {A' : List AE} (hA : reA is A = A') (hn : nodupB is = true) (h : NJ cf e Q σ env hp A' nh) : NJ cf e Q σ env hp A nh := by
  subst hA
  exact ⟨fun hb a β w ha hw => h.run hb a β w ha (hw.reA hn)⟩
theorem cj_re {c : Code} (is : List Nat) {A' : List AE} (hA : reA is A = A') (hn : nodupB is = true) (h : CJ cf c Q σ env hp A' nh) : CJ cf c Q σ env hp A nh := by
  subst hA
  exact ⟨fun hb a β w ha hw => h.run hb a β w ha (hw.reA hn)⟩

theorem cj_cutArr {c : Code} (i k : Nat) {E : AE} {A' : List AE} (hi : A[i]? = some E) (hk : k ≤ E.n) (hA : A.set i (E.cut k) = A') (h : CJ cf c Q σ env hp A' nh) : CJ cf c Q σ env hp A nh := by
  subst hA
  exact ⟨fun hb a β w ha hw => h.run hb a β w ha (hw.cutArr hi hk)⟩
theorem oj_cutArr {l : List Item} (i k : Nat) {E : AE} {A' : List AE} (hf : allFree l = true) (hi : A[i]? = some E) (hk : k ≤ E.n) (hA : A.set i (E.cut k) = A') (h : OJ cf l Q σ env hp A' nh) : OJ cf l Q σ env hp A nh := by
  subst hA
  refine ⟨fun hb a β ha _ => run_by_world l _ _ a hf fun w hw => ?_⟩
  exact ⟨_, _, hw.cutArr hi hk, h.run hb a β ha ⟨w, hw.cutArr hi hk⟩⟩

theorem Snap.none_of_le {σ σ' : Snap} (h : σ.le σ') {b : Nat} (hb : σ' b = none) : σ b = none := by
  cases hb' : σ b with
  | none => rfl
  | some o => rw [h b o hb'] at hb; cases hb

/-- What is kept through a call that is handed A0 and hands out A1. -/
theorem StW.through {β : Nat → Addr} {w w' : World} {σ' : Snap} {A0 Ar A1 : List AE} (h : StW cf σ hp (A0 ++ Ar) β w) (h' : StW ⟨cf.P, w, σ, blks A0, 0, [], none⟩ σ' [] A1 β0 w') : StW cf σ' hp (A1 ++ Ar) β w' := by
  have hin0 : ∀ {E}, E ∈ A0 → ∃ i, (A0 ++ Ar)[i]? = some E ∧ i < A0.length := by
    intro E hE
    obtain ⟨i, hi⟩ := List.getElem?_of_mem hE
    have hlt := (List.getElem?_eq_some_iff.1 hi).1
    exact ⟨i, by rw [List.getElem?_append_left hlt]; exact hi, hlt⟩
  have hblk : ∀ {b}, blks A0 b → ∃ i E, (A0 ++ Ar)[i]? = some E ∧ E.blk = some b ∧ i < A0.length := by
    rintro b ⟨E, hE, hb⟩
    obtain ⟨i, hi, hlt⟩ := hin0 hE
    exact ⟨i, E, hi, hb, hlt⟩
  have hown : ∀ {b}, blks A0 b → Own cf b := by
    intro b hb
    obtain ⟨i, E, hi, hE, _⟩ := hblk hb
    exact ((h.arr i E hi).lt hE).2.2
  have hlt0 : ∀ {b}, blks A0 b → b < w.heap.size := by
    intro b hb
    obtain ⟨i, E, hi, hE, _⟩ := hblk hb
    exact ((h.arr i E hi).lt hE).1
  have hold : ∀ b, b < w.heap.size → ¬ blks A0 b → w'.heap[b]? = w.heap[b]? := h'.fr
  have hσ : ∀ b, b < w.heap.size → ¬ blks A0 b → σ b = none → σ' b = none := by
    intro b hb hnb hn
    cases hb' : σ' b with
    | none => rfl
    | some o =>
      rcases h'.grow b (by rw [hb']; simp) with h1 | h1 | h1
      · exact absurd hn h1
      · have : w.heap.size ≤ b := h1
        omega
      · exact absurd h1 hnb
  have hold' : ∀ {b}, Own ⟨cf.P, w, σ, blks A0, 0, [], none⟩ b → Own cf b := by
    rintro b (h1 | h1)
    · exact .inl (Nat.le_trans h.size h1)
    · exact hown h1
  have hget : ∀ {j : Nat} {E : AE}, (A1 ++ Ar)[j]? = some E → (j < A1.length ∧ A1[j]? = some E) ∨ (A1.length ≤ j ∧ (A0 ++ Ar)[A0.length + (j - A1.length)]? = some E) := by
    intro j E hj
    by_cases hlt : j < A1.length
    · rw [List.getElem?_append_left hlt] at hj; exact .inl ⟨hlt, hj⟩
    · rw [List.getElem?_append_right (by omega)] at hj
      refine .inr ⟨by omega, ?_⟩
      rw [List.getElem?_append_right (by omega), Nat.add_sub_cancel_left]; exact hj
  -- a block that was handed out is none of those that were kept
  have hnew : ∀ {E : AE} {j : Nat} {b : Nat}, A1[j]? = some E → E.blk = some b → w.heap.size ≤ b ∨ blks A0 b := by
    intro E j b hE hb
    rcases ((h'.arr j E hE).lt hb).2.2 with h1 | h1
    · exact .inl h1
    · exact .inr h1
  have hkept : ∀ {F : AE} {k : Nat} {b : Nat}, A0.length ≤ k → (A0 ++ Ar)[k]? = some F → F.blk = some b → b < w.heap.size ∧ ¬ blks A0 b := by
    intro F k b hk hF hb
    refine ⟨((h.arr k F hF).lt hb).1, fun hc => ?_⟩
    obtain ⟨i, E, hi, hE, hlt⟩ := hblk hc
    exact h.arrd i k E F hi hF (by omega) b hE hb
  refine ⟨h'.os.trans h.os, h'.tape.trans h.tape, h'.output.trans h.output, Nat.le_trans h.size h'.size, fun b hb hm => ?_, h'.sealed, fun b o hb => h'.le b o (h.le b o hb), fun b hb => ?_, fun i e cs hi => ?_, fun i cs hi j c hc => Snap.le.cell h'.le (h.ro i cs hi j c hc), h.inj, fun i E hE => ?_,
    fun i j E F hE hF hij => ?_, fun i j E e cs hE hj => ?_⟩
  · have hnb : ¬ blks A0 b := fun hc => by
      rcases hown hc with h1 | h1
      · omega
      · exact hm h1
    rw [hold b (Nat.lt_of_lt_of_le hb h.size) hnb]; exact h.fr b hb hm
  · rcases h'.grow b hb with h1 | h1
    · exact h.grow b h1
    · exact .inr (hold' h1)
  · obtain ⟨h1, h2, h3, h4⟩ := h.loc i e cs hi
    have hlt := (Array.getElem?_eq_some_iff.1 h2).1
    have hnb : ¬ blks A0 (β i).block := fun hc => by
      obtain ⟨k, E, hk, hE, _⟩ := hblk hc
      exact h.arrh k i E e cs hk hi hE
    exact ⟨h1, by rw [hold _ hlt hnb]; exact h2, hσ _ hlt hnb h3, h4⟩
  · rcases hget hE with ⟨_, hE'⟩ | ⟨hle, hE'⟩
    · obtain ⟨h1, h2⟩ := h'.arr i E hE'
      refine ⟨h1, h2.imp id ?_⟩
      rintro ⟨g, cur, h3, h4, h5, h6, h7, h8, h9, h10⟩
      exact ⟨g, cur, h3, h4, h5, h6, h7, h8, h9, hold' h10⟩
    · obtain ⟨h1, h2⟩ := h.arr _ E hE'
      refine ⟨h1, h2.imp id ?_⟩
      rintro ⟨g, cur, h3, h4, h5, h6, h7, h8, h9, h10⟩
      obtain ⟨hlt, hnb⟩ := hkept (by omega) hE' (b := g) (by simp [AE.blk, h3])
      exact ⟨g, cur, h3, by rw [hold g hlt hnb]; exact h4, h5, h6, h7, h8, hσ g hlt hnb h9, h10⟩
  · intro b hEb hFb
    rcases hget hE with ⟨hi, hE'⟩ | ⟨hi, hE'⟩ <;> rcases hget hF with ⟨hj, hF'⟩ | ⟨hj, hF'⟩
    · exact h'.arrd i j E F hE' hF' hij b hEb hFb
    · obtain ⟨hlt, hnb⟩ := hkept (by omega) hF' hFb
      rcases hnew hE' hEb with h1 | h1
      · omega
      · exact hnb h1
    · obtain ⟨hlt, hnb⟩ := hkept (by omega) hE' hEb
      rcases hnew hF' hFb with h1 | h1
      · omega
      · exact hnb h1
    · exact h.arrd _ _ E F hE' hF' (by omega) b hEb hFb
  · intro hb
    obtain ⟨h1, h2, h3, h4⟩ := h.loc j e cs hj
    have hlt := (Array.getElem?_eq_some_iff.1 h2).1
    rcases hget hE with ⟨_, hE'⟩ | ⟨_, hE'⟩
    · rcases hnew hE' hb with h5 | h5
      · omega
      · obtain ⟨k, G, hk, hG, _⟩ := hblk h5
        exact h.arrh k j G e cs hk hj hG
    · exact h.arrh _ j E e cs hE' hj hb

/-- The start of such a call. -/
theorem StW.handIn {β : Nat → Addr} {w : World} {A0 Ar : List AE} (h : StW cf σ hp (A0 ++ Ar) β w) : StW ⟨cf.P, w, σ, blks A0, 0, [], none⟩ σ [] A0 β0 w where
  os := rfl
  tape := rfl
  output := rfl
  size := Nat.le_refl _
  fr := fun _ _ _ => rfl
  sealed := h.sealed
  le := fun _ _ h => h
  grow := fun _ h => .inl h
  loc := fun _ _ _ h => by cases h
  ro := fun _ _ h => by cases h
  inj := fun _ _ _ _ _ _ h => by cases h
  arr := fun i E hE => by
    have hlt := (List.getElem?_eq_some_iff.1 hE).1
    obtain ⟨h1, h2⟩ := h.arr i E (by rw [List.getElem?_append_left hlt]; exact hE)
    refine ⟨h1, h2.imp id ?_⟩
    rintro ⟨g, cur, h3, h4, h5, h6, h7, h8, h9, h10⟩
    exact ⟨g, cur, h3, h4, h5, h6, h7, h8, h9, .inr ⟨E, List.mem_of_getElem? hE, by simp [AE.blk, h3]⟩⟩
  arrd := fun i j E F hE hF hij => by
    have hi := (List.getElem?_eq_some_iff.1 hE).1
    have hj := (List.getElem?_eq_some_iff.1 hF).1
    exact h.arrd i j E F (by rw [List.getElem?_append_left hi]; exact hE) (by rw [List.getElem?_append_left hj]; exact hF) hij
  arrh := fun _ _ _ _ _ _ h => by cases h

/-- A CALL: arrays are handed in, arrays come back. -/
theorem oj_call_fn {d : Nat} {f : FuncId} {ys : List SV} {Φ : Value → Snap → List AE → Prop} (is : List Nat) {A0 Ar : List AE} (hA : reA is A = A0 ++ Ar) (hn : nodupB is = true)
    (hc : callee env it.o.op = some (f, ys)) (hd : it.o.dst = some d) (hg : guardVal it.guard env = some true)
    (hN : Nat.blt d cf.N = true) (htag : canSink it.tag = true) (hcall : ∀ args w, (callFunc f args).run cf.P w = .ok (.enter f args) w) (hlt : ∀ y ∈ ys, y.lt 0)
    (hC : FnC cf.P f (ys.map (SV.den β0)).toArray σ A0 Φ)
    (k : ∀ v σ' A', σ.le σ' → Φ v σ' A' → ∃ y : SV, y.lt 0 ∧ y.den β0 = v ∧ OJ cf rest Q σ' ((d, y) :: env) hp (A' ++ Ar) nh) : OJ cf (it :: rest) Q σ env hp A nh := by
  refine ⟨fun hb a β ha hex => ?_⟩
  have hN' : d < cf.N := by simpa [Nat.blt_eq] using hN
  have den0 : ∀ {y : SV}, y.lt 0 → y.den β = y.den β0 := fun hy => SV.den_congr (n := 0) (fun i hi => by omega) hy
  have hargs : (ys.map (SV.den β)).toArray = (ys.map (SV.den β0)).toArray := by
    rw [List.map_congr_left fun y hy => den0 (hlt y hy)]
  have key : ∀ w, StW cf σ hp A β w → ∀ Q', it.o.wq cf.P a w (fun a' w' => ∃ E' S' : World → Prop, S' w' ∧ (∀ x, S' x → E' x) ∧ RunT cf.P Q rest E' S' a') Q' := by
    intro w hw Q'
    have hw2 : StW cf σ hp (A0 ++ Ar) β w := by rw [← hA]; exact hw.reA hn
    unfold Oper.wq
    rw [callee_ok ha hc hcall]
    simp only [Oper.uponIn]
    rw [hargs]
    refine ⟨fun h => (by cases h), CallsIn.mono (callsIn_FR.2 (hC w hw2.handIn)) fun e w' ⟨v, σ', he, h1, h2, h3, A', h4, h5⟩ => ?_⟩
    subst he
    obtain ⟨y, hy, hyv, hk⟩ := k v σ' A' h2.le h4
    have hw' := hw2.through h5
    refine ⟨_, _, hw', fun _ h => h, ?_⟩
    have := hk.run (hb.put (SV.lt_mono (Nat.zero_le _) hy) d) (a.put (some d) (y.den β)) β (ha.put hN' y) ⟨_, hw'⟩
    rw [hd, ← hyv, ← den0 hy]
    exact this
  simp only [RunT]
  rw [if_pos (guardVal_ok ha hg)]
  cases htag' : it.tag with
  | pure => rw [htag'] at htag; cases htag
  | quiet => rw [htag'] at htag; cases htag
  | keep => rw [htag'] at htag; cases htag
  | sink => exact fun w hw => key w hw _
  | free => exact fun w hw => key w hw _

/-- The same, where no slot is written. -/
theorem oj_call_fn_void {f : FuncId} {ys : List SV} {Φ : Value → Snap → List AE → Prop} (is : List Nat) {A0 Ar : List AE} (hA : reA is A = A0 ++ Ar) (hn : nodupB is = true)
    (hc : callee env it.o.op = some (f, ys)) (hd : it.o.dst = none) (hg : guardVal it.guard env = some true)
    (htag : canSink it.tag = true) (hcall : ∀ args w, (callFunc f args).run cf.P w = .ok (.enter f args) w) (hlt : ∀ y ∈ ys, y.lt 0)
    (hC : FnC cf.P f (ys.map (SV.den β0)).toArray σ A0 Φ)
    (k : ∀ v σ' A', σ.le σ' → Φ v σ' A' → OJ cf rest Q σ' env hp (A' ++ Ar) nh) : OJ cf (it :: rest) Q σ env hp A nh := by
  refine ⟨fun hb a β ha hex => ?_⟩
  have den0 : ∀ {y : SV}, y.lt 0 → y.den β = y.den β0 := fun hy => SV.den_congr (n := 0) (fun i hi => by omega) hy
  have hargs : (ys.map (SV.den β)).toArray = (ys.map (SV.den β0)).toArray := by
    rw [List.map_congr_left fun y hy => den0 (hlt y hy)]
  have key : ∀ w, StW cf σ hp A β w → ∀ Q', it.o.wq cf.P a w (fun a' w' => ∃ E' S' : World → Prop, S' w' ∧ (∀ x, S' x → E' x) ∧ RunT cf.P Q rest E' S' a') Q' := by
    intro w hw Q'
    have hw2 : StW cf σ hp (A0 ++ Ar) β w := by rw [← hA]; exact hw.reA hn
    unfold Oper.wq
    rw [callee_ok ha hc hcall]
    simp only [Oper.uponIn]
    rw [hargs]
    refine ⟨fun h => (by cases h), CallsIn.mono (callsIn_FR.2 (hC w hw2.handIn)) fun e w' ⟨v, σ', he, h1, h2, h3, A', h4, h5⟩ => ?_⟩
    subst he
    have hw' := hw2.through h5
    refine ⟨_, _, hw', fun _ h => h, ?_⟩
    have := (k v σ' A' h2.le h4).run hb a β ha ⟨_, hw'⟩
    rw [hd]
    exact this
  simp only [RunT]
  rw [if_pos (guardVal_ok ha hg)]
  cases htag' : it.tag with
  | pure => rw [htag'] at htag; cases htag
  | quiet => rw [htag'] at htag; cases htag
  | keep => rw [htag'] at htag; cases htag
  | sink => exact fun w hw => key w hw _
  | free => exact fun w hw => key w hw _

end
end Go.Sy
