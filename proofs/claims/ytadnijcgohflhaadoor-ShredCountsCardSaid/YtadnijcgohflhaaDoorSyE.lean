/- The judgement on code, and its rules. No program in sight. -/
import Derived.Test.YtadnijcgohflhaaDoorSyD
namespace Go.Sy

/-- THE JUDGEMENT ON CODE: from whatever frame and world of this kind it runs, and ends in Q. -/
structure CJ (cf : Cf) (c : Code) (Q : Exit → Act → World → Prop) (σ : Snap) (env : Env) (hp : HP) (A : List AE) (nh : Nat) : Prop where
  run : Bd env hp nh → ∀ a β w, StA cf env β a → StW cf σ hp A β w → wpR cf.rd cf.P c Q a w

/-- The judgement on an end: Q holds at this exit of whatever frame and world of this kind. -/
structure NJ (cf : Cf) (e : Exit) (Q : Exit → Act → World → Prop) (σ : Snap) (env : Env) (hp : HP) (A : List AE) (nh : Nat) : Prop where
  run : Bd env hp nh → ∀ a β w, StA cf env β a → StW cf σ hp A β w → Q e a w

section
variable {cf : Cf} {Q : Exit → Act → World → Prop} {σ : Snap} {env : Env} {hp : HP} {A : List AE} {nh : Nat}

theorem cj_seq {x y : Code} (h : CJ cf x (Exit.then (wpR cf.rd cf.P y Q) Q) σ env hp A nh) : CJ cf (.seq x y) Q σ env hp A nh :=
  ⟨fun hb a β w ha hw => wpIn_seq (h.run hb a β w ha hw)⟩
theorem cj_skip (h : NJ cf .normal Q σ env hp A nh) : CJ cf .skip Q σ env hp A nh := ⟨fun hb a β w ha hw => wpIn_skip (h.run hb a β w ha hw)⟩
theorem cj_label {l : Nat} (h : NJ cf .normal Q σ env hp A nh) : CJ cf (.label l) Q σ env hp A nh := ⟨fun hb a β w ha hw => wpIn_label (h.run hb a β w ha hw)⟩
theorem cj_exit {id : Nat} (h : NJ cf (.exit id) Q σ env hp A nh) : CJ cf (.exit id) Q σ env hp A nh := ⟨fun hb a β w ha hw => wpIn_exit (h.run hb a β w ha hw)⟩
theorem cj_ret (h : NJ cf .ret Q σ env hp A nh) : CJ cf .ret Q σ env hp A nh := ⟨fun hb a β w ha hw => wpIn_ret (h.run hb a β w ha hw)⟩
theorem cj_block {id : Nat} {c : Code} (h : CJ cf c (Exit.inBlock id Q) σ env hp A nh) : CJ cf (.block id c) Q σ env hp A nh :=
  ⟨fun hb a β w ha hw => wpIn_block (h.run hb a β w ha hw)⟩
theorem cj_region {id : Nat} {ops : Array Oper} (h : OJ cf (frees ops) Q σ env hp A nh) (hd : okRd cf.rd ops = true := by rfl) : CJ cf (.region id ops false) Q σ env hp A nh :=
  ⟨fun hb a β _ ha hw => wp_of_frees hd hw (h.run hb a β ha ⟨_, hw⟩)⟩

theorem StW.drew {β : Nat → Addr} {w : World} (h : StW cf σ hp A β w) : StW cf σ hp A β { w with drawn := w.drawn + 1 } :=
  ⟨h.os, h.tape, h.output, h.size, h.fr, h.sealed, h.le, h.grow, h.loc, h.ro, h.inj, h.arr, h.arrd, h.arrh⟩

theorem cj_draw {id : Nat} {ops : Array Oper} (l : List (Nat × Tag)) (hm : cf.P.follows .mixedOrders = true) (hB : orderOk ops l = true)
    (h : OJ cf (itemsOf ops l) Q σ env hp A nh) (hd : okRd cf.rd ops = true := by rfl) : CJ cf (.region id ops true) Q σ env hp A nh :=
  ⟨fun hb a β _ ha hw => wp_of_order l hm hB hd (fun _ h => h) hw.drew (h.run hb a β ha ⟨_, hw⟩)⟩

theorem cj_if {c : Operand} {x y : Code} {b : Bool} (hc : evalO env c = some (.a (.b b))) (ht : b = true → CJ cf x Q σ env hp A nh) (hf : b = false → CJ cf y Q σ env hp A nh) :
    CJ cf (.cond c x y) Q σ env hp A nh := by
  refine ⟨fun hb a β w ha hw => ?_⟩
  have he : a.eval c = .bool b := evalO_eval ha hc
  exact wpIn_cond_split he (fun h => (ht h).run hb a β w ha hw) (fun h => (hf h).run hb a β w ha hw)
theorem cj_if_t {c : Operand} {x y : Code} (hc : evalO env c = some (.a .tt)) (ht : CJ cf x Q σ env hp A nh) : CJ cf (.cond c x y) Q σ env hp A nh := by
  exact ⟨fun hb a β w ha hw => wpIn_cond_true (evalO_eval ha hc) (ht.run hb a β w ha hw)⟩
theorem cj_if_f {c : Operand} {x y : Code} (hc : evalO env c = some (.a .ff)) (ht : CJ cf y Q σ env hp A nh) : CJ cf (.cond c x y) Q σ env hp A nh := by
  exact ⟨fun hb a β w ha hw => wpIn_cond_false (evalO_eval ha hc) (ht.run hb a β w ha hw)⟩

theorem oj_nil (h : NJ cf .normal Q σ env hp A nh) : OJ cf [] Q σ env hp A nh := ⟨fun hb a β ha _ w hw => h.run hb a β w ha hw⟩
/-- The region ends, and the code that follows begins. -/
theorem oj_then {y : Code} (h : CJ cf y Q σ env hp A nh) : OJ cf [] (Exit.then (wpR cf.rd cf.P y Q) Q) σ env hp A nh := ⟨fun hb a β ha _ w hw => h.run hb a β w ha hw⟩

theorem nj_then {y : Code} (h : CJ cf y Q σ env hp A nh) : NJ cf .normal (Exit.then (wpR cf.rd cf.P y Q) Q) σ env hp A nh := ⟨h.run⟩
theorem nj_then_exit {id : Nat} {K : Act → World → Prop} (h : NJ cf (.exit id) Q σ env hp A nh) : NJ cf (.exit id) (Exit.then K Q) σ env hp A nh := ⟨h.run⟩
theorem nj_then_ret {K : Act → World → Prop} (h : NJ cf .ret Q σ env hp A nh) : NJ cf .ret (Exit.then K Q) σ env hp A nh := ⟨h.run⟩
theorem nj_block {id : Nat} (h : NJ cf .normal Q σ env hp A nh) : NJ cf .normal (Exit.inBlock id Q) σ env hp A nh := ⟨h.run⟩
theorem nj_block_ret {id : Nat} (h : NJ cf .ret Q σ env hp A nh) : NJ cf .ret (Exit.inBlock id Q) σ env hp A nh := ⟨h.run⟩
theorem nj_block_out {id : Nat} (h : NJ cf .normal Q σ env hp A nh) : NJ cf (.exit id) (Exit.inBlock id Q) σ env hp A nh := by
  refine ⟨fun hb a β w ha hw => ?_⟩
  simp only [Exit.inBlock, if_true]
  exact h.run hb a β w ha hw
theorem nj_block_on {id id' : Nat} (hne : Nat.beq id' id = false) (h : NJ cf (.exit id') Q σ env hp A nh) : NJ cf (.exit id') (Exit.inBlock id Q) σ env hp A nh := by
  refine ⟨fun hb a β w ha hw => ?_⟩
  have : id' ≠ id := fun e => by subst e; simp at hne
  simp only [Exit.inBlock, if_neg this]
  exact h.run hb a β w ha hw

/-- What is known may be forgotten. -/
def subE (e1 e2 : Env) : Prop := ∀ i x, e1.get i = some x → e2.get i = some x
def subH (h1 h2 : HP) : Prop := ∀ i x, h1.get i = some x → h2.get i = some x

def subEB : Env → Env → List Nat → Prop
  | _, _, [] => True
  | e1, e2, i :: l => e2.get i = e1.get i ∧ subEB e1 e2 l

theorem StA.sub {β : Nat → Addr} {a : Act} {env' : Env} (h : subE env' env) (ha : StA cf env β a) : StA cf env' β a := ⟨ha.size, ha.defers, fun i x hx => ha.env i x (h i x hx)⟩
theorem StW.sub {β : Nat → Addr} {w : World} {hp' : HP} (h : subH hp' hp) (hw : StW cf σ hp A β w) : StW cf σ hp' A β w :=
  ⟨hw.os, hw.tape, hw.output, hw.size, hw.fr, hw.sealed, hw.le, hw.grow, fun i e cs hi => hw.loc i e cs (h i _ hi), fun i cs hi => hw.ro i cs (h i _ hi),
   fun i j e e' cs cs' hi hj => hw.inj i j e e' cs cs' (h i _ hi) (h j _ hj), hw.arr, hw.arrd, fun i j E e cs hE hj => hw.arrh i j E e cs hE (h j _ hj)⟩
theorem Bd.sub {env' : Env} {hp' : HP} (he : subE env' env) (hh : subH hp' hp) (hb : Bd env hp nh) : Bd env' hp' nh :=
  ⟨fun i x hx => hb.env i x (he i x hx), fun i k cs hi => hb.hp i k cs (hh i _ hi)⟩

theorem cj_sub {c : Code} {env' : Env} {hp' : HP} (he : subE env' env) (hh : subH hp' hp) (h : CJ cf c Q σ env' hp' A nh) : CJ cf c Q σ env hp A nh :=
  ⟨fun hb a β w ha hw => h.run (hb.sub he hh) a β w (ha.sub he) (hw.sub hh)⟩

/-- Keep these slots, and these rows, alone. -/
def keepE (env : Env) : List Nat → Env
  | [] => []
  | i :: l => match env.get i with
    | some x => (i, x) :: keepE env l
    | none => keepE env l
def keepH (hp : HP) : List Nat → HP
  | [] => []
  | i :: l => match hp.get i with
    | some (k, cs) => (i, k, cs) :: keepH hp l
    | none => keepH hp l

theorem keepE_sub (env : Env) : ∀ (l : List Nat), subE (keepE env l) env
  | [], i, x, h => by cases h
  | j :: l, i, x, h => by
    simp only [keepE] at h
    split at h
    · rename_i y hy
      rw [Env.get_cons] at h
      by_cases hji : j = i
      · rw [if_pos hji] at h; injection h with h; subst h; subst hji; exact hy
      · rw [if_neg hji] at h; exact keepE_sub env l i x h
    · exact keepE_sub env l i x h
theorem keepH_sub (hp : HP) : ∀ (l : List Nat), subH (keepH hp l) hp
  | [], i, x, h => by cases h
  | j :: l, i, x, h => by
    simp only [keepH] at h
    split at h
    · rename_i k cs hy
      rw [HP.get_cons] at h
      by_cases hji : j = i
      · rw [if_pos hji] at h; injection h with h; subst h; subst hji; exact hy
      · rw [if_neg hji] at h; exact keepH_sub hp l i x h
    · exact keepH_sub hp l i x h

theorem cj_keep {c : Code} (le lh : List Nat) {env' : Env} {hp' : HP} (he : keepE env le = env') (hh : keepH hp lh = hp') (h : CJ cf c Q σ env' hp' A nh) : CJ cf c Q σ env hp A nh := by
  subst he; subst hh
  exact cj_sub (keepE_sub env le) (keepH_sub hp lh) h

/-- All that one round of a loop is told: a state of one's own. -/
structure LS where
  σ : Snap
  env : Env
  hp : HP
  A : List AE
  nh : Nat

/-- What the frame and the world are, at a state of one's own. -/
def AtLS (cf : Cf) (s : LS) (a : Act) (w : World) : Prop := Bd s.env s.hp s.nh ∧ ∃ β, StA cf s.env β a ∧ StW cf s.σ s.hp s.A β w

/-- The end of a round: the next state is one of those that are allowed, and nearer to the end. -/
def Again {α : Type} (cf : Cf) (I : α → Prop) (μ : α → Nat) (sσ : α → Snap) (sE : α → Env) (sH : α → HP) (sA : α → List AE) (sn : Nat) (n : Nat) (a : Act) (w : World) : Prop :=
  ∃ x, I x ∧ μ x < n ∧ AtLS cf ⟨sσ x, sE x, sH x, sA x, sn⟩ a w

/-- A loop, by a relation that tells how many rounds at most are to come. -/
theorem wpR_loop_rel {rd : Option Nat} {P : Program} {c : Code} {Q : Exit → Act → World → Prop} {a : Act} {w : World} (R : Nat → Act → World → Prop) (n0 : Nat) (h0 : R n0 a w)
    (round : ∀ n a w, R n a w → wpR rd P c (Exit.then (fun a' w' => ∃ m, m < n ∧ R m a' w') Q) a w) : wpR rd P (.loop c) Q a w := by
  intro b k cs hro hb hr
  have key : ∀ n a w, R n a w → ∃ e a' w', Q e a' w' ∧ ArrivesIn (Machine.fenced P (FR rd)) P (lone (b.atR a (.code c :: .inLoop c :: k)) cs w) b k cs e a' w' := by
    intro n
    induction n using Nat.strongRecOn with
    | _ n ih =>
      intro a w hR
      obtain ⟨e, a₁, w₁, hq, harr⟩ := round n a w hR b (.inLoop c :: k) cs hro hb hr
      cases e with
      | normal =>
        obtain ⟨m, hlt, hR₁⟩ := hq
        obtain ⟨e₂, a₂, w₂, hq₂, harr₂⟩ := ih m hlt a₁ w₁ hR₁
        exact ⟨e₂, a₂, w₂, hq₂, .of_steps (StepsIn.trans harr (.one (fenced_calm hb hr rfl) stepR_inLoop)) harr₂⟩
      | exit id => exact ⟨_, a₁, w₁, hq, .pass (x := .inLoop c) rfl (fun _ _ => .inl (by simp)) harr⟩
      | goto l => exact ⟨_, a₁, w₁, hq, .pass (x := .inLoop c) rfl (fun _ _ => .inl (by simp)) harr⟩
      | ret => exact ⟨_, a₁, w₁, hq, .pass (x := .inLoop c) rfl (fun _ _ => .inl (by simp)) harr⟩
      | panic ch => exact ⟨_, a₁, w₁, hq, .pass (x := .inLoop c) rfl (fun _ _ => .inl (by simp)) harr⟩
      | outgrown => exact ⟨_, a₁, w₁, hq, .pass (x := .inLoop c) rfl (fun _ _ => .inl (by simp)) harr⟩
  obtain ⟨e, a', w', hq, harr⟩ := key n0 a w h0
  exact ⟨e, a', w', hq, .of_steps (.one (fenced_calm hb hr rfl) stepR_loop) harr⟩

def allInE : Env → Env → Prop
  | [], _ => True
  | (i, x) :: l, e => e.get i = some x ∧ allInE l e
def allInH : HP → HP → Prop
  | [], _ => True
  | (i, x) :: l, e => e.get i = some x ∧ allInH l e
theorem subE_of : ∀ {l e : Env}, allInE l e → subE l e
  | [], _, _, _, _, h => by cases h
  | (j, y) :: l, e, ⟨h1, h2⟩, i, x, h => by
    rw [Env.get_cons] at h
    by_cases hji : j = i
    · rw [if_pos hji] at h; injection h with h; subst h; subst hji; exact h1
    · rw [if_neg hji] at h; exact subE_of h2 i x h
theorem subH_of : ∀ {l e : HP}, allInH l e → subH l e
  | [], _, _, _, _, h => by cases h
  | (j, k, cs) :: l, e, ⟨h1, h2⟩, i, x, h => by
    rw [HP.get_cons] at h
    by_cases hji : j = i
    · rw [if_pos hji] at h; injection h with h; subst h; subst hji; exact h1
    · rw [if_neg hji] at h; exact subH_of h2 i x h

def EnvLt (n : Nat) : Env → Prop
  | [] => True
  | (_, x) :: l => x.lt n ∧ EnvLt n l
def HpLt (n : Nat) : HP → Prop
  | [] => True
  | (i, _, cs) :: l => (i < n ∧ ∀ c ∈ cs, c.lt n) ∧ HpLt n l

theorem Bd.of {env : Env} {hp : HP} {n : Nat} (h1 : EnvLt n env) (h2 : HpLt n hp) : Bd env hp n := by
  constructor
  · intro i x hx
    induction env with
    | nil => cases hx
    | cons e l ih =>
      obtain ⟨j, y⟩ := e
      rw [Env.get_cons] at hx
      by_cases hji : j = i
      · rw [if_pos hji] at hx; injection hx with hx; subst hx; exact h1.1
      · rw [if_neg hji] at hx; exact ih h1.2 hx
  · intro i k cs hx
    induction hp with
    | nil => cases hx
    | cons e l ih =>
      obtain ⟨j, q, ds⟩ := e
      rw [HP.get_cons] at hx
      by_cases hji : j = i
      · rw [if_pos hji] at hx
        injection hx with hx
        simp only [Prod.mk.injEq] at hx
        obtain ⟨_, rfl⟩ := hx
        subst hji
        exact h2.1
      · rw [if_neg hji] at hx; exact ih h2.2 hx

/-- A LOOP, with states of one's own: what is known at the head of a round in state x. -/
theorem cj_loop {α : Type} {c : Code} (sσ : α → Snap) (sE : α → Env) (sH : α → HP) (sA : α → List AE) (sn : Nat) (I : α → Prop) (μ : α → Nat) (x0 : α) (h0 : I x0) (hσ : sσ x0 = σ) (he : allInE (sE x0) env) (hh : allInH (sH x0) hp)
    (hA : sA x0 = A) (hl : EnvLt sn (sE x0)) (hl' : HpLt sn (sH x0))
    (hround : ∀ x, I x → CJ cf c (Exit.then (Again cf I μ sσ sE sH sA sn (μ x)) Q) (sσ x) (sE x) (sH x) (sA x) sn) : CJ cf (.loop c) Q σ env hp A nh := by
  refine ⟨fun _ a β w ha hw => ?_⟩
  have hx0 : AtLS cf ⟨sσ x0, sE x0, sH x0, sA x0, sn⟩ a w := ⟨Bd.of hl hl', β, ha.sub (subE_of he), by rw [hσ, hA]; exact hw.sub (subH_of hh)⟩
  exact wpR_loop_rel (fun n a w => ∃ x, I x ∧ μ x = n ∧ AtLS cf ⟨sσ x, sE x, sH x, sA x, sn⟩ a w) (μ x0) ⟨x0, h0, rfl, hx0⟩ fun n a w ⟨x, hI, hμ, hb, β, ha, hw⟩ => by
    subst hμ
    exact Code.wpIn_mono (fun e a w q => by
      cases e with
      | normal => obtain ⟨y, h1, h2, h3⟩ := q; exact ⟨μ y, h2, y, h1, rfl, h3⟩
      | _ => exact q) ((hround x hI).run hb a β w ha hw)

/-- The end of a round. -/
theorem nj_again {α : Type} {I : α → Prop} {μ : α → Nat} {sσ : α → Snap} {sE : α → Env} {sH : α → HP} {sA : α → List AE} {sn : Nat} {n : Nat} (x : α) (hI : I x) (hμ : μ x < n) (hσ : sσ x = σ) (he : allInE (sE x) env) (hh : allInH (sH x) hp)
    (hA : sA x = A) (hl : EnvLt sn (sE x)) (hl' : HpLt sn (sH x)) : NJ cf .normal (Exit.then (Again cf I μ sσ sE sH sA sn n) Q) σ env hp A nh :=
  ⟨fun _ _ β _ ha hw => ⟨x, hI, hμ, Bd.of hl hl', β, ha.sub (subE_of he), by rw [hσ, hA]; exact hw.sub (subH_of hh)⟩⟩

/-- A CUT: all ways through the first piece meet at a state that is told. -/
theorem cj_cut {α : Type} {x y : Code} (sσ : α → Snap) (sE : α → Env) (sH : α → HP) (sA : α → List AE) (sn : Nat) (I : α → Prop)
    (hx : CJ cf x (Exit.then (Again cf I (fun _ => 0) sσ sE sH sA sn 1) Q) σ env hp A nh) (hy : ∀ i, I i → CJ cf y Q (sσ i) (sE i) (sH i) (sA i) sn) : CJ cf (.seq x y) Q σ env hp A nh := by
  refine ⟨fun hb a β w ha hw => wpIn_seq (Code.wpIn_mono (fun e a w q => ?_) (hx.run hb a β w ha hw))⟩
  cases e with
  | normal =>
    obtain ⟨i, hI, _, hb, β, ha, hw⟩ := q
    exact (hy i hI).run hb a β w ha hw
  | _ => exact q

theorem oj_sub {l : List Item} {env' : Env} {hp' : HP} (he : subE env' env) (hh : subH hp' hp) (hS : ∀ β w, StW cf σ hp' A β w → StW cf σ hp A β w) (h : OJ cf l Q σ env' hp' A nh) : OJ cf l Q σ env hp A nh := by
  refine ⟨fun hb a β ha hex => ?_⟩
  have e : (fun w => StW cf σ hp A β w) = fun w => StW cf σ hp' A β w := by
    funext w
    exact propext ⟨fun hw => hw.sub hh, hS β w⟩
  rw [e]
  obtain ⟨w, hw⟩ := hex
  exact h.run (hb.sub he hh) a β (ha.sub he) ⟨w, hw.sub hh⟩

theorem oj_subE {l : List Item} {env' : Env} (he : subE env' env) (h : OJ cf l Q σ env' hp A nh) : OJ cf l Q σ env hp A nh := oj_sub he (fun _ _ h => h) (fun _ _ h => h) h

end
end Go.Sy
