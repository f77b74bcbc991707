/- More rules: values in other words; regions whose stores may come among their reads. No program in sight. -/
import Derived.Test.YtadnijcgohflhaaDoorSyO
namespace Go.Sy

section
variable {cf : Cf} {Q : Exit → Act → World → Prop} {σ : Snap} {env : Env} {hp : HP} {A : List AE} {nh : Nat} {it : Item} {rest : List Item}

theorem StA.set {β : Nat → Addr} {a : Act} (t : Nat) {x y : SV} (h : env.get t = some x) (hxy : x.den β = y.den β) (ha : StA cf env β a) : StA cf ((t, y) :: env) β a := by
  refine ⟨ha.size, ha.defers, fun i z hz => ?_⟩
  rw [Env.get_cons] at hz
  by_cases hi : t = i
  · rw [if_pos hi] at hz
    injection hz with hz
    subst hz; subst hi
    rw [← hxy]; exact ha.env t _ h
  · rw [if_neg hi] at hz; exact ha.env i z hz

theorem nj_set {e : Exit} (t : Nat) {x : SV} (y : SV) (h : env.get t = some x) (hy : y.lt nh) (hxy : ∀ β, x.den β = y.den β) (k : NJ cf e Q σ ((t, y) :: env) hp A nh) : NJ cf e Q σ env hp A nh :=
  ⟨fun hb a β w ha hw => k.run (hb.put hy t) a β w (ha.set t h (hxy β)) hw⟩
theorem cj_set {c : Code} (t : Nat) {x : SV} (y : SV) (h : env.get t = some x) (hy : y.lt nh) (hxy : ∀ β, x.den β = y.den β) (k : CJ cf c Q σ ((t, y) :: env) hp A nh) : CJ cf c Q σ env hp A nh :=
  ⟨fun hb a β w ha hw => k.run (hb.put hy t) a β w (ha.set t h (hxy β)) hw⟩

/-! ### A region's stores among its reads: a wider class, W, in which what is read stays what it is -/

structure OW (cf : Cf) (l : List Item) (Q : Exit → Act → World → Prop) (W : (Nat → Addr) → World → Prop) (σ : Snap) (env : Env) (hp : HP) (A : List AE) (nh : Nat) : Prop where
  run : Bd env hp nh → ∀ a β, StA cf env β a → (∃ w, StW cf σ hp A β w) → RunT cf.P Q l (W β) (fun w => StW cf σ hp A β w) a

variable {W : (Nat → Addr) → World → Prop}

theorem cj_drawW {id : Nat} {ops : Array Oper} (l : List (Nat × Tag)) (W : (Nat → Addr) → World → Prop) (hW : ∀ β w, StW cf σ hp A β w → W β w) (hm : cf.P.follows .mixedOrders = true) (hB : orderOk ops l = true)
    (h : OW cf (itemsOf ops l) Q W σ env hp A nh) (hd : okRd cf.rd ops = true := by rfl) : CJ cf (.region id ops true) Q σ env hp A nh :=
  ⟨fun hb a β _ ha hw => wp_of_order l hm hB hd (fun x hx => hW β x hx) hw.drew (h.run hb a β ha ⟨_, hw⟩)⟩

def noQuiet : List Item → Bool
  | [] => true
  | it :: l => (match it.tag with | .quiet => false | _ => true) && noQuiet l

theorem run_wider {P : Program} {E E' : World → Prop} (hE : ∀ w, E w → E' w) : ∀ (l : List Item) (S : World → Prop) (a : Act), noQuiet l = true → RunT P Q l E S a → RunT P Q l E' S a
  | [], _, _, _, h => h
  | it :: l, S, a, hq, h => by
    simp only [noQuiet, Bool.and_eq_true] at hq
    simp only [RunT] at h ⊢
    split
    · rename_i hw
      rw [if_pos hw] at h
      cases htag : it.tag with
      | quiet => rw [htag] at hq; cases hq.1
      | pure =>
        rw [htag] at h
        obtain ⟨v, h1, h2⟩ := h
        exact ⟨v, h1, run_wider hE l S _ hq.2 h2⟩
      | keep =>
        rw [htag] at h
        exact fun w hS => wq_mono (fun a' w' ⟨E1, S1, h1, h2, h3, h4⟩ => ⟨E1, S1, h1, h2, fun x hx => hE x (h3 x hx), h4⟩) (h w hS)
      | sink => rw [htag] at h; exact h
      | free => rw [htag] at h; exact h
    · rename_i hw
      rw [if_neg hw] at h
      exact run_wider hE l S _ hq.2 h

/-- Nothing is left that is read: the class may be the narrow one again. -/
theorem ow_end {l : List Item} (hq : noQuiet l = true) (hW : ∀ β w, StW cf σ hp A β w → W β w) (h : OJ cf l Q σ env hp A nh) : OW cf l Q W σ env hp A nh :=
  ⟨fun hb a β ha hex => run_wider (E := fun w => StW cf σ hp A β w) (fun w hw => hW β w hw) l _ a hq (h.run hb a β ha hex)⟩

/-- One value. -/
theorem ow_val {d : Nat} (y : SV) (hd : it.o.dst = some d) (hg : guardVal it.guard env = some true) (hN : Nat.blt d cf.N = true) (hlt : y.lt nh)
    (hrun : Bd env hp nh → ∀ a β, StA cf env β a → match it.tag with
      | .pure => ∀ w, (execOp a.eval it.o).run cf.P w = .ok (.value (y.den β)) w
      | .quiet => ∀ w, W β w → (execOp a.eval it.o).run cf.P w = .ok (.value (y.den β)) w
      | _ => False) (k : OW cf rest Q W σ ((d, y) :: env) hp A nh) : OW cf (it :: rest) Q W σ env hp A nh := by
  refine ⟨fun hb a β ha hex => ?_⟩
  have hN' : d < cf.N := by simpa [Nat.blt_eq] using hN
  have h' := k.run (hb.put hlt d) (a.put (some d) (y.den β)) β (ha.put hN' y) hex
  have hrun := hrun hb a β ha
  simp only [RunT]
  rw [if_pos (guardVal_ok ha hg), hd]
  cases htag : it.tag with
  | pure => rw [htag] at hrun; exact ⟨_, fun w => .inl (hrun w), h'⟩
  | quiet => rw [htag] at hrun; exact ⟨_, fun w hw => .inl (hrun w hw), h'⟩
  | keep => rw [htag] at hrun; exact hrun.elim
  | sink => rw [htag] at hrun; exact hrun.elim
  | free => rw [htag] at hrun; exact hrun.elim

/-- What heeds no world: reckoned. -/
theorem ow_pure {d : Nat} {T : List (Nat × TI)} (hT : TTok cf.P T) {x : SV} (h : stepOp T it.o.op env hp nh = some (.val x)) (hl : isLoad it.o.op = false) (hp' : isPure it.tag = true) (hd : it.o.dst = some d) (hg : guardVal it.guard env = some true) (hN : Nat.blt d cf.N = true)
    (k : OW cf rest Q W σ ((d, x) :: env) hp A nh) : OW cf (it :: rest) Q W σ env hp A nh := by
  refine ⟨fun hb a β ha hex => ?_⟩
  have hN' : d < cf.N := by simpa [Nat.blt_eq] using hN
  obtain ⟨hx, hrun⟩ := step_ok (o := it.o) hT ha hb h
  have h' := k.run (hb.put hx d) (a.put (some d) (x.den β)) β (ha.put hN' x) hex
  simp only [RunT]
  rw [if_pos (guardVal_ok ha hg), hd]
  cases htag : it.tag with
  | pure => exact ⟨_, fun w => .inl (hrun w (fun hc => by rw [hl] at hc; cases hc)), h'⟩
  | _ => rw [htag] at hp'; cases hp'

/-- A load, of what W knows too. -/
theorem ow_load {d : Nat} {T : List (Nat × TI)} (hT : TTok cf.P T) {x : SV} (hpW : HP) (AW : List AE) (hsub : subH hpW hp) (hW : ∀ β w, W β w → StW cf σ hpW AW β w) (h : stepOp T it.o.op env hpW nh = some (.val x)) (hq : (match it.tag with | .quiet => true | _ => false) = true) (hd : it.o.dst = some d) (hg : guardVal it.guard env = some true) (hN : Nat.blt d cf.N = true)
    (k : OW cf rest Q W σ ((d, x) :: env) hp A nh) : OW cf (it :: rest) Q W σ env hp A nh := by
  refine ⟨fun hb a β ha hex => ?_⟩
  have hN' : d < cf.N := by simpa [Nat.blt_eq] using hN
  obtain ⟨hx, hrun⟩ := step_ok (o := it.o) hT ha (hb.sub (fun _ _ h => h) hsub) h
  have h' := k.run (hb.put hx d) (a.put (some d) (x.den β)) β (ha.put hN' x) hex
  simp only [RunT]
  rw [if_pos (guardVal_ok ha hg), hd]
  cases htag : it.tag with
  | quiet => exact ⟨_, fun w hw => .inl (hrun w (fun _ => ⟨σ, AW, hW β w hw⟩)), h'⟩
  | _ => rw [htag] at hq; cases hq

/-- A store that leaves W. -/
theorem ow_put {T : List (Nat × TI)} (hT : TTok cf.P T) {i : Nat} {e : TypeId} {cs : List AT} (h : stepOp T it.o.op env hp nh = some (.put i e cs)) (hk : (match it.tag with | .keep => true | _ => false) = true) (hd : it.o.dst = none) (hg : guardVal it.guard env = some true)
    (hW : ∀ β w, StW cf σ ((i, .loc e, cs) :: hp) A β w → W β w) (k : OW cf rest Q W σ env ((i, .loc e, cs) :: hp) A nh) : OW cf (it :: rest) Q W σ env hp A nh := by
  refine ⟨fun hb a β ha hex => ?_⟩
  obtain ⟨hcs, ⟨cs0, hi⟩, hrun⟩ := step_ok (o := it.o) hT ha hb h
  simp only [RunT]
  rw [if_pos (guardVal_ok ha hg), hd]
  cases htag : it.tag with
  | keep =>
    refine fun w hw => ?_
    unfold Oper.wq
    rw [hrun σ A w hw]
    have hw' := hw.store (cs := cs) hi
    refine ⟨W β, _, hw', fun x hx => hW β x hx, fun _ h => h, ?_⟩
    rw [hd]
    exact k.run (hb.row (hb.hp i _ _ hi).1 hcs) a β ha ⟨_, hw'⟩
  | _ => rw [htag] at hk; cases hk

theorem subH_cons {h1 h2 : HP} {i : Nat} {x : HK × List AT} (hn : h1.get i = none) (hs : subH h1 h2) : subH h1 ((i, x.1, x.2) :: h2) := by
  intro j y hy
  rw [HP.get_cons]
  by_cases hij : i = j
  · subst hij; rw [hn] at hy; cases hy
  · rw [if_neg hij]; exact hs j y hy

/-- A call that leaves W, the arrays as told. -/
theorem ow_call {d : Nat} {f : FuncId} {ys : List SV} {Φ : Value → Snap → List AE → Prop} (is : List Nat) {A0 Ar : List AE} (hA : reA is A = A0 ++ Ar) (hn : nodupB is = true)
    (hc : callee env it.o.op = some (f, ys)) (hd : it.o.dst = some d) (hg : guardVal it.guard env = some true)
    (hN : Nat.blt d cf.N = true) (hk : (match it.tag with | .keep => true | _ => false) = true) (hcall : ∀ args w, (callFunc f args).run cf.P w = .ok (.enter f args) w) (hlt : LtAll ys)
    (hC : FnS cf.P f ys σ A0 Φ)
    (k : ∀ v σ' A', σ.le σ' → Φ v σ' A' → (∀ β w, StW cf σ' hp (A' ++ Ar) β w → W β w) ∧ ∃ y : SV, y.lt 0 ∧ y.den β0 = v ∧ OW cf rest Q W σ' ((d, y) :: env) hp (A' ++ Ar) nh) : OW cf (it :: rest) Q W σ env hp A nh := by
  refine ⟨fun hb a β ha hex => ?_⟩
  have hN' : d < cf.N := by simpa [Nat.blt_eq] using hN
  have den0 : ∀ {y : SV}, y.lt 0 → y.den β = y.den β0 := fun hy => SV.den_congr (n := 0) (fun i hi => by omega) hy
  have hargs : (ys.map (SV.den β)).toArray = (ys.map (SV.den β0)).toArray := by
    rw [List.map_congr_left fun y hy => den0 (hlt.of y hy)]
  simp only [RunT]
  rw [if_pos (guardVal_ok ha hg)]
  cases htag : it.tag with
  | keep =>
    intro w hw
    have hw2 : StW cf σ hp (A0 ++ Ar) β w := by rw [← hA]; exact hw.reA hn
    unfold Oper.wq
    rw [callee_ok ha hc hcall]
    simp only [Oper.uponIn]
    rw [hargs]
    refine ⟨fun h => (by cases h), CallsIn.mono (callsIn_FR.2 (hC w hw2.handIn)) fun e w' ⟨v, σ', he, h1, h2, h3, A', h4, h5⟩ => ?_⟩
    subst he
    obtain ⟨hW, y, hy, hyv, hk⟩ := k v σ' A' h2.le h4
    have hw' := hw2.through h5
    refine ⟨W β, _, hw', fun x hx => hW β x hx, fun _ h => h, ?_⟩
    have := hk.run (hb.put (SV.lt_mono (Nat.zero_le _) hy) d) (a.put (some d) (y.den β)) β (ha.put hN' y) ⟨_, hw'⟩
    rw [hd, ← hyv, ← den0 hy]
    exact this
  | _ => rw [htag] at hk; cases hk
end

theorem SV.lt_fn0 {n : Nat} {f : Fn} : (SV.a (.fn f [])).lt n := fun _ h => (by cases h)
theorem AT.lt_fn0 {n : Nat} {f : Fn} : (AT.fn f []).lt n := fun _ h => (by cases h)

theorem nj_nilarr {cf : Cf} {Q : Exit → Act → World → Prop} {σ : Snap} {env : Env} {hp : HP} {A : List AE} {nh : Nat} {ex : Exit} (e sz : Nat) (h : NJ cf ex Q σ env hp (A ++ [⟨none, 0, 0, e, sz, []⟩]) nh) : NJ cf ex Q σ env hp A nh :=
  ⟨fun hb a β w ha hw => h.run hb a β w ha ((StW.nilArr e sz).1 hw)⟩
end Go.Sy
