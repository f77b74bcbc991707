/- Contracts in the reckoning's own words. No program in sight. -/
import Derived.Test.YtadnijcgohflhaaDoorSyJ
namespace Go.Sy

def LtAll : List SV → Prop
  | [] => True
  | y :: l => y.lt 0 ∧ LtAll l
theorem LtAll.of : ∀ {l : List SV}, LtAll l → ∀ y ∈ l, y.lt 0
  | [], _, _, h => by cases h
  | y :: l, h, z, hz => by
    cases hz with
    | head => exact h.1
    | tail _ hz => exact LtAll.of h.2 z hz

/-- The contract of a function that changes nothing. -/
def PureS (P : Program) (f : FuncId) (svs : List SV) (σ : Snap) (Φ : Value → Snap → Prop) : Prop := PureC P f (svs.map (SV.den β0)).toArray σ Φ
/-- The same, where the answer bears no memory. -/
def PlainS (P : Program) (f : FuncId) (svs : List SV) (σ : Snap) (Φ : Value → Prop) : Prop := PureC P f (svs.map (SV.den β0)).toArray σ (fun v _ => Φ v)
/-- The contract of a function that is handed arrays. -/
def FnS (P : Program) (f : FuncId) (svs : List SV) (σ : Snap) (A : List AE) (Φ : Value → Snap → List AE → Prop) : Prop := FnC P f (svs.map (SV.den β0)).toArray σ A Φ

theorem enter_s {P : Program} {f : FuncId} {fn : Func} {c : Code} {svs : List SV} {σ : Snap} {Φ : Value → Snap → Prop}
    (hf : P.funcs[f]? = some fn) (hb : fn.body = some c) (hN : Nat.ble svs.length fn.ntmps = true) (hlt : LtAll svs)
    (h : ∀ w, CJ ⟨P, w, σ, fun _ => False, fn.ntmps, [], none⟩ c (bodyPost P fn (postR w (fun _ => False) σ (fun v _ σ' => Φ v σ'))) σ (argEnv 0 svs) [] [] 0) : PureS P f svs σ Φ :=
  enter_pure hf hb svs rfl (Nat.le_of_ble_eq_true hN) hlt.of h
theorem enter_p {P : Program} {f : FuncId} {fn : Func} {c : Code} {svs : List SV} {σ : Snap} {Φ : Value → Prop}
    (hf : P.funcs[f]? = some fn) (hb : fn.body = some c) (hN : Nat.ble svs.length fn.ntmps = true) (hlt : LtAll svs)
    (h : ∀ w, CJ ⟨P, w, σ, fun _ => False, fn.ntmps, [], none⟩ c (bodyPost P fn (postR w (fun _ => False) σ (fun v _ _ => Φ v))) σ (argEnv 0 svs) [] [] 0) : PlainS P f svs σ Φ :=
  enter_pure hf hb svs rfl (Nat.le_of_ble_eq_true hN) hlt.of h
theorem enter_f {P : Program} {f : FuncId} {fn : Func} {c : Code} {svs : List SV} {σ : Snap} {A : List AE} {Φ : Value → Snap → List AE → Prop}
    (hf : P.funcs[f]? = some fn) (hb : fn.body = some c) (hN : Nat.ble svs.length fn.ntmps = true) (hlt : LtAll svs)
    (h : ∀ w, CJ ⟨P, w, σ, blks A, fn.ntmps, [], none⟩ c (bodyPost P fn (postR w (blks A) σ (postF P w σ A Φ))) σ (argEnv 0 svs) [] A 0) : FnS P f svs σ A Φ :=
  enter_fn hf hb svs rfl (Nat.le_of_ble_eq_true hN) hlt.of h

section
variable {cf : Cf} {Q : Exit → Act → World → Prop} {σ : Snap} {env : Env} {hp : HP} {A : List AE} {nh : Nat} {it : Item} {rest : List Item}

theorem oj_callS {d : Nat} {f : FuncId} {ys : List SV} {Φ : Value → Snap → Prop} (hc : callee env it.o.op = some (f, ys)) (hd : it.o.dst = some d) (hg : guardVal it.guard env = some true)
    (hN : Nat.blt d cf.N = true) (hq : notQuiet it.tag = true) (hcall : ∀ args w, (callFunc f args).run cf.P w = .ok (.enter f args) w) (hlt : LtAll ys)
    (hC : PureS cf.P f ys σ Φ)
    (k : ∀ v σ', σ.le σ' → Φ v σ' → ∃ y : SV, y.lt 0 ∧ y.den β0 = v ∧ OJ cf rest Q σ' ((d, y) :: env) hp A nh) : OJ cf (it :: rest) Q σ env hp A nh :=
  oj_call hc hd hg hN hq hcall hlt.of hC k
theorem oj_callP {d : Nat} {f : FuncId} {ys : List SV} {Φ : Value → Prop} (hc : callee env it.o.op = some (f, ys)) (hd : it.o.dst = some d) (hg : guardVal it.guard env = some true)
    (hN : Nat.blt d cf.N = true) (hq : notQuiet it.tag = true) (hcall : ∀ args w, (callFunc f args).run cf.P w = .ok (.enter f args) w) (hlt : LtAll ys)
    (hC : PlainS cf.P f ys σ Φ)
    (k : ∀ v, Φ v → ∃ y : SV, y.lt 0 ∧ y.den β0 = v ∧ OJ cf rest Q σ ((d, y) :: env) hp A nh) : OJ cf (it :: rest) Q σ env hp A nh :=
  oj_call_plain hc hd hg hN hq hcall hlt.of hC k
theorem oj_callF {d : Nat} {f : FuncId} {ys : List SV} {Φ : Value → Snap → List AE → Prop} (is : List Nat) {A0 Ar : List AE} (hA : reA is A = A0 ++ Ar) (hn : nodupB is = true)
    (hc : callee env it.o.op = some (f, ys)) (hd : it.o.dst = some d) (hg : guardVal it.guard env = some true)
    (hN : Nat.blt d cf.N = true) (htag : canSink it.tag = true) (hcall : ∀ args w, (callFunc f args).run cf.P w = .ok (.enter f args) w) (hlt : LtAll ys)
    (hC : FnS cf.P f ys σ A0 Φ)
    (k : ∀ v σ' A', σ.le σ' → Φ v σ' A' → ∃ y : SV, y.lt 0 ∧ y.den β0 = v ∧ OJ cf rest Q σ' ((d, y) :: env) hp (A' ++ Ar) nh) : OJ cf (it :: rest) Q σ env hp A nh :=
  oj_call_fn is hA hn hc hd hg hN htag hcall hlt.of hC k

/-- A loop whose state has two parts. -/
theorem cj_loop2 {α γ : Type} {c : Code} (sσ : α → γ → Snap) (sE : α → γ → Env) (sH : α → γ → HP) (sA : α → γ → List AE) (sn : Nat) (I : α → γ → Prop) (μ : α → γ → Nat) (x0 : α) (y0 : γ) (h0 : I x0 y0) (hσ : sσ x0 y0 = σ) (he : allInE (sE x0 y0) env)
    (hh : allInH (sH x0 y0) hp) (hA : sA x0 y0 = A) (hl : EnvLt sn (sE x0 y0)) (hl' : HpLt sn (sH x0 y0))
    (hround : ∀ x y, I x y → CJ cf c (Exit.then (Again cf (fun s : α × γ => I s.1 s.2) (fun s => μ s.1 s.2) (fun s => sσ s.1 s.2) (fun s => sE s.1 s.2) (fun s => sH s.1 s.2) (fun s => sA s.1 s.2) sn (μ x y)) Q) (sσ x y) (sE x y) (sH x y) (sA x y) sn) : CJ cf (.loop c) Q σ env hp A nh :=
  cj_loop (fun s : α × γ => sσ s.1 s.2) (fun s => sE s.1 s.2) (fun s => sH s.1 s.2) (fun s => sA s.1 s.2) sn (fun s => I s.1 s.2) (fun s => μ s.1 s.2) (x0, y0) h0 hσ he hh hA hl hl' fun s hI => hround s.1 s.2 hI
theorem nj_again2 {α γ : Type} {I : α → γ → Prop} {μ : α → γ → Nat} {sσ : α → γ → Snap} {sE : α → γ → Env} {sH : α → γ → HP} {sA : α → γ → List AE} {sn : Nat} {n : Nat} (x : α) (y : γ) (hI : I x y) (hμ : μ x y < n) (hσ : sσ x y = σ)
    (he : allInE (sE x y) env) (hh : allInH (sH x y) hp) (hA : sA x y = A) (hl : EnvLt sn (sE x y)) (hl' : HpLt sn (sH x y)) :
    NJ cf .normal (Exit.then (Again cf (fun s : α × γ => I s.1 s.2) (fun s => μ s.1 s.2) (fun s => sσ s.1 s.2) (fun s => sE s.1 s.2) (fun s => sH s.1 s.2) (fun s => sA s.1 s.2) sn n) Q) σ env hp A nh :=
  nj_again (α := α × γ) (I := fun s => I s.1 s.2) (μ := fun s => μ s.1 s.2) (sσ := fun s => sσ s.1 s.2) (sE := fun s => sE s.1 s.2) (sH := fun s => sH s.1 s.2) (sA := fun s => sA s.1 s.2) (x, y) hI hμ hσ he hh hA hl hl'

/-- All ways out of a block meet at a state that is told. -/
theorem cj_cutB {α : Type} {id : Nat} {c y : Code} {Q' : Exit → Act → World → Prop} (sσ : α → Snap) (sE : α → Env) (sH : α → HP) (sA : α → List AE) (sn : Nat) (I : α → Prop)
    (hx : CJ cf c (Exit.inBlock id (Exit.then (Again cf I (fun _ => 0) sσ sE sH sA sn 1) Q)) σ env hp A nh) (hy : ∀ i, I i → CJ cf y Q' (sσ i) (sE i) (sH i) (sA i) sn) : CJ cf c (Exit.inBlock id (Exit.then (wpR cf.rd cf.P y Q') Q)) σ env hp A nh := by
  have key : ∀ e a w, Exit.then (Again cf I (fun _ => 0) sσ sE sH sA sn 1) Q e a w → Exit.then (wpR cf.rd cf.P y Q') Q e a w := by
    intro e a w q
    cases e with
    | normal =>
      obtain ⟨i, hI, _, hb, β, ha, hw⟩ := q
      exact (hy i hI).run hb a β w ha hw
    | _ => exact q
  refine ⟨fun hb a β w ha hw => Code.wpIn_mono (fun e a w q => ?_) (hx.run hb a β w ha hw)⟩
  cases e with
  | exit i =>
    simp only [Exit.inBlock] at q ⊢
    split
    · rename_i h; rw [if_pos h] at q; exact key _ _ _ q
    · rename_i h; rw [if_neg h] at q; exact key _ _ _ q
  | _ => simp only [Exit.inBlock] at q ⊢; exact key _ _ _ q
/-- All ways through a piece meet at a state that is told. -/
theorem cj_cutN {α : Type} {c y : Code} {Q' : Exit → Act → World → Prop} (sσ : α → Snap) (sE : α → Env) (sH : α → HP) (sA : α → List AE) (sn : Nat) (I : α → Prop)
    (hx : CJ cf c (Exit.then (Again cf I (fun _ => 0) sσ sE sH sA sn 1) Q) σ env hp A nh) (hy : ∀ i, I i → CJ cf y Q' (sσ i) (sE i) (sH i) (sA i) sn) : CJ cf c (Exit.then (wpR cf.rd cf.P y Q') Q) σ env hp A nh := by
  refine ⟨fun hb a β w ha hw => Code.wpIn_mono (fun e a w q => ?_) (hx.run hb a β w ha hw)⟩
  cases e with
  | normal =>
    obtain ⟨i, hI, _, hb, β, ha, hw⟩ := q
    exact (hy i hI).run hb a β w ha hw
  | _ => exact q

/-- An int's quotient's rest. -/
theorem oj_rem {d : Nat} {x y : Operand} {xt yt : TypeId} {m n : Int} (hop : it.o.op = .binOp .rem xt x y yt) (hd : it.o.dst = some d) (hg : guardVal it.guard env = some true) (hN : Nat.blt d cf.N = true)
    (hx : evalO env x = some (.a (.v (.int .i64 m)))) (hy : evalO env y = some (.a (.v (.int .i64 n)))) (hb : n ≠ 0)
    (hk : OJ cf rest Q σ ((d, .a (.v (.int .i64 (m.tmod n)))) :: env) hp A nh) : OJ cf (it :: rest) Q σ env hp A nh :=
  oj_arith _ hop hd hg hN hx hy (run_rem hb rfl) hk
end
end Go.Sy
