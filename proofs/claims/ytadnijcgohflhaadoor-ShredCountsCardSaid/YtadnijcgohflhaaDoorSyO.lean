/- Rounds: loops over functions. No program in sight. -/
import Derived.Test.YtadnijcgohflhaaDoorSyN
import Derived.RangeFuncRecord
namespace Go.Sy

/-! ### What is handed to a function that is ranged over, and to a round -/

def Snap.leB (l : Nat) (σ σ' : Snap) : Prop := (σ.set l none).le σ'

theorem Snap.leB.cle {l : Nat} {σ σ' : Snap} {r : Loop} (h : σ.leB l σ') (hl : σ l = some (.loop r)) : σ.cle σ' := by
  intro a v hv
  refine Snap.le.cell h ?_
  rw [Snap.cell_set (fun o e => by rw [hl] at e; injection e with e; subst e; rfl) (fun _ e => by cases e)]
  exact hv
theorem Snap.leB.at_ {l : Nat} {σ σ' : Snap} (h : σ.leB l σ') {b : Nat} {o : Obj} (hb : b ≠ l) (ho : σ b = some o) : σ' b = some o := h b o (by rw [Snap.set_ne hb]; exact ho)

/-- A call's own, at its start, where the record l may turn. -/
abbrev cfL (P : Program) (w : World) (σ : Snap) (A : List AE) (l : Nat) (N : Nat) (rd : Option Nat) : Cf := ⟨P, w, σ.set l none, fun b => blks A b ∨ b = l, N, [], rd⟩

def postI (P : Program) (w : World) (σ : Snap) (A : List AE) (l : Nat) (Φ : Value → Snap → List AE → Prop) : Ending → World → Prop :=
  fun e w' => ∃ v σ' A', e = .returned v ∧ StW (cfL P w σ A l 0 none) σ' [] A' β0 w' ∧ Φ v σ' A'

/-- ONE ROUND: what yield does. -/
def RoundC (P : Program) (l : Nat) (r : Loop) (args : Array Value) (σ : Snap) (A : List AE) (Φ : Value → Snap → List AE → Prop) : Prop :=
  ∀ w, StW (cfL P w σ A l 0 none) σ [] A β0 w → RoundIn (FR none) 0 P l r.fn ((r.params.zip args).foldl (fun tmps (t, a) => tmps.setIfInBounds t a) r.tmps) r.assign r.body w (postI P w σ A l Φ)

/-- THE FUNCTION THAT IS RANGED OVER. -/
def IterC (P : Program) (f : FuncId) (args : Array Value) (l : Nat) (σ : Snap) (A : List AE) (Φ : Value → Snap → List AE → Prop) : Prop :=
  ∀ w, StW (cfL P w σ A l 0 none) σ [] A β0 w → Calls P f args w (postI P w σ A l Φ)

section
variable {cf : Cf} {σ : Snap} {hp : HP} {A : List AE} {β : Nat → Addr} {w : World}

theorem StW.bareM {P : Program} {w0 w : World} {σ0 σ : Snap} {M : Nat → Prop} {N : Nat} {ds : List Deferred} {rd : Option Nat} {hp : HP} {A : List AE} {β : Nat → Addr} (h : StW ⟨P, w0, σ0, M, N, ds, rd⟩ σ hp A β w) (N' : Nat) (ds' : List Deferred) (rd' : Option Nat) (β' : Nat → Addr) :
    StW ⟨P, w0, σ0, M, N', ds', rd'⟩ σ [] A β' w where
  os := h.os
  tape := h.tape
  output := h.output
  size := h.size
  fr := h.fr
  sealed := h.sealed
  le := h.le
  grow := h.grow
  loc := fun _ _ _ h => by cases h
  ro := fun _ _ h => by cases h
  inj := fun _ _ _ _ _ _ h => by cases h
  arr := fun i E hE => h.arr i E hE
  arrd := h.arrd
  arrh := fun _ _ _ _ _ _ h => by cases h

theorem StW.re {P : Program} {w0 w : World} {σ0 σ : Snap} {M : Nat → Prop} {N : Nat} {ds : List Deferred} {rd : Option Nat} {hp : HP} {A : List AE} {β : Nat → Addr} (h : StW ⟨P, w0, σ0, M, N, ds, rd⟩ σ hp A β w) (N' : Nat) (ds' : List Deferred) (rd' : Option Nat) :
    StW ⟨P, w0, σ0, M, N', ds', rd'⟩ σ hp A β w :=
  ⟨h.os, h.tape, h.output, h.size, h.fr, h.sealed, h.le, h.grow, h.loc, h.ro, h.inj, h.arr, h.arrd, h.arrh⟩

theorem StW.handInL {l : Nat} {A0 Ar : List AE} (h : StW cf σ hp (A0 ++ Ar) β w) : StW (cfL cf.P w σ A0 l 0 none) σ [] A0 β0 w where
  os := rfl
  tape := rfl
  output := rfl
  size := Nat.le_refl _
  fr := fun _ _ _ => rfl
  sealed := h.sealed
  le := fun b o (hb : σ.set l none b = some o) => by
    by_cases hbl : b = l
    · subst hbl; rw [Snap.set_self] at hb; cases hb
    · rw [Snap.set_ne hbl] at hb; exact hb
  grow := fun b hb => by
    by_cases hbl : b = l
    · exact .inr (.inr (.inr hbl))
    · left; show σ.set l none b ≠ none; rw [Snap.set_ne hbl]; exact hb
  loc := fun _ _ _ h => by cases h
  ro := fun _ _ h => by cases h
  inj := fun _ _ _ _ _ _ h => by cases h
  arr := fun i E hE => by
    have hlt := (List.getElem?_eq_some_iff.1 hE).1
    obtain ⟨h1, h2⟩ := h.arr i E (by rw [List.getElem?_append_left hlt]; exact hE)
    refine ⟨h1, h2.imp id ?_⟩
    rintro ⟨g, cur, h3, h4, h5, h6, h7, h8, h9, h10⟩
    exact ⟨g, cur, h3, h4, h5, h6, h7, h8, h9, .inr (.inl ⟨E, List.mem_of_getElem? hE, by simp [AE.blk, h3]⟩)⟩
  arrd := fun i j E F hE hF hij => by
    have hi := (List.getElem?_eq_some_iff.1 hE).1
    have hj := (List.getElem?_eq_some_iff.1 hF).1
    exact h.arrd i j E F (by rw [List.getElem?_append_left hi]; exact hE) (by rw [List.getElem?_append_left hj]; exact hF) hij
  arrh := fun _ _ _ _ _ _ h => by cases h

/-- What is kept through such a call. -/
theorem StW.throughL {w' : World} {σ' : Snap} {l : Nat} {o : Obj} {A0 Ar A1 : List AE} (h : StW cf σ hp (A0 ++ Ar) β w) (hl : σ l = some o) (ho : nocell o = true) (h0 : cf.σ0 l = none)
    (h' : StW (cfL cf.P w σ A0 l 0 none) σ' [] A1 β0 w') : StW cf σ' hp (A1 ++ Ar) β w' := by
  have hlw := h.sealed _ _ hl
  have hlo := h.own_of hl h0
  have hcells : ∀ {c : Nat} {cs : Array Value} {e : TypeId} {f : Nat × Nat}, w.heap[c]? = some (.cells cs e f) → c ≠ l := fun hc e => by subst e; rw [hlw] at hc; injection hc with hc; subst hc; cases ho
  have hin0 : ∀ {E}, E ∈ A0 → ∃ i, (A0 ++ Ar)[i]? = some E ∧ i < A0.length := by
    intro E hE
    obtain ⟨i, hi⟩ := List.getElem?_of_mem hE
    have hlt := (List.getElem?_eq_some_iff.1 hi).1
    exact ⟨i, by rw [List.getElem?_append_left hlt]; exact hi, hlt⟩
  have hblk : ∀ {b}, blks A0 b → ∃ i E, (A0 ++ Ar)[i]? = some E ∧ E.blk = some b ∧ i < A0.length := by
    rintro b ⟨E, hE, hb⟩
    obtain ⟨i, hi, hlt⟩ := hin0 hE
    exact ⟨i, E, hi, hb, hlt⟩
  have hown : ∀ {b}, (blks A0 b ∨ b = l) → Own cf b := by
    rintro b (hb | hb)
    · obtain ⟨i, E, hi, hE, _⟩ := hblk hb
      exact ((h.arr i E hi).lt hE).2.2
    · subst hb; exact hlo
  have hold : ∀ b, b < w.heap.size → ¬ (blks A0 b ∨ b = l) → w'.heap[b]? = w.heap[b]? := h'.fr
  have hσ : ∀ b, b < w.heap.size → ¬ (blks A0 b ∨ b = l) → σ b = none → σ' b = none := by
    intro b hb hnb hn
    cases hb' : σ' b with
    | none => rfl
    | some o =>
      rcases h'.grow b (by rw [hb']; simp) with h1 | h1 | h1
      · have h1 : σ.set l none b ≠ none := h1
        exact absurd hn (by rw [Snap.set_ne (fun e => hnb (.inr e))] at h1; exact h1)
      · have : w.heap.size ≤ b := h1
        omega
      · exact absurd h1 hnb
  have hold' : ∀ {b}, Own (cfL cf.P w σ A0 l 0 none) b → Own cf b := by
    rintro b (h1 | h1)
    · exact .inl (Nat.le_trans h.size h1)
    · exact hown h1
  have hget : ∀ {j : Nat} {E : AE}, (A1 ++ Ar)[j]? = some E → (j < A1.length ∧ A1[j]? = some E) ∨ (A1.length ≤ j ∧ (A0 ++ Ar)[A0.length + (j - A1.length)]? = some E) := by
    intro j E hj
    by_cases hlt : j < A1.length
    · rw [List.getElem?_append_left hlt] at hj; exact .inl ⟨hlt, hj⟩
    · rw [List.getElem?_append_right (by omega)] at hj
      refine .inr ⟨by omega, ?_⟩
      rw [List.getElem?_append_right (by omega), Nat.add_sub_cancel_left]; exact hj
  have hnew : ∀ {E : AE} {j : Nat} {b : Nat}, A1[j]? = some E → E.blk = some b → w.heap.size ≤ b ∨ (blks A0 b ∨ b = l) := by
    intro E j b hE hb
    rcases ((h'.arr j E hE).lt hb).2.2 with h1 | h1
    · exact .inl h1
    · exact .inr h1
  have hkept : ∀ {F : AE} {k : Nat} {b : Nat}, A0.length ≤ k → (A0 ++ Ar)[k]? = some F → F.blk = some b → b < w.heap.size ∧ ¬ (blks A0 b ∨ b = l) := by
    intro F k b hk hF hb
    refine ⟨((h.arr k F hF).lt hb).1, ?_⟩
    rintro (hc | hc)
    · obtain ⟨i, E, hi, hE, hlt⟩ := hblk hc
      exact h.arrd i k E F hi hF (by omega) b hE hb
    · subst hc
      obtain ⟨_, h2⟩ := h.arr k F hF
      rcases h2 with ⟨h3, _⟩ | ⟨g, cur, h3, h4, _⟩
      · simp [AE.blk, h3] at hb
      · simp only [AE.blk, h3, Option.map_some, Option.some.injEq] at hb
        subst hb
        exact hcells h4 rfl
  have hcle : σ.cle σ' := by
    intro a v hv
    refine Snap.le.cell h'.le ?_
    rw [Snap.cell_set (h.nocell_of hlw ho) (fun _ e => by cases e)]
    exact hv
  refine ⟨h'.os.trans h.os, h'.tape.trans h.tape, h'.output.trans h.output, Nat.le_trans h.size h'.size, fun b hb hm => ?_, h'.sealed, fun b o hb => h'.le b o ?_, fun b hb => ?_, fun i e cs hi => ?_, fun i cs hi j c hc => hcle _ _ (h.ro i cs hi j c hc), h.inj, fun i E hE => ?_,
    fun i j E F hE hF hij => ?_, fun i j E e cs hE hj => ?_⟩
  · have hnb : ¬ (blks A0 b ∨ b = l) := fun hc => by
      rcases hown hc with h1 | h1
      · omega
      · exact hm h1
    rw [hold b (Nat.lt_of_lt_of_le hb h.size) hnb]; exact h.fr b hb hm
  · have hbl : b ≠ l := fun e => by subst e; rw [h0] at hb; cases hb
    show (σ.set l none) b = some o
    rw [Snap.set_ne hbl]; exact h.le b o hb
  · rcases h'.grow b hb with h1 | h1
    · refine h.grow b fun hn => h1 ?_
      show (σ.set l none) b = none
      by_cases hbl : b = l
      · subst hbl; exact Snap.set_self ..
      · rw [Snap.set_ne hbl]; exact hn
    · exact .inr (hold' h1)
  · obtain ⟨h1, h2, h3, h4⟩ := h.loc i e cs hi
    have hlt := (Array.getElem?_eq_some_iff.1 h2).1
    have hnb : ¬ (blks A0 (β i).block ∨ (β i).block = l) := by
      rintro (hc | hc)
      · obtain ⟨k, E, hk, hE, _⟩ := hblk hc
        exact h.arrh k i E e cs hk hi hE
      · exact hcells h2 hc
    exact ⟨h1, by rw [hold _ hlt hnb]; exact h2, hσ _ hlt hnb h3, h4⟩
  · rcases hget hE with ⟨_, hE'⟩ | ⟨hle, hE'⟩
    · obtain ⟨h1, h2⟩ := h'.arr i E hE'
      refine ⟨h1, h2.imp id ?_⟩
      rintro ⟨g, cur, h3, h4, h5, h6, h7, h8, h9, h10⟩
      exact ⟨g, cur, h3, h4, h5, h6, h7, h8, h9, hold' h10⟩
    · obtain ⟨h1, h2⟩ := h.arr _ E hE'
      refine ⟨h1, h2.imp id ?_⟩
      rintro ⟨g, cur, h3, h4, h5, h6, h7, h8, h9, h10⟩
      obtain ⟨hlt, hnb⟩ := hkept (by omega) hE' (b := g) (by simp [AE.blk, h3])
      exact ⟨g, cur, h3, by rw [hold g hlt hnb]; exact h4, h5, h6, h7, h8, hσ g hlt hnb h9, h10⟩
  · intro b hEb hFb
    rcases hget hE with ⟨hi, hE'⟩ | ⟨hi, hE'⟩ <;> rcases hget hF with ⟨hj, hF'⟩ | ⟨hj, hF'⟩
    · exact h'.arrd i j E F hE' hF' hij b hEb hFb
    · obtain ⟨hlt, hnb⟩ := hkept (by omega) hF' hFb
      rcases hnew hE' hEb with h1 | h1
      · omega
      · exact hnb h1
    · obtain ⟨hlt, hnb⟩ := hkept (by omega) hE' hEb
      rcases hnew hF' hFb with h1 | h1
      · omega
      · exact hnb h1
    · exact h.arrd _ _ E F hE' hF' (by omega) b hEb hFb
  · intro hb
    obtain ⟨h1, h2, h3, h4⟩ := h.loc j e cs hj
    have hlt := (Array.getElem?_eq_some_iff.1 h2).1
    rcases hget hE with ⟨_, hE'⟩ | ⟨_, hE'⟩
    · rcases hnew hE' hb with h5 | h5 | h5
      · omega
      · obtain ⟨k, G, hk, hG, _⟩ := hblk h5
        exact h.arrh k j G e cs hk hj hG
      · exact hcells h2 h5
    · exact h.arrh _ j E e cs hE' hj hb
end

/-! ### The function that is ranged over -/

/-- Entering, whatever is asked at the end. -/
theorem enter_raw {P : Program} {f : FuncId} {fn : Func} {c : Code} {args : Array Value} {w : World} {M : Nat → Prop} {σ0 σ : Snap} {R : Ending → World → Prop}
    (hf : P.funcs[f]? = some fn) (hb : fn.body = some c) (svs : List SV) (A : List AE) (hargs : args = (svs.map (SV.den β0)).toArray) (hN : Nat.ble svs.length fn.ntmps = true)
    (hlt : LtAll svs) (hw : StW ⟨P, w, σ0, M, fn.ntmps, [], none⟩ σ [] A β0 w)
    (h : CJ ⟨P, w, σ0, M, fn.ntmps, [], none⟩ c (bodyPost P fn R) σ (argEnv 0 svs) [] A 0) : Calls P f args w R := by
  have hN := Nat.le_of_ble_eq_true hN
  have hlt := hlt.of
  refine calls_of_wp hf hb (wpR_none (h.run ⟨fun i x hx => ?_, fun _ _ _ h => by cases h⟩ _ β0 w ⟨?_, rfl, fun i x hx => ?_⟩ hw))
  · obtain ⟨_, h2⟩ := argEnv_get svs 0 i x hx
    exact hlt x (List.mem_of_getElem? h2)
  · subst hargs
    simp only [Array.size_append, List.size_toArray, List.length_map, Array.size_replicate]
    omega
  · obtain ⟨_, h2⟩ := argEnv_get svs 0 i x hx
    simp only [Nat.sub_zero] at h2
    subst hargs
    rw [Array.getElem?_append_left (by simp; exact (List.getElem?_eq_some_iff.1 h2).1)]
    simp [h2]

theorem enter_it {P : Program} {f : FuncId} {fn : Func} {c : Code} {svs : List SV} {l : Nat} {σ : Snap} {A : List AE} {Φ : Value → Snap → List AE → Prop}
    (hf : P.funcs[f]? = some fn) (hb : fn.body = some c) (hN : Nat.ble svs.length fn.ntmps = true) (hlt : LtAll svs)
    (h : ∀ w, CJ (cfL P w σ A l fn.ntmps none) c (bodyPost P fn (postI P w σ A l Φ)) σ (argEnv 0 svs) [] A 0) : IterC P f (svs.map (SV.den β0)).toArray l σ A Φ :=
  fun w hw => enter_raw hf hb svs A rfl hN hlt (hw.re _ _ _) (h w)

theorem nj_iret {P : Program} {w0 : World} {σ0 : Snap} {A0 : List AE} {l N : Nat} {T : List (Nat × TI)} (hT : TTok P T) {fn : Func} {Φ : Value → Snap → List AE → Prop} {σ : Snap} {env : Env} {hp : HP} {A : List AE} {nh : Nat}
    {xs : List S1} (hr : resL T env hp fn.results.toList = some xs) (h : ∀ β, Φ ((resSV xs).den β) σ A) :
    NJ (cfL P w0 σ0 A0 l N none) .ret (bodyPost P fn (postI P w0 σ0 A0 l Φ)) σ env hp A nh := ⟨fun hb _ β _ ha hw =>
  ⟨ha.defers, _, results_ok (cf := cfL P w0 σ0 A0 l N none) hT ha hb hw hr, _, σ, A, rfl, hw.bareM _ _ _ _, h β⟩⟩
theorem nj_iend {P : Program} {w0 : World} {σ0 : Snap} {A0 : List AE} {l N : Nat} {T : List (Nat × TI)} (hT : TTok P T) {fn : Func} {Φ : Value → Snap → List AE → Prop} {σ : Snap} {env : Env} {hp : HP} {A : List AE} {nh : Nat}
    {xs : List S1} (hr : resL T env hp fn.results.toList = some xs) (h : ∀ β, Φ ((resSV xs).den β) σ A) :
    NJ (cfL P w0 σ0 A0 l N none) .normal (bodyPost P fn (postI P w0 σ0 A0 l Φ)) σ env hp A nh := ⟨fun hb _ β _ ha hw =>
  ⟨ha.defers, _, results_ok (cf := cfL P w0 σ0 A0 l N none) hT ha hb hw hr, _, σ, A, rfl, hw.bareM _ _ _ _, h β⟩⟩

section
variable {cf : Cf} {Q : Exit → Act → World → Prop} {σ : Snap} {env : Env} {hp : HP} {A : List AE} {nh : Nat} {it : Item} {rest : List Item}

/-- Which record's yield is called, with which arguments. -/
def yieldee (env : Env) (op : Op) : Option (Nat × List SV) :=
  match op with
  | .call c =>
    match c.callee with
    | .value f =>
      match evalO env f, evalL env c.args.toList with
      | some (.a (.fn (.yield l) [])), some ys => some (l, ys)
      | _, _ => none
    | _ => none
  | _ => none

theorem yieldee_ok {β : Nat → Addr} {a : Act} {w : World} (ha : StA cf env β a) {o : Oper} {l : Nat} {ys : List SV} {r : Loop} (h : yieldee env o.op = some (l, ys)) (hl : w.heap[l]? = some (.loop r)) (hs : Nat.beq ys.length r.params.size = true) :
    (execOp a.eval o).run cf.P w = .ok (.round l r.fn ((r.params.zip (ys.map (SV.den β)).toArray).foldl (fun tmps (t, a) => tmps.setIfInBounds t a) r.tmps) r.assign r.body) w := by
  unfold yieldee at h
  split at h
  · rename_i c hop
    split at h
    · rename_i fo hcal
      split at h
      · rename_i g zs hf hz
        injection h with h
        simp only [Prod.mk.injEq] at h
        obtain ⟨rfl, rfl⟩ := h
        have h1 : a.eval fo = .func (.yield g) #[] #[] := evalO_eval ha hf
        have h2 : c.args.map a.eval = (zs.map (SV.den β)).toArray := by
          have := evalL_ok ha _ _ hz
          rw [← this, ← Array.toList_map]
        simp only [execOp, hop, resolve, hcal, h1, h2, Deferred.ofValue, Sem.run_bind, Sem.run_pure, Result.andThen_ok, invoke, Array.empty_append]
        exact run_yield hl (by simpa using hs)
      · cases h
    · cases h
  · cases h

/-- A call of yield. -/
theorem oj_yield {d l : Nat} {r : Loop} {ys : List SV} {Φ : Value → Snap → List AE → Prop} (is : List Nat) {A0 Ar : List AE} (hl : σ l = some (.loop r)) (h0 : cf.σ0 l = none) (hA : reA is A = A0 ++ Ar) (hn : nodupB is = true)
    (hc : yieldee env it.o.op = some (l, ys)) (hs : Nat.beq ys.length r.params.size = true) (hd : it.o.dst = some d) (hg : guardVal it.guard env = some true)
    (hN : Nat.blt d cf.N = true) (htag : canSink it.tag = true) (hlt : LtAll ys)
    (hC : RoundC cf.P l r (ys.map (SV.den β0)).toArray σ A0 Φ)
    (k : ∀ v σ' A', σ.leB l σ' → Φ v σ' A' → ∃ y : SV, y.lt 0 ∧ y.den β0 = v ∧ OJ cf rest Q σ' ((d, y) :: env) hp (A' ++ Ar) nh) : OJ cf (it :: rest) Q σ env hp A nh := by
  refine ⟨fun hb a β ha hex => ?_⟩
  have hN' : d < cf.N := by simpa [Nat.blt_eq] using hN
  have den0 : ∀ {y : SV}, y.lt 0 → y.den β = y.den β0 := fun hy => SV.den_congr (n := 0) (fun i hi => by omega) hy
  have hargs : (ys.map (SV.den β)).toArray = (ys.map (SV.den β0)).toArray := by
    rw [List.map_congr_left fun y hy => den0 (hlt.of y hy)]
  have key : ∀ w, StW cf σ hp A β w → ∀ Q', it.o.wq cf.P a w (fun a' w' => ∃ E' S' : World → Prop, S' w' ∧ (∀ x, S' x → E' x) ∧ RunT cf.P Q rest E' S' a') Q' := by
    intro w hw Q'
    have hw2 : StW cf σ hp (A0 ++ Ar) β w := by rw [← hA]; exact hw.reA hn
    unfold Oper.wq
    rw [yieldee_ok ha hc (hw.sealed _ _ hl) hs]
    simp only [Oper.uponIn]
    rw [hargs]
    refine ⟨fun h => (by cases h), RoundIn.mono (round_FR (hC w hw2.handInL)) fun e w' ⟨v, σ', A', he, h4, h5⟩ => ?_⟩
    subst he
    obtain ⟨y, hy, hyv, hk⟩ := k v σ' A' h4.le h5
    have hw' := hw2.throughL hl rfl h0 h4
    refine ⟨_, _, hw', fun _ h => h, ?_⟩
    have := hk.run (hb.put (SV.lt_mono (Nat.zero_le _) hy) d) (a.put (some d) (y.den β)) β (ha.put hN' y) ⟨_, hw'⟩
    rw [hd, ← hyv, ← den0 hy]
    exact this
  simp only [RunT]
  rw [if_pos (guardVal_ok ha hg)]
  cases htag' : it.tag with
  | pure => rw [htag'] at htag; cases htag
  | quiet => rw [htag'] at htag; cases htag
  | keep => rw [htag'] at htag; cases htag
  | sink => exact fun w hw => key w hw _
  | free => exact fun w hw => key w hw _
end

/-! ### A round -/

def parEnv : List Nat → List SV → Env → Env
  | p :: ps, y :: ys, env => parEnv ps ys ((p, y) :: env)
  | _, _, env => env

def allBlt (N : Nat) : List Nat → Bool
  | [] => true
  | p :: ps => Nat.blt p N && allBlt N ps

theorem StA.params {cf : Cf} : ∀ (ps : List Nat) (ys : List SV) (env : Env) (a : Act), ps.length = ys.length → allBlt cf.N ps = true → StA cf env β0 a →
    StA cf (parEnv ps ys env) β0 { a with tmps := (ps.zip (ys.map (SV.den β0))).foldl (fun tmps x => tmps.setIfInBounds x.1 x.2) a.tmps }
  | [], [], env, a, _, _, ha => ha
  | [], _ :: _, env, a, h, _, _ => by simp at h
  | _ :: _, [], env, a, h, _, _ => by simp at h
  | p :: ps, y :: ys, env, a, h, hN, ha => by
    simp only [allBlt, Bool.and_eq_true, Nat.blt_eq] at hN
    have := StA.params ps ys ((p, y) :: env) (a.put (some p) (y.den β0)) (by simpa using h) hN.2 (ha.put hN.1 y)
    exact this

theorem parEnv_lt {n : Nat} : ∀ (ps : List Nat) (ys : List SV) (env : Env), LtAll ys → EnvLt n env → EnvLt n (parEnv ps ys env)
  | [], [], _, _, h => h
  | [], _ :: _, _, _, h => h
  | _ :: _, [], _, _, h => h
  | _ :: ps, _ :: ys, _, hy, h => parEnv_lt ps ys _ hy.2 ⟨SV.lt_mono (Nat.zero_le _) hy.1, h⟩

/-- What is asked behind the assignment of a round. -/
def beginQ (P : Program) (l : Nat) (body : Code) (R : Ending → World → Prop) : Exit → Act → World → Prop :=
  Exit.then (fun a w => ∃ w', (Instr.beginRound l).run P w = .ok () w' ∧ body.wpIn (FR (some l)) 0 P (roundPost P l R) a w') (fun _ _ _ => False)

/-- A ROUND, out of its body. -/
theorem roundC_of {P : Program} {l : Nat} {r : Loop} {ys : List SV} {σ : Snap} {A : List AE} {Φ : Value → Snap → List AE → Prop} {N : Nat} {env : Env} (hsz : r.tmps.size = N) (henv : ∀ i x, env.get i = some x → r.tmps[i]? = some (x.den β0))
    (ps : List Nat) (hps : r.params = ps.toArray) (hlen : Nat.beq ps.length ys.length = true) (hpN : allBlt N ps = true) (hlt : LtAll ys) (he : EnvLt 0 env)
    (h : ∀ w, CJ (cfL P w σ A l N (some l)) r.assign (beginQ P l r.body (postI P w σ A l Φ)) σ (parEnv ps ys env) [] A 0) : RoundC P l r (ys.map (SV.den β0)).toArray σ A Φ := by
  intro w hw
  refine round_FR (rd := none) (n := 0) (roundIn_of_wpIn (F := FR none) trivial ?_)
  have ha : StA (cfL P w σ A l N (some l)) env β0 ⟨r.tmps, []⟩ := ⟨hsz, rfl, henv⟩
  have ha' := ha.params ps ys env ⟨r.tmps, []⟩ (Nat.eq_of_beq_eq_true hlen) hpN
  have hz : (r.params.zip (ys.map (SV.den β0)).toArray).foldl (fun tmps (x : Nat × Value) => tmps.setIfInBounds x.1 x.2) r.tmps = (ps.zip (ys.map (SV.den β0))).foldl (fun tmps x => tmps.setIfInBounds x.1 x.2) r.tmps := by
    rw [hps, ← Array.foldl_toList]
    simp
  have hrun := (h w).run (Bd.of (parEnv_lt ps ys env hlt he) trivial) _ β0 w ha' (hw.re _ _ _)
  rw [← hz] at hrun
  exact hrun

section
variable {P : Program} {w0 : World} {σ0 : Snap} {A0 : List AE} {l N : Nat} {σ : Snap} {env : Env} {hp : HP} {A : List AE} {nh : Nat} {r : Loop}

/-- The round begins. -/
theorem nj_begin {body : Code} {R : Ending → World → Prop} (hl : σ l = some (.loop r)) (hr : r.state = .ready) (h0 : σ0.set l none l = none)
    (h : CJ (cfL P w0 σ0 A0 l N (some l)) body (roundPost P l R) (σ.set l (some (.loop { r with state := .busy }))) env hp A nh) : NJ (cfL P w0 σ0 A0 l N (some l)) .normal (beginQ P l body R) σ env hp A nh := by
  refine ⟨fun hb a β w ha hw => ⟨_, run_beginRound (hw.sealed _ _ hl) hr, h.run hb a β _ ha ?_⟩⟩
  exact hw.turn hl rfl rfl h0

theorem nj_rndN {Φ : Value → Snap → List AE → Prop} (hl : σ l = some (.loop r)) (h : Φ (.bool true) (σ.set l (some (.loop { r with state := .ready, pending := none }))) A) :
    NJ (cfL P w0 σ0 A0 l N (some l)) .normal (roundPost P l (postI P w0 σ0 A0 l Φ)) σ env hp A nh :=
  ⟨fun _ _ _ _ _ hw => ⟨_, _, run_endRound none (hw.sealed _ _ hl), _, _, A, rfl, (hw.turn hl rfl rfl (Snap.set_self ..)).bareM _ _ _ _, h⟩⟩
theorem nj_rndR {Φ : Value → Snap → List AE → Prop} (hl : σ l = some (.loop r)) (h : Φ (.bool false) (σ.set l (some (.loop { r with state := .done, pending := some .ret }))) A) :
    NJ (cfL P w0 σ0 A0 l N (some l)) .ret (roundPost P l (postI P w0 σ0 A0 l Φ)) σ env hp A nh :=
  ⟨fun _ _ _ _ _ hw => ⟨_, _, run_endRound (some .ret) (hw.sealed _ _ hl), _, _, A, rfl, (hw.turn hl rfl rfl (Snap.set_self ..)).bareM _ _ _ _, h⟩⟩
theorem nj_rndX {id : Nat} {Φ : Value → Snap → List AE → Prop} (hl : σ l = some (.loop r)) (h : Φ (.bool false) (σ.set l (some (.loop { r with state := .done, pending := some (.exit id) }))) A) :
    NJ (cfL P w0 σ0 A0 l N (some l)) (.exit id) (roundPost P l (postI P w0 σ0 A0 l Φ)) σ env hp A nh :=
  ⟨fun _ _ _ _ _ hw => ⟨_, _, run_endRound (some (.exit id)) (hw.sealed _ _ hl), _, _, A, rfl, (hw.turn hl rfl rfl (Snap.set_self ..)).bareM _ _ _ _, h⟩⟩
end

/-! ### The loop -/

abbrev markD (D : Nat) : Deferred := { target := .collected D, args := #[] }

/-- 'for .. := range g': an outermost one. -/
theorem cj_rangeFunc {P : Program} {w0 : World} {σ0 : Snap} {M : Nat → Prop} {N : Nat} {ds : List Deferred} {Q : Exit → Act → World → Prop} {σ : Snap} {env : Env} {hp : HP} {A : List AE} {nh : Nat}
    {g : Operand} {ps : Array Tmp} {assign body : Code} {gf : FuncId} {caps : List PT} (is : List Nat) {A0 Ar : List AE} (hA : reA is A = A0 ++ Ar) (hn : nodupB is = true)
    (hg : evalO env g = some (.a (.fn (.func gf) caps))) (hcap : LtAll (caps.map ptSV)) (hlt : EnvLt 0 env) (hcall : ∀ args w, (callFunc gf args).run P w = .ok (.enter gf args) w)
    (Φ : Nat → Nat → Loop → Value → Snap → List AE → Prop)
    (hit : ∀ (fid D l : Nat) (tmps : Array Value), tmps.size = N → (∀ i x, env.get i = some x → tmps[i]? = some (x.den β0)) → D ≠ l → σ D = none → σ l = none → σ0 l = none →
      IterC P gf (((.a (.fn (.yield l) []) :: caps.map ptSV).map (SV.den β0)).toArray) l ((σ.set D (some (.deferred (some [])))).set l (some (.loop ⟨.ready, none, fid, tmps, ps, assign, body, D⟩))) A0 (Φ D l ⟨.ready, none, fid, tmps, ps, assign, body, D⟩))
    (k : ∀ (D l : Nat) (r : Loop) (v : Value) (σ' : Snap) (A' : List AE), Φ D l r v σ' A' → σ0 D = none → σ0 l = none → σ' D = some (.deferred (some [])) → σ.cle σ' → (∀ b o, b ≠ D → b ≠ l → σ b = some o → σ' b = some o) →
      ∃ r', σ' l = some (.loop r') ∧ r'.state ≠ .busy ∧ (match r'.pending with
        | none => NJ ⟨P, w0, σ0, M, N, markD D :: ds, none⟩ .normal Q (σ'.set l none) env hp (A' ++ Ar) nh
        | some c => CJ ⟨P, w0, σ0, M, N, markD D :: ds, none⟩ c Q (σ'.set l none) env hp (A' ++ Ar) nh)) :
    CJ ⟨P, w0, σ0, M, N, ds, none⟩ (.rangeFunc g ps assign body) Q σ env hp A nh := by
  refine ⟨fun hb a β w ha hw => ?_⟩
  have hw2 : StW ⟨P, w0, σ0, M, N, ds, none⟩ σ hp (A0 ++ Ar) β w := by rw [← hA]; exact hw.reA hn
  refine wpIn_rangeFunc fun fid _ => ?_
  have hev : a.eval g = .func (.func gf) #[] (caps.map (PT.den β)).toArray := evalO_eval ha hg
  have hcd : caps.map (PT.den β) = (caps.map ptSV).map (SV.den β0) := by
    rw [List.map_map]
    refine List.map_congr_left fun p hp => ?_
    show p.den β = (ptSV p).den β0
    rw [← ptSV_den β p]
    exact SV.den_congr (n := 0) (fun i hi => by omega) (hcap.of _ (List.mem_map.2 ⟨p, hp, rfl⟩))
  obtain ⟨hD, hwD⟩ := hw2.lay (o := .deferred (some [])) rfl
  obtain ⟨hl, hwl⟩ := hwD.lay (o := .loop ⟨.ready, none, fid, a.tmps, ps, assign, body, w.heap.size⟩) rfl
  have hsz1 : (w.alloc (.deferred (some []))).heap.size = w.heap.size + 1 := Array.size_push ..
  have hne : w.heap.size ≠ (w.alloc (.deferred (some []))).heap.size := by omega
  have hl' : σ (w.alloc (.deferred (some []))).heap.size = none := by rw [← hl, Snap.set_ne (Ne.symm hne)]
  have h0D : σ0 w.heap.size = none := Snap.none_of_le hw2.le hD
  have h0l : σ0 (w.alloc (.deferred (some []))).heap.size = none := Snap.none_of_le hw2.le hl'
  let w1 := (w.alloc (.deferred (some []))).alloc (.loop ⟨.ready, none, fid, a.tmps, ps, assign, body, w.heap.size⟩)
  refine ⟨(w.alloc (.deferred (some []))).heap.size, [markD w.heap.size], w1, ⟨.fn (.func gf) (caps.map (PT.den β)).toArray, #[.func (.yield (w.alloc (.deferred (some []))).heap.size) #[] #[]]⟩, w1, gf,
    #[.func (.yield (w.alloc (.deferred (some []))).heap.size) #[] #[]] ++ (caps.map (PT.den β)).toArray, w1, ?_, ?_, fun _ _ => trivial, ?_, fun h => (by cases h), ?_⟩
  · rw [hsz1]; exact run_enterLoop_outer fid a.tmps ps assign body
  · show (resolve a.eval (rangeCall g _) 0).run P _ = _
    simp only [resolve, hev, Deferred.ofValue, Sem.run_pure, Array.empty_append]
    simp [Act.eval]
  · show (invoke (.fn (.func gf) _) _).run P _ = _
    simp only [invoke]
    exact hcall _ _
  · have henv : ∀ i x, env.get i = some x → a.tmps[i]? = some (x.den β0) := fun i x hx => by
      rw [ha.env i x hx]
      congr 1
      exact SV.den_congr (n := 0) (fun i hi => by omega) ((Bd.of (hp := []) hlt trivial).env i x hx)
    have hI := hit fid w.heap.size (w.alloc (.deferred (some []))).heap.size a.tmps ha.size henv hne hD hl' h0l
    have hargs : (#[.func (.yield (w.alloc (.deferred (some []))).heap.size) #[] #[]] ++ (caps.map (PT.den β)).toArray : Array Value) = (((.a (.fn (.yield (w.alloc (.deferred (some []))).heap.size) []) :: caps.map ptSV).map (SV.den β0)).toArray) := by
      rw [hcd]
      simp [SV.den, AT.den]
    rw [hargs]
    refine callsIn_FR.2 (Calls.mono (hI _ hwl.handInL) ?_)
    rintro e w' ⟨v, σ', A', rfl, h4, h5⟩
    have hσl : ((σ.set w.heap.size (some (.deferred (some [])))).set (w.alloc (.deferred (some []))).heap.size (some (.loop ⟨.ready, none, fid, a.tmps, ps, assign, body, w.heap.size⟩))) (w.alloc (.deferred (some []))).heap.size = some (.loop ⟨.ready, none, fid, a.tmps, ps, assign, body, w.heap.size⟩) := Snap.set_self ..
    have hw' := hwl.throughL hσl rfl h0l h4
    have hle : ∀ b o, b ≠ w.heap.size → b ≠ (w.alloc (.deferred (some []))).heap.size → σ b = some o → σ' b = some o := fun b o h1 h2 h3 => h4.le b o (by
      show Snap.set _ _ none b = some o
      rw [Snap.set_ne h2, Snap.set_ne h2, Snap.set_ne h1]; exact h3)
    have hσD : σ' w.heap.size = some (.deferred (some [])) := h4.le _ _ (by
      show Snap.set _ _ none _ = _
      rw [Snap.set_ne hne, Snap.set_ne hne, Snap.set_self])
    have hcle : σ.cle σ' := by
      intro ad x hx
      refine Snap.le.cell h4.le ?_
      show Snap.cell (Snap.set _ _ none) ad = _
      rw [Snap.cell_set (fun o e => by rw [Snap.set_self] at e; injection e with e; subst e; rfl) (fun _ e => by cases e), Snap.cell_set (fun o e => by rw [Snap.set_ne (Ne.symm hne), hl'] at e; cases e) (fun o e => by injection e with e; subst e; rfl),
        Snap.cell_set (fun o e => by rw [hD] at e; cases e) (fun o e => by injection e with e; subst e; rfl)]
      exact hx
    obtain ⟨r', hr1, hr2, hk⟩ := k _ _ _ v σ' A' h5 h0D h0l hσD hcle hle
    have hfin := hw'.swap (w' := w'.putObj (w.alloc (.deferred (some []))).heap.size (.loop { r' with state := .exhausted })) none (hw'.sealed _ _ hr1) rfl h0l (hw'.own_of hr1 h0l) rfl rfl rfl (by simp) (fun c hc => World.putObj_heap_other hc) fun _ e => (by cases e)
    refine ⟨r'.pending, _, run_endLoop (hw'.sealed _ _ hr1) hr2, ?_⟩
    generalize w'.putObj (w.alloc (.deferred (some []))).heap.size (.loop { r' with state := .exhausted }) = wf at hfin
    have ha2 : StA ⟨P, w0, σ0, M, N, markD w.heap.size :: ds, none⟩ env β { a with defers := [markD w.heap.size] ++ a.defers } := ⟨ha.size, by show _ ++ a.defers = _; rw [ha.defers]; rfl, ha.env⟩
    cases hp' : r'.pending with
    | none =>
      rw [hp'] at hk
      exact hk.run hb _ β _ ha2 (hfin.re _ _ _)
    | some c =>
      rw [hp'] at hk
      exact hk.run hb _ β _ ha2 (hfin.re _ _ _)

/-! ### A function that holds such a loop -/

theorem enter_m {P : Program} {f : FuncId} {fn : Func} {c : Code} {args : Array Value} {w : World} {M : Nat → Prop} {σ0 σ : Snap} {R : Ending → World → Prop}
    (hf : P.funcs[f]? = some fn) (hb : fn.body = some c) (svs : List SV) (A : List AE) (hargs : args = (svs.map (SV.den β0)).toArray) (hN : Nat.ble svs.length fn.ntmps = true)
    (hlt : LtAll svs) (hw : StW ⟨P, w, σ0, M, fn.ntmps, [], none⟩ σ [] A β0 w)
    (h : CJ ⟨P, w, σ0, M, fn.ntmps, [], none⟩ c (bodyPostM (FR none) 0 P fn R) σ (argEnv 0 svs) [] A 0) : Calls P f args w R := by
  have hN := Nat.le_of_ble_eq_true hN
  have hlt := hlt.of
  refine callsIn_FR.1 (callsIn_of_wp_marks (F := FR none) (n := 0) hf hb trivial (h.run ⟨fun i x hx => ?_, fun _ _ _ h => by cases h⟩ _ β0 w ⟨?_, rfl, fun i x hx => ?_⟩ hw))
  · obtain ⟨_, h2⟩ := argEnv_get svs 0 i x hx
    exact hlt x (List.mem_of_getElem? h2)
  · subst hargs
    simp only [Array.size_append, List.size_toArray, List.length_map, Array.size_replicate]
    omega
  · obtain ⟨_, h2⟩ := argEnv_get svs 0 i x hx
    simp only [Nat.sub_zero] at h2
    subst hargs
    rw [Array.getElem?_append_left (by simp; exact (List.getElem?_eq_some_iff.1 h2).1)]
    simp [h2]

theorem enter_mp {P : Program} {f : FuncId} {fn : Func} {c : Code} {svs : List SV} {σ : Snap} {Φ : Value → Prop}
    (hf : P.funcs[f]? = some fn) (hb : fn.body = some c) (hN : Nat.ble svs.length fn.ntmps = true) (hlt : LtAll svs)
    (h : ∀ w, CJ ⟨P, w, σ, fun _ => False, fn.ntmps, [], none⟩ c (bodyPostM (FR none) 0 P fn (postR w (fun _ => False) σ (fun v _ _ => Φ v))) σ (argEnv 0 svs) [] [] 0) : PlainS P f svs σ Φ :=
  fun w hs => enter_m hf hb svs [] rfl hN hlt (StW.start hs β0) (h w)

section
variable {P : Program} {w0 : World} {σ0 : Snap} {M : Nat → Prop} {N : Nat} {T : List (Nat × TI)} {fn : Func} {Post : Value → World → Snap → Prop} {σ : Snap} {env : Env} {hp : HP} {A : List AE} {nh : Nat} {xs : List S1}

/-- It returns ahead of the loop. -/
theorem nj_mret0 (hT : TTok P T) (hr : resL T env hp fn.results.toList = some xs) (h : ∀ β w, Bd env hp nh → StW ⟨P, w0, σ0, M, N, [], none⟩ σ hp A β w → Post ((resSV xs).den β) w σ) :
    NJ ⟨P, w0, σ0, M, N, [], none⟩ .ret (bodyPostM (FR none) 0 P fn (postR w0 M σ0 Post)) σ env hp A nh := ⟨fun hb a β w ha hw => by
  show LeavesInM (FR none) 0 P fn a.tmps _ a.defers .returning w
  rw [ha.defers]
  exact ⟨_, results_ok (cf := ⟨P, w0, σ0, M, N, [], none⟩) hT ha hb hw hr, _, σ, rfl, Fr.of hw, SGrow.of hw, hw.sealed, h β w hb hw⟩⟩
/-- It returns behind the loop. -/
theorem nj_mret1 {D : Nat} (hD : σ D = some (.deferred (some []))) (h0 : σ0 D = none) (hT : TTok P T) (hr : resL T env hp fn.results.toList = some xs) (h : ∀ β w, Bd env hp nh → StW ⟨P, w0, σ0, M, N, [], none⟩ (σ.set D none) hp A β w → Post ((resSV xs).den β) w (σ.set D none)) :
    NJ ⟨P, w0, σ0, M, N, [markD D], none⟩ .ret (bodyPostM (FR none) 0 P fn (postR w0 M σ0 Post)) σ env hp A nh := ⟨fun hb a β w ha hw => by
  show LeavesInM (FR none) 0 P fn a.tmps _ a.defers .returning w
  rw [ha.defers]
  have hfin : StW ⟨P, w0, σ0, M, N, [], none⟩ (σ.set D none) hp A β (w.putObj D (.deferred none)) := (hw.swap (w' := w.putObj D (.deferred none)) none (hw.sealed _ _ hD) rfl h0 (hw.own_of hD h0) rfl rfl rfl (by simp) (fun c hc => World.putObj_heap_other hc) fun _ e => (by cases e)).re _ _ _
  have ha' : StA ⟨P, w0, σ0, M, N, [], none⟩ env β ⟨a.tmps, []⟩ := ⟨ha.size, rfl, ha.env⟩
  refine ⟨by simp, .inl ⟨D, _, rfl, run_takeDeferred (hw.sealed _ _ hD), _, results_ok (cf := ⟨P, w0, σ0, M, N, [], none⟩) hT ha' hb hfin hr, _, σ.set D none, rfl, Fr.of hfin, SGrow.of hfin, hfin.sealed, h β _ hb hfin⟩⟩⟩
/-- It ends behind the loop. -/
theorem nj_mend1 {D : Nat} (hD : σ D = some (.deferred (some []))) (h0 : σ0 D = none) (hT : TTok P T) (hr : resL T env hp fn.results.toList = some xs) (h : ∀ β w, Bd env hp nh → StW ⟨P, w0, σ0, M, N, [], none⟩ (σ.set D none) hp A β w → Post ((resSV xs).den β) w (σ.set D none)) :
    NJ ⟨P, w0, σ0, M, N, [markD D], none⟩ .normal (bodyPostM (FR none) 0 P fn (postR w0 M σ0 Post)) σ env hp A nh := ⟨(nj_mret1 hD h0 hT hr h).run⟩
end

/-! ### Tuples -/

def AllS1 (n : Nat) : List S1 → Prop
  | [] => True
  | x :: l => x.lt n ∧ AllS1 n l
theorem SV.lt_tup {n : Nat} : ∀ {l : List S1}, AllS1 n l → (SV.tup l).lt n
  | [], _ => fun _ h => (by cases h)
  | y :: l, h => fun x hx => by
    cases hx with
    | head => exact h.1
    | tail _ hx => exact SV.lt_tup h.2 x hx
end Go.Sy
