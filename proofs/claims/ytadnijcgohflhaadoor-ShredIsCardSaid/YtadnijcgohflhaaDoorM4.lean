/- Parts of the proof of CShredIs: SyO, SyP, Tab, F1. No conditions. -/
import Derived.Test.YtadnijcgohflhaaDoorM3
import Derived.RangeFuncRecord
import Derived.Test.YtadnijcgohflhaaDoorProg
import Derived.KernelRfl
/- Rounds: loops over functions. No program in sight. -/
namespace Go.Sy

/-! ### What is handed to a function that is ranged over, and to a round -/

def Snap.leB (l : Nat) (σ σ' : Snap) : Prop := (σ.set l none).le σ'

theorem Snap.leB.cle {l : Nat} {σ σ' : Snap} {r : Loop} (h : σ.leB l σ') (hl : σ l = some (.loop r)) : σ.cle σ' := by
  intro a v hv
  refine Snap.le.cell h ?_
  rw [Snap.cell_set (fun o e => by rw [hl] at e; injection e with e; subst e; rfl) (fun _ e => by cases e)]
  exact hv
theorem Snap.leB.at_ {l : Nat} {σ σ' : Snap} (h : σ.leB l σ') {b : Nat} {o : Obj} (hb : b ≠ l) (ho : σ b = some o) : σ' b = some o := h b o (by rw [Snap.set_ne hb]; exact ho)

/-- A call's own, at its start, where the record l may turn. -/
abbrev cfL (P : Program) (w : World) (σ : Snap) (A : List AE) (l : Nat) (N : Nat) (rd : Option Nat) : Cf := ⟨P, w, σ.set l none, fun b => blks A b ∨ b = l, N, [], rd⟩

def postI (P : Program) (w : World) (σ : Snap) (A : List AE) (l : Nat) (Φ : Value → Snap → List AE → Prop) : Ending → World → Prop :=
  fun e w' => ∃ v σ' A', e = .returned v ∧ StW (cfL P w σ A l 0 none) σ' [] A' β0 w' ∧ Φ v σ' A'

/-- ONE ROUND: what yield does. -/
def RoundC (P : Program) (l : Nat) (r : Loop) (args : Array Value) (σ : Snap) (A : List AE) (Φ : Value → Snap → List AE → Prop) : Prop :=
  ∀ w, StW (cfL P w σ A l 0 none) σ [] A β0 w → RoundIn (FR none) 0 P l r.fn ((r.params.zip args).foldl (fun tmps (t, a) => tmps.setIfInBounds t a) r.tmps) r.assign r.body w (postI P w σ A l Φ)

/-- THE FUNCTION THAT IS RANGED OVER. -/
def IterC (P : Program) (f : FuncId) (args : Array Value) (l : Nat) (σ : Snap) (A : List AE) (Φ : Value → Snap → List AE → Prop) : Prop :=
  ∀ w, StW (cfL P w σ A l 0 none) σ [] A β0 w → Calls P f args w (postI P w σ A l Φ)

section
variable {cf : Cf} {σ : Snap} {hp : HP} {A : List AE} {β : Nat → Addr} {w : World}

theorem StW.bareM {P : Program} {w0 w : World} {σ0 σ : Snap} {M : Nat → Prop} {N : Nat} {ds : List Deferred} {rd : Option Nat} {hp : HP} {A : List AE} {β : Nat → Addr} (h : StW ⟨P, w0, σ0, M, N, ds, rd⟩ σ hp A β w) (N' : Nat) (ds' : List Deferred) (rd' : Option Nat) (β' : Nat → Addr) :
    StW ⟨P, w0, σ0, M, N', ds', rd'⟩ σ [] A β' w where
  os := h.os
  tape := h.tape
  output := h.output
  size := h.size
  fr := h.fr
  sealed := h.sealed
  le := h.le
  grow := h.grow
  loc := fun _ _ _ h => by cases h
  ro := fun _ _ h => by cases h
  inj := fun _ _ _ _ _ _ h => by cases h
  arr := fun i E hE => h.arr i E hE
  arrd := h.arrd
  arrh := fun _ _ _ _ _ _ h => by cases h

theorem StW.re {P : Program} {w0 w : World} {σ0 σ : Snap} {M : Nat → Prop} {N : Nat} {ds : List Deferred} {rd : Option Nat} {hp : HP} {A : List AE} {β : Nat → Addr} (h : StW ⟨P, w0, σ0, M, N, ds, rd⟩ σ hp A β w) (N' : Nat) (ds' : List Deferred) (rd' : Option Nat) :
    StW ⟨P, w0, σ0, M, N', ds', rd'⟩ σ hp A β w :=
  ⟨h.os, h.tape, h.output, h.size, h.fr, h.sealed, h.le, h.grow, h.loc, h.ro, h.inj, h.arr, h.arrd, h.arrh⟩

theorem StW.handInL {l : Nat} {A0 Ar : List AE} (h : StW cf σ hp (A0 ++ Ar) β w) : StW (cfL cf.P w σ A0 l 0 none) σ [] A0 β0 w where
  os := rfl
  tape := rfl
  output := rfl
  size := Nat.le_refl _
  fr := fun _ _ _ => rfl
  sealed := h.sealed
  le := fun b o (hb : σ.set l none b = some o) => by
    by_cases hbl : b = l
    · subst hbl; rw [Snap.set_self] at hb; cases hb
    · rw [Snap.set_ne hbl] at hb; exact hb
  grow := fun b hb => by
    by_cases hbl : b = l
    · exact .inr (.inr (.inr hbl))
    · left; show σ.set l none b ≠ none; rw [Snap.set_ne hbl]; exact hb
  loc := fun _ _ _ h => by cases h
  ro := fun _ _ h => by cases h
  inj := fun _ _ _ _ _ _ h => by cases h
  arr := fun i E hE => by
    have hlt := (List.getElem?_eq_some_iff.1 hE).1
    obtain ⟨h1, h2⟩ := h.arr i E (by rw [List.getElem?_append_left hlt]; exact hE)
    refine ⟨h1, h2.imp id ?_⟩
    rintro ⟨g, cur, h3, h4, h5, h6, h7, h8, h9, h10⟩
    exact ⟨g, cur, h3, h4, h5, h6, h7, h8, h9, .inr (.inl ⟨E, List.mem_of_getElem? hE, by simp [AE.blk, h3]⟩)⟩
  arrd := fun i j E F hE hF hij => by
    have hi := (List.getElem?_eq_some_iff.1 hE).1
    have hj := (List.getElem?_eq_some_iff.1 hF).1
    exact h.arrd i j E F (by rw [List.getElem?_append_left hi]; exact hE) (by rw [List.getElem?_append_left hj]; exact hF) hij
  arrh := fun _ _ _ _ _ _ h => by cases h

/-- What is kept through such a call. -/
theorem StW.throughL {w' : World} {σ' : Snap} {l : Nat} {o : Obj} {A0 Ar A1 : List AE} (h : StW cf σ hp (A0 ++ Ar) β w) (hl : σ l = some o) (ho : nocell o = true) (h0 : cf.σ0 l = none)
    (h' : StW (cfL cf.P w σ A0 l 0 none) σ' [] A1 β0 w') : StW cf σ' hp (A1 ++ Ar) β w' := by
  have hlw := h.sealed _ _ hl
  have hlo := h.own_of hl h0
  have hcells : ∀ {c : Nat} {cs : Array Value} {e : TypeId} {f : Nat × Nat}, w.heap[c]? = some (.cells cs e f) → c ≠ l := fun hc e => by subst e; rw [hlw] at hc; injection hc with hc; subst hc; cases ho
  have hin0 : ∀ {E}, E ∈ A0 → ∃ i, (A0 ++ Ar)[i]? = some E ∧ i < A0.length := by
    intro E hE
    obtain ⟨i, hi⟩ := List.getElem?_of_mem hE
    have hlt := (List.getElem?_eq_some_iff.1 hi).1
    exact ⟨i, by rw [List.getElem?_append_left hlt]; exact hi, hlt⟩
  have hblk : ∀ {b}, blks A0 b → ∃ i E, (A0 ++ Ar)[i]? = some E ∧ E.blk = some b ∧ i < A0.length := by
    rintro b ⟨E, hE, hb⟩
    obtain ⟨i, hi, hlt⟩ := hin0 hE
    exact ⟨i, E, hi, hb, hlt⟩
  have hown : ∀ {b}, (blks A0 b ∨ b = l) → Own cf b := by
    rintro b (hb | hb)
    · obtain ⟨i, E, hi, hE, _⟩ := hblk hb
      exact ((h.arr i E hi).lt hE).2.2
    · subst hb; exact hlo
  have hold : ∀ b, b < w.heap.size → ¬ (blks A0 b ∨ b = l) → w'.heap[b]? = w.heap[b]? := h'.fr
  have hσ : ∀ b, b < w.heap.size → ¬ (blks A0 b ∨ b = l) → σ b = none → σ' b = none := by
    intro b hb hnb hn
    cases hb' : σ' b with
    | none => rfl
    | some o =>
      rcases h'.grow b (by rw [hb']; simp) with h1 | h1 | h1
      · have h1 : σ.set l none b ≠ none := h1
        exact absurd hn (by rw [Snap.set_ne (fun e => hnb (.inr e))] at h1; exact h1)
      · have : w.heap.size ≤ b := h1
        omega
      · exact absurd h1 hnb
  have hold' : ∀ {b}, Own (cfL cf.P w σ A0 l 0 none) b → Own cf b := by
    rintro b (h1 | h1)
    · exact .inl (Nat.le_trans h.size h1)
    · exact hown h1
  have hget : ∀ {j : Nat} {E : AE}, (A1 ++ Ar)[j]? = some E → (j < A1.length ∧ A1[j]? = some E) ∨ (A1.length ≤ j ∧ (A0 ++ Ar)[A0.length + (j - A1.length)]? = some E) := by
    intro j E hj
    by_cases hlt : j < A1.length
    · rw [List.getElem?_append_left hlt] at hj; exact .inl ⟨hlt, hj⟩
    · rw [List.getElem?_append_right (by omega)] at hj
      refine .inr ⟨by omega, ?_⟩
      rw [List.getElem?_append_right (by omega), Nat.add_sub_cancel_left]; exact hj
  have hnew : ∀ {E : AE} {j : Nat} {b : Nat}, A1[j]? = some E → E.blk = some b → w.heap.size ≤ b ∨ (blks A0 b ∨ b = l) := by
    intro E j b hE hb
    rcases ((h'.arr j E hE).lt hb).2.2 with h1 | h1
    · exact .inl h1
    · exact .inr h1
  have hkept : ∀ {F : AE} {k : Nat} {b : Nat}, A0.length ≤ k → (A0 ++ Ar)[k]? = some F → F.blk = some b → b < w.heap.size ∧ ¬ (blks A0 b ∨ b = l) := by
    intro F k b hk hF hb
    refine ⟨((h.arr k F hF).lt hb).1, ?_⟩
    rintro (hc | hc)
    · obtain ⟨i, E, hi, hE, hlt⟩ := hblk hc
      exact h.arrd i k E F hi hF (by omega) b hE hb
    · subst hc
      obtain ⟨_, h2⟩ := h.arr k F hF
      rcases h2 with ⟨h3, _⟩ | ⟨g, cur, h3, h4, _⟩
      · simp [AE.blk, h3] at hb
      · simp only [AE.blk, h3, Option.map_some, Option.some.injEq] at hb
        subst hb
        exact hcells h4 rfl
  have hcle : σ.cle σ' := by
    intro a v hv
    refine Snap.le.cell h'.le ?_
    rw [Snap.cell_set (h.nocell_of hlw ho) (fun _ e => by cases e)]
    exact hv
  refine ⟨h'.os.trans h.os, h'.tape.trans h.tape, h'.output.trans h.output, Nat.le_trans h.size h'.size, fun b hb hm => ?_, h'.sealed, fun b o hb => h'.le b o ?_, fun b hb => ?_, fun i e cs hi => ?_, fun i cs hi j c hc => hcle _ _ (h.ro i cs hi j c hc), h.inj, fun i E hE => ?_,
    fun i j E F hE hF hij => ?_, fun i j E e cs hE hj => ?_⟩
  · have hnb : ¬ (blks A0 b ∨ b = l) := fun hc => by
      rcases hown hc with h1 | h1
      · omega
      · exact hm h1
    rw [hold b (Nat.lt_of_lt_of_le hb h.size) hnb]; exact h.fr b hb hm
  · have hbl : b ≠ l := fun e => by subst e; rw [h0] at hb; cases hb
    show (σ.set l none) b = some o
    rw [Snap.set_ne hbl]; exact h.le b o hb
  · rcases h'.grow b hb with h1 | h1
    · refine h.grow b fun hn => h1 ?_
      show (σ.set l none) b = none
      by_cases hbl : b = l
      · subst hbl; exact Snap.set_self ..
      · rw [Snap.set_ne hbl]; exact hn
    · exact .inr (hold' h1)
  · obtain ⟨h1, h2, h3, h4⟩ := h.loc i e cs hi
    have hlt := (Array.getElem?_eq_some_iff.1 h2).1
    have hnb : ¬ (blks A0 (β i).block ∨ (β i).block = l) := by
      rintro (hc | hc)
      · obtain ⟨k, E, hk, hE, _⟩ := hblk hc
        exact h.arrh k i E e cs hk hi hE
      · exact hcells h2 hc
    exact ⟨h1, by rw [hold _ hlt hnb]; exact h2, hσ _ hlt hnb h3, h4⟩
  · rcases hget hE with ⟨_, hE'⟩ | ⟨hle, hE'⟩
    · obtain ⟨h1, h2⟩ := h'.arr i E hE'
      refine ⟨h1, h2.imp id ?_⟩
      rintro ⟨g, cur, h3, h4, h5, h6, h7, h8, h9, h10⟩
      exact ⟨g, cur, h3, h4, h5, h6, h7, h8, h9, hold' h10⟩
    · obtain ⟨h1, h2⟩ := h.arr _ E hE'
      refine ⟨h1, h2.imp id ?_⟩
      rintro ⟨g, cur, h3, h4, h5, h6, h7, h8, h9, h10⟩
      obtain ⟨hlt, hnb⟩ := hkept (by omega) hE' (b := g) (by simp [AE.blk, h3])
      exact ⟨g, cur, h3, by rw [hold g hlt hnb]; exact h4, h5, h6, h7, h8, hσ g hlt hnb h9, h10⟩
  · intro b hEb hFb
    rcases hget hE with ⟨hi, hE'⟩ | ⟨hi, hE'⟩ <;> rcases hget hF with ⟨hj, hF'⟩ | ⟨hj, hF'⟩
    · exact h'.arrd i j E F hE' hF' hij b hEb hFb
    · obtain ⟨hlt, hnb⟩ := hkept (by omega) hF' hFb
      rcases hnew hE' hEb with h1 | h1
      · omega
      · exact hnb h1
    · obtain ⟨hlt, hnb⟩ := hkept (by omega) hE' hEb
      rcases hnew hF' hFb with h1 | h1
      · omega
      · exact hnb h1
    · exact h.arrd _ _ E F hE' hF' (by omega) b hEb hFb
  · intro hb
    obtain ⟨h1, h2, h3, h4⟩ := h.loc j e cs hj
    have hlt := (Array.getElem?_eq_some_iff.1 h2).1
    rcases hget hE with ⟨_, hE'⟩ | ⟨_, hE'⟩
    · rcases hnew hE' hb with h5 | h5 | h5
      · omega
      · obtain ⟨k, G, hk, hG, _⟩ := hblk h5
        exact h.arrh k j G e cs hk hj hG
      · exact hcells h2 h5
    · exact h.arrh _ j E e cs hE' hj hb
end

/-! ### The function that is ranged over -/

/-- Entering, whatever is asked at the end. -/
theorem enter_raw {P : Program} {f : FuncId} {fn : Func} {c : Code} {args : Array Value} {w : World} {M : Nat → Prop} {σ0 σ : Snap} {R : Ending → World → Prop}
    (hf : P.funcs[f]? = some fn) (hb : fn.body = some c) (svs : List SV) (A : List AE) (hargs : args = (svs.map (SV.den β0)).toArray) (hN : Nat.ble svs.length fn.ntmps = true)
    (hlt : LtAll svs) (hw : StW ⟨P, w, σ0, M, fn.ntmps, [], none⟩ σ [] A β0 w)
    (h : CJ ⟨P, w, σ0, M, fn.ntmps, [], none⟩ c (bodyPost P fn R) σ (argEnv 0 svs) [] A 0) : Calls P f args w R := by
  have hN := Nat.le_of_ble_eq_true hN
  have hlt := hlt.of
  refine calls_of_wp hf hb (wpR_none (h.run ⟨fun i x hx => ?_, fun _ _ _ h => by cases h⟩ _ β0 w ⟨?_, rfl, fun i x hx => ?_⟩ hw))
  · obtain ⟨_, h2⟩ := argEnv_get svs 0 i x hx
    exact hlt x (List.mem_of_getElem? h2)
  · subst hargs
    simp only [Array.size_append, List.size_toArray, List.length_map, Array.size_replicate]
    omega
  · obtain ⟨_, h2⟩ := argEnv_get svs 0 i x hx
    simp only [Nat.sub_zero] at h2
    subst hargs
    rw [Array.getElem?_append_left (by simp; exact (List.getElem?_eq_some_iff.1 h2).1)]
    simp [h2]

theorem enter_it {P : Program} {f : FuncId} {fn : Func} {c : Code} {svs : List SV} {l : Nat} {σ : Snap} {A : List AE} {Φ : Value → Snap → List AE → Prop}
    (hf : P.funcs[f]? = some fn) (hb : fn.body = some c) (hN : Nat.ble svs.length fn.ntmps = true) (hlt : LtAll svs)
    (h : ∀ w, CJ (cfL P w σ A l fn.ntmps none) c (bodyPost P fn (postI P w σ A l Φ)) σ (argEnv 0 svs) [] A 0) : IterC P f (svs.map (SV.den β0)).toArray l σ A Φ :=
  fun w hw => enter_raw hf hb svs A rfl hN hlt (hw.re _ _ _) (h w)

theorem nj_iret {P : Program} {w0 : World} {σ0 : Snap} {A0 : List AE} {l N : Nat} {T : List (Nat × TI)} (hT : TTok P T) {fn : Func} {Φ : Value → Snap → List AE → Prop} {σ : Snap} {env : Env} {hp : HP} {A : List AE} {nh : Nat}
    {xs : List S1} (hr : resL T env hp fn.results.toList = some xs) (h : ∀ β, Φ ((resSV xs).den β) σ A) :
    NJ (cfL P w0 σ0 A0 l N none) .ret (bodyPost P fn (postI P w0 σ0 A0 l Φ)) σ env hp A nh := ⟨fun hb _ β _ ha hw =>
  ⟨ha.defers, _, results_ok (cf := cfL P w0 σ0 A0 l N none) hT ha hb hw hr, _, σ, A, rfl, hw.bareM _ _ _ _, h β⟩⟩
theorem nj_iend {P : Program} {w0 : World} {σ0 : Snap} {A0 : List AE} {l N : Nat} {T : List (Nat × TI)} (hT : TTok P T) {fn : Func} {Φ : Value → Snap → List AE → Prop} {σ : Snap} {env : Env} {hp : HP} {A : List AE} {nh : Nat}
    {xs : List S1} (hr : resL T env hp fn.results.toList = some xs) (h : ∀ β, Φ ((resSV xs).den β) σ A) :
    NJ (cfL P w0 σ0 A0 l N none) .normal (bodyPost P fn (postI P w0 σ0 A0 l Φ)) σ env hp A nh := ⟨fun hb _ β _ ha hw =>
  ⟨ha.defers, _, results_ok (cf := cfL P w0 σ0 A0 l N none) hT ha hb hw hr, _, σ, A, rfl, hw.bareM _ _ _ _, h β⟩⟩

section
variable {cf : Cf} {Q : Exit → Act → World → Prop} {σ : Snap} {env : Env} {hp : HP} {A : List AE} {nh : Nat} {it : Item} {rest : List Item}

/-- Which record's yield is called, with which arguments. -/
def yieldee (env : Env) (op : Op) : Option (Nat × List SV) :=
  match op with
  | .call c =>
    match c.callee with
    | .value f =>
      match evalO env f, evalL env c.args.toList with
      | some (.a (.fn (.yield l) [])), some ys => some (l, ys)
      | _, _ => none
    | _ => none
  | _ => none

theorem yieldee_ok {β : Nat → Addr} {a : Act} {w : World} (ha : StA cf env β a) {o : Oper} {l : Nat} {ys : List SV} {r : Loop} (h : yieldee env o.op = some (l, ys)) (hl : w.heap[l]? = some (.loop r)) (hs : Nat.beq ys.length r.params.size = true) :
    (execOp a.eval o).run cf.P w = .ok (.round l r.fn ((r.params.zip (ys.map (SV.den β)).toArray).foldl (fun tmps (t, a) => tmps.setIfInBounds t a) r.tmps) r.assign r.body) w := by
  unfold yieldee at h
  split at h
  · rename_i c hop
    split at h
    · rename_i fo hcal
      split at h
      · rename_i g zs hf hz
        injection h with h
        simp only [Prod.mk.injEq] at h
        obtain ⟨rfl, rfl⟩ := h
        have h1 : a.eval fo = .func (.yield g) #[] #[] := evalO_eval ha hf
        have h2 : c.args.map a.eval = (zs.map (SV.den β)).toArray := by
          have := evalL_ok ha _ _ hz
          rw [← this, ← Array.toList_map]
        simp only [execOp, hop, resolve, hcal, h1, h2, Deferred.ofValue, Sem.run_bind, Sem.run_pure, Result.andThen_ok, invoke, Array.empty_append]
        exact run_yield hl (by simpa using hs)
      · cases h
    · cases h
  · cases h

/-- A call of yield. -/
theorem oj_yield {d l : Nat} {r : Loop} {ys : List SV} {Φ : Value → Snap → List AE → Prop} (is : List Nat) {A0 Ar : List AE} (hl : σ l = some (.loop r)) (h0 : cf.σ0 l = none) (hA : reA is A = A0 ++ Ar) (hn : nodupB is = true)
    (hc : yieldee env it.o.op = some (l, ys)) (hs : Nat.beq ys.length r.params.size = true) (hd : it.o.dst = some d) (hg : guardVal it.guard env = some true)
    (hN : Nat.blt d cf.N = true) (htag : canSink it.tag = true) (hlt : LtAll ys)
    (hC : RoundC cf.P l r (ys.map (SV.den β0)).toArray σ A0 Φ)
    (k : ∀ v σ' A', σ.leB l σ' → Φ v σ' A' → ∃ y : SV, y.lt 0 ∧ y.den β0 = v ∧ OJ cf rest Q σ' ((d, y) :: env) hp (A' ++ Ar) nh) : OJ cf (it :: rest) Q σ env hp A nh := by
  refine ⟨fun hb a β ha hex => ?_⟩
  have hN' : d < cf.N := by simpa [Nat.blt_eq] using hN
  have den0 : ∀ {y : SV}, y.lt 0 → y.den β = y.den β0 := fun hy => SV.den_congr (n := 0) (fun i hi => by omega) hy
  have hargs : (ys.map (SV.den β)).toArray = (ys.map (SV.den β0)).toArray := by
    rw [List.map_congr_left fun y hy => den0 (hlt.of y hy)]
  have key : ∀ w, StW cf σ hp A β w → ∀ Q', it.o.wq cf.P a w (fun a' w' => ∃ E' S' : World → Prop, S' w' ∧ (∀ x, S' x → E' x) ∧ RunT cf.P Q rest E' S' a') Q' := by
    intro w hw Q'
    have hw2 : StW cf σ hp (A0 ++ Ar) β w := by rw [← hA]; exact hw.reA hn
    unfold Oper.wq
    rw [yieldee_ok ha hc (hw.sealed _ _ hl) hs]
    simp only [Oper.uponIn]
    rw [hargs]
    refine ⟨fun h => (by cases h), RoundIn.mono (round_FR (hC w hw2.handInL)) fun e w' ⟨v, σ', A', he, h4, h5⟩ => ?_⟩
    subst he
    obtain ⟨y, hy, hyv, hk⟩ := k v σ' A' h4.le h5
    have hw' := hw2.throughL hl rfl h0 h4
    refine ⟨_, _, hw', fun _ h => h, ?_⟩
    have := hk.run (hb.put (SV.lt_mono (Nat.zero_le _) hy) d) (a.put (some d) (y.den β)) β (ha.put hN' y) ⟨_, hw'⟩
    rw [hd, ← hyv, ← den0 hy]
    exact this
  simp only [RunT]
  rw [if_pos (guardVal_ok ha hg)]
  cases htag' : it.tag with
  | pure => rw [htag'] at htag; cases htag
  | quiet => rw [htag'] at htag; cases htag
  | keep => rw [htag'] at htag; cases htag
  | sink => exact fun w hw => key w hw _
  | free => exact fun w hw => key w hw _
end

/-! ### A round -/

def parEnv : List Nat → List SV → Env → Env
  | p :: ps, y :: ys, env => parEnv ps ys ((p, y) :: env)
  | _, _, env => env

def allBlt (N : Nat) : List Nat → Bool
  | [] => true
  | p :: ps => Nat.blt p N && allBlt N ps

theorem StA.params {cf : Cf} : ∀ (ps : List Nat) (ys : List SV) (env : Env) (a : Act), ps.length = ys.length → allBlt cf.N ps = true → StA cf env β0 a →
    StA cf (parEnv ps ys env) β0 { a with tmps := (ps.zip (ys.map (SV.den β0))).foldl (fun tmps x => tmps.setIfInBounds x.1 x.2) a.tmps }
  | [], [], env, a, _, _, ha => ha
  | [], _ :: _, env, a, h, _, _ => by simp at h
  | _ :: _, [], env, a, h, _, _ => by simp at h
  | p :: ps, y :: ys, env, a, h, hN, ha => by
    simp only [allBlt, Bool.and_eq_true, Nat.blt_eq] at hN
    have := StA.params ps ys ((p, y) :: env) (a.put (some p) (y.den β0)) (by simpa using h) hN.2 (ha.put hN.1 y)
    exact this

theorem parEnv_lt {n : Nat} : ∀ (ps : List Nat) (ys : List SV) (env : Env), LtAll ys → EnvLt n env → EnvLt n (parEnv ps ys env)
  | [], [], _, _, h => h
  | [], _ :: _, _, _, h => h
  | _ :: _, [], _, _, h => h
  | _ :: ps, _ :: ys, _, hy, h => parEnv_lt ps ys _ hy.2 ⟨SV.lt_mono (Nat.zero_le _) hy.1, h⟩

/-- What is asked behind the assignment of a round. -/
def beginQ (P : Program) (l : Nat) (body : Code) (R : Ending → World → Prop) : Exit → Act → World → Prop :=
  Exit.then (fun a w => ∃ w', (Instr.beginRound l).run P w = .ok () w' ∧ body.wpIn (FR (some l)) 0 P (roundPost P l R) a w') (fun _ _ _ => False)

/-- A ROUND, out of its body. -/
theorem roundC_of {P : Program} {l : Nat} {r : Loop} {ys : List SV} {σ : Snap} {A : List AE} {Φ : Value → Snap → List AE → Prop} {N : Nat} {env : Env} (hsz : r.tmps.size = N) (henv : ∀ i x, env.get i = some x → r.tmps[i]? = some (x.den β0))
    (ps : List Nat) (hps : r.params = ps.toArray) (hlen : Nat.beq ps.length ys.length = true) (hpN : allBlt N ps = true) (hlt : LtAll ys) (he : EnvLt 0 env)
    (h : ∀ w, CJ (cfL P w σ A l N (some l)) r.assign (beginQ P l r.body (postI P w σ A l Φ)) σ (parEnv ps ys env) [] A 0) : RoundC P l r (ys.map (SV.den β0)).toArray σ A Φ := by
  intro w hw
  refine round_FR (rd := none) (n := 0) (roundIn_of_wpIn (F := FR none) trivial ?_)
  have ha : StA (cfL P w σ A l N (some l)) env β0 ⟨r.tmps, []⟩ := ⟨hsz, rfl, henv⟩
  have ha' := ha.params ps ys env ⟨r.tmps, []⟩ (Nat.eq_of_beq_eq_true hlen) hpN
  have hz : (r.params.zip (ys.map (SV.den β0)).toArray).foldl (fun tmps (x : Nat × Value) => tmps.setIfInBounds x.1 x.2) r.tmps = (ps.zip (ys.map (SV.den β0))).foldl (fun tmps x => tmps.setIfInBounds x.1 x.2) r.tmps := by
    rw [hps, ← Array.foldl_toList]
    simp
  have hrun := (h w).run (Bd.of (parEnv_lt ps ys env hlt he) trivial) _ β0 w ha' (hw.re _ _ _)
  rw [← hz] at hrun
  exact hrun

section
variable {P : Program} {w0 : World} {σ0 : Snap} {A0 : List AE} {l N : Nat} {σ : Snap} {env : Env} {hp : HP} {A : List AE} {nh : Nat} {r : Loop}

/-- The round begins. -/
theorem nj_begin {body : Code} {R : Ending → World → Prop} (hl : σ l = some (.loop r)) (hr : r.state = .ready) (h0 : σ0.set l none l = none)
    (h : CJ (cfL P w0 σ0 A0 l N (some l)) body (roundPost P l R) (σ.set l (some (.loop { r with state := .busy }))) env hp A nh) : NJ (cfL P w0 σ0 A0 l N (some l)) .normal (beginQ P l body R) σ env hp A nh := by
  refine ⟨fun hb a β w ha hw => ⟨_, run_beginRound (hw.sealed _ _ hl) hr, h.run hb a β _ ha ?_⟩⟩
  exact hw.turn hl rfl rfl h0

theorem nj_rndN {Φ : Value → Snap → List AE → Prop} (hl : σ l = some (.loop r)) (h : Φ (.bool true) (σ.set l (some (.loop { r with state := .ready, pending := none }))) A) :
    NJ (cfL P w0 σ0 A0 l N (some l)) .normal (roundPost P l (postI P w0 σ0 A0 l Φ)) σ env hp A nh :=
  ⟨fun _ _ _ _ _ hw => ⟨_, _, run_endRound none (hw.sealed _ _ hl), _, _, A, rfl, (hw.turn hl rfl rfl (Snap.set_self ..)).bareM _ _ _ _, h⟩⟩
theorem nj_rndR {Φ : Value → Snap → List AE → Prop} (hl : σ l = some (.loop r)) (h : Φ (.bool false) (σ.set l (some (.loop { r with state := .done, pending := some .ret }))) A) :
    NJ (cfL P w0 σ0 A0 l N (some l)) .ret (roundPost P l (postI P w0 σ0 A0 l Φ)) σ env hp A nh :=
  ⟨fun _ _ _ _ _ hw => ⟨_, _, run_endRound (some .ret) (hw.sealed _ _ hl), _, _, A, rfl, (hw.turn hl rfl rfl (Snap.set_self ..)).bareM _ _ _ _, h⟩⟩
end

/-! ### The loop -/

abbrev markD (D : Nat) : Deferred := { target := .collected D, args := #[] }

/-- 'for .. := range g': an outermost one. -/
theorem cj_rangeFunc {P : Program} {w0 : World} {σ0 : Snap} {M : Nat → Prop} {N : Nat} {ds : List Deferred} {Q : Exit → Act → World → Prop} {σ : Snap} {env : Env} {hp : HP} {A : List AE} {nh : Nat}
    {g : Operand} {ps : Array Tmp} {assign body : Code} {gf : FuncId} {caps : List PT} (is : List Nat) {A0 Ar : List AE} (hA : reA is A = A0 ++ Ar) (hn : nodupB is = true)
    (hg : evalO env g = some (.a (.fn (.func gf) caps))) (hcap : LtAll (caps.map ptSV)) (hlt : EnvLt 0 env) (hcall : ∀ args w, (callFunc gf args).run P w = .ok (.enter gf args) w)
    (Φ : Nat → Nat → Loop → Value → Snap → List AE → Prop)
    (hit : ∀ (fid D l : Nat) (tmps : Array Value), tmps.size = N → (∀ i x, env.get i = some x → tmps[i]? = some (x.den β0)) → D ≠ l → σ D = none → σ l = none → σ0 l = none →
      IterC P gf (((.a (.fn (.yield l) []) :: caps.map ptSV).map (SV.den β0)).toArray) l ((σ.set D (some (.deferred (some [])))).set l (some (.loop ⟨.ready, none, fid, tmps, ps, assign, body, D⟩))) A0 (Φ D l ⟨.ready, none, fid, tmps, ps, assign, body, D⟩))
    (k : ∀ (D l : Nat) (r : Loop) (v : Value) (σ' : Snap) (A' : List AE), Φ D l r v σ' A' → σ0 D = none → σ0 l = none → σ' D = some (.deferred (some [])) → σ.cle σ' → (∀ b o, b ≠ D → b ≠ l → σ b = some o → σ' b = some o) →
      ∃ r', σ' l = some (.loop r') ∧ r'.state ≠ .busy ∧ (match r'.pending with
        | none => NJ ⟨P, w0, σ0, M, N, markD D :: ds, none⟩ .normal Q (σ'.set l none) env hp (A' ++ Ar) nh
        | some c => CJ ⟨P, w0, σ0, M, N, markD D :: ds, none⟩ c Q (σ'.set l none) env hp (A' ++ Ar) nh)) :
    CJ ⟨P, w0, σ0, M, N, ds, none⟩ (.rangeFunc g ps assign body) Q σ env hp A nh := by
  refine ⟨fun hb a β w ha hw => ?_⟩
  have hw2 : StW ⟨P, w0, σ0, M, N, ds, none⟩ σ hp (A0 ++ Ar) β w := by rw [← hA]; exact hw.reA hn
  refine wpIn_rangeFunc fun fid _ => ?_
  have hev : a.eval g = .func (.func gf) #[] (caps.map (PT.den β)).toArray := evalO_eval ha hg
  have hcd : caps.map (PT.den β) = (caps.map ptSV).map (SV.den β0) := by
    rw [List.map_map]
    refine List.map_congr_left fun p hp => ?_
    show p.den β = (ptSV p).den β0
    rw [← ptSV_den β p]
    exact SV.den_congr (n := 0) (fun i hi => by omega) (hcap.of _ (List.mem_map.2 ⟨p, hp, rfl⟩))
  obtain ⟨hD, hwD⟩ := hw2.lay (o := .deferred (some [])) rfl
  obtain ⟨hl, hwl⟩ := hwD.lay (o := .loop ⟨.ready, none, fid, a.tmps, ps, assign, body, w.heap.size⟩) rfl
  have hsz1 : (w.alloc (.deferred (some []))).heap.size = w.heap.size + 1 := Array.size_push ..
  have hne : w.heap.size ≠ (w.alloc (.deferred (some []))).heap.size := by omega
  have hl' : σ (w.alloc (.deferred (some []))).heap.size = none := by rw [← hl, Snap.set_ne (Ne.symm hne)]
  have h0D : σ0 w.heap.size = none := Snap.none_of_le hw2.le hD
  have h0l : σ0 (w.alloc (.deferred (some []))).heap.size = none := Snap.none_of_le hw2.le hl'
  let w1 := (w.alloc (.deferred (some []))).alloc (.loop ⟨.ready, none, fid, a.tmps, ps, assign, body, w.heap.size⟩)
  refine ⟨(w.alloc (.deferred (some []))).heap.size, [markD w.heap.size], w1, ⟨.fn (.func gf) (caps.map (PT.den β)).toArray, #[.func (.yield (w.alloc (.deferred (some []))).heap.size) #[] #[]]⟩, w1, gf,
    #[.func (.yield (w.alloc (.deferred (some []))).heap.size) #[] #[]] ++ (caps.map (PT.den β)).toArray, w1, ?_, ?_, fun _ _ => trivial, ?_, fun h => (by cases h), ?_⟩
  · rw [hsz1]; exact run_enterLoop_outer fid a.tmps ps assign body
  · show (resolve a.eval (rangeCall g _) 0).run P _ = _
    simp only [resolve, hev, Deferred.ofValue, Sem.run_pure, Array.empty_append]
    simp [Act.eval]
  · show (invoke (.fn (.func gf) _) _).run P _ = _
    simp only [invoke]
    exact hcall _ _
  · have henv : ∀ i x, env.get i = some x → a.tmps[i]? = some (x.den β0) := fun i x hx => by
      rw [ha.env i x hx]
      congr 1
      exact SV.den_congr (n := 0) (fun i hi => by omega) ((Bd.of (hp := []) hlt trivial).env i x hx)
    have hI := hit fid w.heap.size (w.alloc (.deferred (some []))).heap.size a.tmps ha.size henv hne hD hl' h0l
    have hargs : (#[.func (.yield (w.alloc (.deferred (some []))).heap.size) #[] #[]] ++ (caps.map (PT.den β)).toArray : Array Value) = (((.a (.fn (.yield (w.alloc (.deferred (some []))).heap.size) []) :: caps.map ptSV).map (SV.den β0)).toArray) := by
      rw [hcd]
      simp [SV.den, AT.den]
    rw [hargs]
    refine callsIn_FR.2 (Calls.mono (hI _ hwl.handInL) ?_)
    rintro e w' ⟨v, σ', A', rfl, h4, h5⟩
    have hσl : ((σ.set w.heap.size (some (.deferred (some [])))).set (w.alloc (.deferred (some []))).heap.size (some (.loop ⟨.ready, none, fid, a.tmps, ps, assign, body, w.heap.size⟩))) (w.alloc (.deferred (some []))).heap.size = some (.loop ⟨.ready, none, fid, a.tmps, ps, assign, body, w.heap.size⟩) := Snap.set_self ..
    have hw' := hwl.throughL hσl rfl h0l h4
    have hle : ∀ b o, b ≠ w.heap.size → b ≠ (w.alloc (.deferred (some []))).heap.size → σ b = some o → σ' b = some o := fun b o h1 h2 h3 => h4.le b o (by
      show Snap.set _ _ none b = some o
      rw [Snap.set_ne h2, Snap.set_ne h2, Snap.set_ne h1]; exact h3)
    have hσD : σ' w.heap.size = some (.deferred (some [])) := h4.le _ _ (by
      show Snap.set _ _ none _ = _
      rw [Snap.set_ne hne, Snap.set_ne hne, Snap.set_self])
    have hcle : σ.cle σ' := by
      intro ad x hx
      refine Snap.le.cell h4.le ?_
      show Snap.cell (Snap.set _ _ none) ad = _
      rw [Snap.cell_set (fun o e => by rw [Snap.set_self] at e; injection e with e; subst e; rfl) (fun _ e => by cases e), Snap.cell_set (fun o e => by rw [Snap.set_ne (Ne.symm hne), hl'] at e; cases e) (fun o e => by injection e with e; subst e; rfl),
        Snap.cell_set (fun o e => by rw [hD] at e; cases e) (fun o e => by injection e with e; subst e; rfl)]
      exact hx
    obtain ⟨r', hr1, hr2, hk⟩ := k _ _ _ v σ' A' h5 h0D h0l hσD hcle hle
    have hfin := hw'.swap (w' := w'.putObj (w.alloc (.deferred (some []))).heap.size (.loop { r' with state := .exhausted })) none (hw'.sealed _ _ hr1) rfl h0l (hw'.own_of hr1 h0l) rfl rfl rfl (by simp) (fun c hc => World.putObj_heap_other hc) fun _ e => (by cases e)
    refine ⟨r'.pending, _, run_endLoop (hw'.sealed _ _ hr1) hr2, ?_⟩
    generalize w'.putObj (w.alloc (.deferred (some []))).heap.size (.loop { r' with state := .exhausted }) = wf at hfin
    have ha2 : StA ⟨P, w0, σ0, M, N, markD w.heap.size :: ds, none⟩ env β { a with defers := [markD w.heap.size] ++ a.defers } := ⟨ha.size, by show _ ++ a.defers = _; rw [ha.defers]; rfl, ha.env⟩
    cases hp' : r'.pending with
    | none =>
      rw [hp'] at hk
      exact hk.run hb _ β _ ha2 (hfin.re _ _ _)
    | some c =>
      rw [hp'] at hk
      exact hk.run hb _ β _ ha2 (hfin.re _ _ _)

/-! ### A function that holds such a loop -/

theorem enter_m {P : Program} {f : FuncId} {fn : Func} {c : Code} {args : Array Value} {w : World} {M : Nat → Prop} {σ0 σ : Snap} {R : Ending → World → Prop}
    (hf : P.funcs[f]? = some fn) (hb : fn.body = some c) (svs : List SV) (A : List AE) (hargs : args = (svs.map (SV.den β0)).toArray) (hN : Nat.ble svs.length fn.ntmps = true)
    (hlt : LtAll svs) (hw : StW ⟨P, w, σ0, M, fn.ntmps, [], none⟩ σ [] A β0 w)
    (h : CJ ⟨P, w, σ0, M, fn.ntmps, [], none⟩ c (bodyPostM (FR none) 0 P fn R) σ (argEnv 0 svs) [] A 0) : Calls P f args w R := by
  have hN := Nat.le_of_ble_eq_true hN
  have hlt := hlt.of
  refine callsIn_FR.1 (callsIn_of_wp_marks (F := FR none) (n := 0) hf hb trivial (h.run ⟨fun i x hx => ?_, fun _ _ _ h => by cases h⟩ _ β0 w ⟨?_, rfl, fun i x hx => ?_⟩ hw))
  · obtain ⟨_, h2⟩ := argEnv_get svs 0 i x hx
    exact hlt x (List.mem_of_getElem? h2)
  · subst hargs
    simp only [Array.size_append, List.size_toArray, List.length_map, Array.size_replicate]
    omega
  · obtain ⟨_, h2⟩ := argEnv_get svs 0 i x hx
    simp only [Nat.sub_zero] at h2
    subst hargs
    rw [Array.getElem?_append_left (by simp; exact (List.getElem?_eq_some_iff.1 h2).1)]
    simp [h2]

theorem enter_mp {P : Program} {f : FuncId} {fn : Func} {c : Code} {svs : List SV} {σ : Snap} {Φ : Value → Prop}
    (hf : P.funcs[f]? = some fn) (hb : fn.body = some c) (hN : Nat.ble svs.length fn.ntmps = true) (hlt : LtAll svs)
    (h : ∀ w, CJ ⟨P, w, σ, fun _ => False, fn.ntmps, [], none⟩ c (bodyPostM (FR none) 0 P fn (postR w (fun _ => False) σ (fun v _ _ => Φ v))) σ (argEnv 0 svs) [] [] 0) : PlainS P f svs σ Φ :=
  fun w hs => enter_m hf hb svs [] rfl hN hlt (StW.start hs β0) (h w)

section
variable {P : Program} {w0 : World} {σ0 : Snap} {M : Nat → Prop} {N : Nat} {T : List (Nat × TI)} {fn : Func} {Post : Value → World → Snap → Prop} {σ : Snap} {env : Env} {hp : HP} {A : List AE} {nh : Nat} {xs : List S1}

/-- It returns ahead of the loop. -/
theorem nj_mret0 (hT : TTok P T) (hr : resL T env hp fn.results.toList = some xs) (h : ∀ β w, Bd env hp nh → StW ⟨P, w0, σ0, M, N, [], none⟩ σ hp A β w → Post ((resSV xs).den β) w σ) :
    NJ ⟨P, w0, σ0, M, N, [], none⟩ .ret (bodyPostM (FR none) 0 P fn (postR w0 M σ0 Post)) σ env hp A nh := ⟨fun hb a β w ha hw => by
  show LeavesInM (FR none) 0 P fn a.tmps _ a.defers .returning w
  rw [ha.defers]
  exact ⟨_, results_ok (cf := ⟨P, w0, σ0, M, N, [], none⟩) hT ha hb hw hr, _, σ, rfl, Fr.of hw, SGrow.of hw, hw.sealed, h β w hb hw⟩⟩
end

/-! ### Tuples -/

def AllS1 (n : Nat) : List S1 → Prop
  | [] => True
  | x :: l => x.lt n ∧ AllS1 n l
theorem SV.lt_tup {n : Nat} : ∀ {l : List S1}, AllS1 n l → (SV.tup l).lt n
  | [], _ => fun _ h => (by cases h)
  | y :: l, h => fun x hx => by
    cases hx with
    | head => exact h.1
    | tail _ hx => exact SV.lt_tup h.2 x hx
end Go.Sy
/- More rules: values in other words; regions whose stores may come among their reads. No program in sight. -/
namespace Go.Sy

section
variable {cf : Cf} {Q : Exit → Act → World → Prop} {σ : Snap} {env : Env} {hp : HP} {A : List AE} {nh : Nat} {it : Item} {rest : List Item}

theorem StA.set {β : Nat → Addr} {a : Act} (t : Nat) {x y : SV} (h : env.get t = some x) (hxy : x.den β = y.den β) (ha : StA cf env β a) : StA cf ((t, y) :: env) β a := by
  refine ⟨ha.size, ha.defers, fun i z hz => ?_⟩
  rw [Env.get_cons] at hz
  by_cases hi : t = i
  · rw [if_pos hi] at hz
    injection hz with hz
    subst hz; subst hi
    rw [← hxy]; exact ha.env t _ h
  · rw [if_neg hi] at hz; exact ha.env i z hz

theorem nj_set {e : Exit} (t : Nat) {x : SV} (y : SV) (h : env.get t = some x) (hy : y.lt nh) (hxy : ∀ β, x.den β = y.den β) (k : NJ cf e Q σ ((t, y) :: env) hp A nh) : NJ cf e Q σ env hp A nh :=
  ⟨fun hb a β w ha hw => k.run (hb.put hy t) a β w (ha.set t h (hxy β)) hw⟩
theorem cj_set {c : Code} (t : Nat) {x : SV} (y : SV) (h : env.get t = some x) (hy : y.lt nh) (hxy : ∀ β, x.den β = y.den β) (k : CJ cf c Q σ ((t, y) :: env) hp A nh) : CJ cf c Q σ env hp A nh :=
  ⟨fun hb a β w ha hw => k.run (hb.put hy t) a β w (ha.set t h (hxy β)) hw⟩

/-! ### A region's stores among its reads: a wider class, W, in which what is read stays what it is -/

structure OW (cf : Cf) (l : List Item) (Q : Exit → Act → World → Prop) (W : (Nat → Addr) → World → Prop) (σ : Snap) (env : Env) (hp : HP) (A : List AE) (nh : Nat) : Prop where
  run : Bd env hp nh → ∀ a β, StA cf env β a → (∃ w, StW cf σ hp A β w) → RunT cf.P Q l (W β) (fun w => StW cf σ hp A β w) a

variable {W : (Nat → Addr) → World → Prop}

theorem cj_drawW {id : Nat} {ops : Array Oper} (l : List (Nat × Tag)) (W : (Nat → Addr) → World → Prop) (hW : ∀ β w, StW cf σ hp A β w → W β w) (hm : cf.P.follows .mixedOrders = true) (hB : orderOk ops l = true)
    (h : OW cf (itemsOf ops l) Q W σ env hp A nh) (hd : okRd cf.rd ops = true := by rfl) : CJ cf (.region id ops true) Q σ env hp A nh :=
  ⟨fun hb a β _ ha hw => wp_of_order l hm hB hd (fun x hx => hW β x hx) hw.drew (h.run hb a β ha ⟨_, hw⟩)⟩

def noQuiet : List Item → Bool
  | [] => true
  | it :: l => (match it.tag with | .quiet => false | _ => true) && noQuiet l

theorem run_wider {P : Program} {E E' : World → Prop} (hE : ∀ w, E w → E' w) : ∀ (l : List Item) (S : World → Prop) (a : Act), noQuiet l = true → RunT P Q l E S a → RunT P Q l E' S a
  | [], _, _, _, h => h
  | it :: l, S, a, hq, h => by
    simp only [noQuiet, Bool.and_eq_true] at hq
    simp only [RunT] at h ⊢
    split
    · rename_i hw
      rw [if_pos hw] at h
      cases htag : it.tag with
      | quiet => rw [htag] at hq; cases hq.1
      | pure =>
        rw [htag] at h
        obtain ⟨v, h1, h2⟩ := h
        exact ⟨v, h1, run_wider hE l S _ hq.2 h2⟩
      | keep =>
        rw [htag] at h
        exact fun w hS => wq_mono (fun a' w' ⟨E1, S1, h1, h2, h3, h4⟩ => ⟨E1, S1, h1, h2, fun x hx => hE x (h3 x hx), h4⟩) (h w hS)
      | sink => rw [htag] at h; exact h
      | free => rw [htag] at h; exact h
    · rename_i hw
      rw [if_neg hw] at h
      exact run_wider hE l S _ hq.2 h

/-- Nothing is left that is read: the class may be the narrow one again. -/
theorem ow_end {l : List Item} (hq : noQuiet l = true) (hW : ∀ β w, StW cf σ hp A β w → W β w) (h : OJ cf l Q σ env hp A nh) : OW cf l Q W σ env hp A nh :=
  ⟨fun hb a β ha hex => run_wider (E := fun w => StW cf σ hp A β w) (fun w hw => hW β w hw) l _ a hq (h.run hb a β ha hex)⟩

/-- One value. -/
theorem ow_val {d : Nat} (y : SV) (hd : it.o.dst = some d) (hg : guardVal it.guard env = some true) (hN : Nat.blt d cf.N = true) (hlt : y.lt nh)
    (hrun : Bd env hp nh → ∀ a β, StA cf env β a → match it.tag with
      | .pure => ∀ w, (execOp a.eval it.o).run cf.P w = .ok (.value (y.den β)) w
      | .quiet => ∀ w, W β w → (execOp a.eval it.o).run cf.P w = .ok (.value (y.den β)) w
      | _ => False) (k : OW cf rest Q W σ ((d, y) :: env) hp A nh) : OW cf (it :: rest) Q W σ env hp A nh := by
  refine ⟨fun hb a β ha hex => ?_⟩
  have hN' : d < cf.N := by simpa [Nat.blt_eq] using hN
  have h' := k.run (hb.put hlt d) (a.put (some d) (y.den β)) β (ha.put hN' y) hex
  have hrun := hrun hb a β ha
  simp only [RunT]
  rw [if_pos (guardVal_ok ha hg), hd]
  cases htag : it.tag with
  | pure => rw [htag] at hrun; exact ⟨_, fun w => .inl (hrun w), h'⟩
  | quiet => rw [htag] at hrun; exact ⟨_, fun w hw => .inl (hrun w hw), h'⟩
  | keep => rw [htag] at hrun; exact hrun.elim
  | sink => rw [htag] at hrun; exact hrun.elim
  | free => rw [htag] at hrun; exact hrun.elim

/-- What heeds no world: reckoned. -/
theorem ow_pure {d : Nat} {T : List (Nat × TI)} (hT : TTok cf.P T) {x : SV} (h : stepOp T it.o.op env hp nh = some (.val x)) (hl : isLoad it.o.op = false) (hp' : isPure it.tag = true) (hd : it.o.dst = some d) (hg : guardVal it.guard env = some true) (hN : Nat.blt d cf.N = true)
    (k : OW cf rest Q W σ ((d, x) :: env) hp A nh) : OW cf (it :: rest) Q W σ env hp A nh := by
  refine ⟨fun hb a β ha hex => ?_⟩
  have hN' : d < cf.N := by simpa [Nat.blt_eq] using hN
  obtain ⟨hx, hrun⟩ := step_ok (o := it.o) hT ha hb h
  have h' := k.run (hb.put hx d) (a.put (some d) (x.den β)) β (ha.put hN' x) hex
  simp only [RunT]
  rw [if_pos (guardVal_ok ha hg), hd]
  cases htag : it.tag with
  | pure => exact ⟨_, fun w => .inl (hrun w (fun hc => by rw [hl] at hc; cases hc)), h'⟩
  | _ => rw [htag] at hp'; cases hp'

/-- A load, of what W knows too. -/
theorem ow_load {d : Nat} {T : List (Nat × TI)} (hT : TTok cf.P T) {x : SV} (hpW : HP) (AW : List AE) (hsub : subH hpW hp) (hW : ∀ β w, W β w → StW cf σ hpW AW β w) (h : stepOp T it.o.op env hpW nh = some (.val x)) (hq : (match it.tag with | .quiet => true | _ => false) = true) (hd : it.o.dst = some d) (hg : guardVal it.guard env = some true) (hN : Nat.blt d cf.N = true)
    (k : OW cf rest Q W σ ((d, x) :: env) hp A nh) : OW cf (it :: rest) Q W σ env hp A nh := by
  refine ⟨fun hb a β ha hex => ?_⟩
  have hN' : d < cf.N := by simpa [Nat.blt_eq] using hN
  obtain ⟨hx, hrun⟩ := step_ok (o := it.o) hT ha (hb.sub (fun _ _ h => h) hsub) h
  have h' := k.run (hb.put hx d) (a.put (some d) (x.den β)) β (ha.put hN' x) hex
  simp only [RunT]
  rw [if_pos (guardVal_ok ha hg), hd]
  cases htag : it.tag with
  | quiet => exact ⟨_, fun w hw => .inl (hrun w (fun _ => ⟨σ, AW, hW β w hw⟩)), h'⟩
  | _ => rw [htag] at hq; cases hq

/-- A store that leaves W. -/
theorem ow_put {T : List (Nat × TI)} (hT : TTok cf.P T) {i : Nat} {e : TypeId} {cs : List AT} (h : stepOp T it.o.op env hp nh = some (.put i e cs)) (hk : (match it.tag with | .keep => true | _ => false) = true) (hd : it.o.dst = none) (hg : guardVal it.guard env = some true)
    (hW : ∀ β w, StW cf σ ((i, .loc e, cs) :: hp) A β w → W β w) (k : OW cf rest Q W σ env ((i, .loc e, cs) :: hp) A nh) : OW cf (it :: rest) Q W σ env hp A nh := by
  refine ⟨fun hb a β ha hex => ?_⟩
  obtain ⟨hcs, ⟨cs0, hi⟩, hrun⟩ := step_ok (o := it.o) hT ha hb h
  simp only [RunT]
  rw [if_pos (guardVal_ok ha hg), hd]
  cases htag : it.tag with
  | keep =>
    refine fun w hw => ?_
    unfold Oper.wq
    rw [hrun σ A w hw]
    have hw' := hw.store (cs := cs) hi
    refine ⟨W β, _, hw', fun x hx => hW β x hx, fun _ h => h, ?_⟩
    rw [hd]
    exact k.run (hb.row (hb.hp i _ _ hi).1 hcs) a β ha ⟨_, hw'⟩
  | _ => rw [htag] at hk; cases hk

/-- A call that leaves W, the arrays as told. -/
theorem ow_call {d : Nat} {f : FuncId} {ys : List SV} {Φ : Value → Snap → List AE → Prop} (is : List Nat) {A0 Ar : List AE} (hA : reA is A = A0 ++ Ar) (hn : nodupB is = true)
    (hc : callee env it.o.op = some (f, ys)) (hd : it.o.dst = some d) (hg : guardVal it.guard env = some true)
    (hN : Nat.blt d cf.N = true) (hk : (match it.tag with | .keep => true | _ => false) = true) (hcall : ∀ args w, (callFunc f args).run cf.P w = .ok (.enter f args) w) (hlt : LtAll ys)
    (hC : FnS cf.P f ys σ A0 Φ)
    (k : ∀ v σ' A', σ.le σ' → Φ v σ' A' → (∀ β w, StW cf σ' hp (A' ++ Ar) β w → W β w) ∧ ∃ y : SV, y.lt 0 ∧ y.den β0 = v ∧ OW cf rest Q W σ' ((d, y) :: env) hp (A' ++ Ar) nh) : OW cf (it :: rest) Q W σ env hp A nh := by
  refine ⟨fun hb a β ha hex => ?_⟩
  have hN' : d < cf.N := by simpa [Nat.blt_eq] using hN
  have den0 : ∀ {y : SV}, y.lt 0 → y.den β = y.den β0 := fun hy => SV.den_congr (n := 0) (fun i hi => by omega) hy
  have hargs : (ys.map (SV.den β)).toArray = (ys.map (SV.den β0)).toArray := by
    rw [List.map_congr_left fun y hy => den0 (hlt.of y hy)]
  simp only [RunT]
  rw [if_pos (guardVal_ok ha hg)]
  cases htag : it.tag with
  | keep =>
    intro w hw
    have hw2 : StW cf σ hp (A0 ++ Ar) β w := by rw [← hA]; exact hw.reA hn
    unfold Oper.wq
    rw [callee_ok ha hc hcall]
    simp only [Oper.uponIn]
    rw [hargs]
    refine ⟨fun h => (by cases h), CallsIn.mono (callsIn_FR.2 (hC w hw2.handIn)) fun e w' ⟨v, σ', he, h1, h2, h3, A', h4, h5⟩ => ?_⟩
    subst he
    obtain ⟨hW, y, hy, hyv, hk⟩ := k v σ' A' h2.le h4
    have hw' := hw2.through h5
    refine ⟨W β, _, hw', fun x hx => hW β x hx, fun _ h => h, ?_⟩
    have := hk.run (hb.put (SV.lt_mono (Nat.zero_le _) hy) d) (a.put (some d) (y.den β)) β (ha.put hN' y) ⟨_, hw'⟩
    rw [hd, ← hyv, ← den0 hy]
    exact this
  | _ => rw [htag] at hk; cases hk
end

theorem SV.lt_fn0 {n : Nat} {f : Fn} : (SV.a (.fn f [])).lt n := fun _ h => (by cases h)
theorem nj_nilarr {cf : Cf} {Q : Exit → Act → World → Prop} {σ : Snap} {env : Env} {hp : HP} {A : List AE} {nh : Nat} {ex : Exit} (e sz : Nat) (h : NJ cf ex Q σ env hp (A ++ [⟨none, 0, 0, e, sz, []⟩]) nh) : NJ cf ex Q σ env hp A nh :=
  ⟨fun hb a β w ha hw => h.run hb a β w ha ((StW.nilArr e sz).1 hw)⟩
end Go.Sy
namespace Go.Sy
open Go.Proofs
def tt : List (Nat × TI) := [
  (1, ⟨1, false, [.v .nilFunc], [], .func, 8⟩),
  (2, ⟨1, false, [.v (.int .i64 0)], [], .int .i64, 8⟩),
  (3, ⟨1, false, [.v (.int .i64 0)], [], .int .i64, 8⟩),
  (4, ⟨1, false, [.ff], [], .bool, 1⟩),
  (5, ⟨1, false, [.v (.int .u8 0)], [], .int .u8, 1⟩),
  (6, ⟨1, false, [.v (.int .u8 0)], [], .int .u8, 1⟩),
  (7, ⟨4, true, [.v (.int .i64 0), .v (.int .i64 0), .ff, .v (.int .u8 0)], [(0, 1, some false), (1, 1, some false), (2, 1, some false), (3, 1, some false)], .struct, 24⟩),
  (8, ⟨4, true, [.v (.int .i64 0), .v (.int .i64 0), .ff, .v (.int .u8 0)], [(0, 1, some false), (1, 1, some false), (2, 1, some false), (3, 1, some false)], .struct, 24⟩),
  (9, ⟨1, false, [.v (.string ⟨#[]⟩)], [], .str, 16⟩),
  (10, ⟨1, false, [.v (.string ⟨#[]⟩)], [], .str, 16⟩),
  (11, ⟨1, false, [.v (.string ⟨#[]⟩)], [], .str, 16⟩),
  (12, ⟨1, false, [.v (.int .u64 0)], [], .int .u64, 8⟩),
  (13, ⟨2, true, [.v (.string ⟨#[]⟩), .v (.int .u64 0)], [(0, 1, some false), (1, 1, some false)], .struct, 24⟩),
  (14, ⟨2, true, [.v (.string ⟨#[]⟩), .v (.int .u64 0)], [(0, 1, some false), (1, 1, some false)], .struct, 24⟩),
  (15, ⟨1, false, [.v (.pointer none)], [], .ptr 235, 8⟩),
  (16, ⟨1, false, [.v (.pointer none)], [], .ptr 238, 8⟩),
  (17, ⟨1, false, [.v (.pointer none)], [], .ptr 247, 8⟩),
  (18, ⟨1, true, [.v (.pointer none)], [(0, 1, some false)], .struct, 8⟩),
  (19, ⟨1, true, [.v (.pointer none)], [(0, 1, some false)], .struct, 8⟩),
  (20, ⟨1, false, [.v .nilIface], [], .iface, 16⟩),
  (21, ⟨1, false, [.v (.int .i32 0)], [], .int .i32, 4⟩),
  (22, ⟨3, true, [.ff, .v (.string ⟨#[]⟩), .v (.int .i64 0)], [(0, 1, some false), (1, 1, some false), (2, 1, some false)], .struct, 32⟩),
  (23, ⟨3, true, [.ff, .v (.string ⟨#[]⟩), .v (.int .i64 0)], [(0, 1, some false), (1, 1, some false), (2, 1, some false)], .struct, 32⟩),
  (24, ⟨1, false, [.v (.slice none 0 0)], [], .slice 27, 24⟩),
  (25, ⟨1, false, [.v (.slice none 0 0)], [], .slice 125, 24⟩),
  (26, ⟨8, true, [.v (.int .i64 0), .ff, .ff, .v (.string ⟨#[]⟩), .v (.int .i64 0), .v (.string ⟨#[]⟩), .v (.slice none 0 0), .v (.slice none 0 0)], [(0, 1, some false), (1, 1, some false), (2, 3, some true), (5, 1, some false), (6, 1, some false), (7, 1, some false)], .struct, 112⟩),
  (27, ⟨8, true, [.v (.int .i64 0), .ff, .ff, .v (.string ⟨#[]⟩), .v (.int .i64 0), .v (.string ⟨#[]⟩), .v (.slice none 0 0), .v (.slice none 0 0)], [(0, 1, some false), (1, 1, some false), (2, 3, some true), (5, 1, some false), (6, 1, some false), (7, 1, some false)], .struct, 112⟩),
  (28, ⟨1, false, [.v .nilFunc], [], .func, 8⟩),
  (29, ⟨1, false, [.v .nilFunc], [], .func, 8⟩),
  (30, ⟨1, false, [.v (.int .i64 0)], [], .int .i64, 8⟩),
  (31, ⟨1, false, [.v .nilFunc], [], .func, 8⟩),
  (32, ⟨1, false, [.v (.slice none 0 0)], [], .slice 36, 24⟩),
  (34, ⟨1, false, [.v .nilFunc], [], .func, 8⟩),
  (35, ⟨11, true, [.v (.int .i64 0), .v (.int .i64 0), .v (.int .i64 0), .v (.int .i64 0), .ff, .v (.string ⟨#[]⟩), .ff, .ff, .v (.string ⟨#[]⟩), .v (.int .i64 0), .v (.string ⟨#[]⟩)], [(0, 1, some false), (1, 1, some false), (2, 1, some false), (3, 1, some false), (4, 1, some false), (5, 1, some false), (6, 1, some false), (7, 3, some true), (10, 1, some false)], .struct, 112⟩),
  (36, ⟨11, true, [.v (.int .i64 0), .v (.int .i64 0), .v (.int .i64 0), .v (.int .i64 0), .ff, .v (.string ⟨#[]⟩), .ff, .ff, .v (.string ⟨#[]⟩), .v (.int .i64 0), .v (.string ⟨#[]⟩)], [(0, 1, some false), (1, 1, some false), (2, 1, some false), (3, 1, some false), (4, 1, some false), (5, 1, some false), (6, 1, some false), (7, 3, some true), (10, 1, some false)], .struct, 112⟩),
  (38, ⟨1, false, [.v .nilFunc], [], .func, 8⟩),
  (39, ⟨1, false, [.v .nilFunc], [], .func, 8⟩),
  (40, ⟨1, false, [.v .nilFunc], [], .func, 8⟩),
  (41, ⟨1, false, [.v .nilFunc], [], .func, 8⟩),
  (42, ⟨1, false, [.v .nilFunc], [], .func, 8⟩),
  (43, ⟨1, false, [.v (.slice none 0 0)], [], .slice 3, 24⟩),
  (44, ⟨1, false, [.v .nilFunc], [], .func, 8⟩),
  (45, ⟨1, false, [.v (.slice none 0 0)], [], .slice 129, 24⟩),
  (46, ⟨1, false, [.v .nilFunc], [], .func, 8⟩),
  (47, ⟨1, false, [.v .nilFunc], [], .func, 8⟩),
  (48, ⟨1, false, [.v (.slice none 0 0)], [], .slice 132, 24⟩),
  (49, ⟨1, false, [.v .nilFunc], [], .func, 8⟩),
  (51, ⟨1, false, [.v .nilFunc], [], .func, 8⟩),
  (52, ⟨1, false, [.v .nilFunc], [], .func, 8⟩),
  (53, ⟨1, false, [.v .nilFunc], [], .func, 8⟩),
  (54, ⟨1, false, [.v .nilFunc], [], .func, 8⟩),
  (55, ⟨1, false, [.v .nilFunc], [], .func, 8⟩),
  (56, ⟨1, false, [.v .nilFunc], [], .func, 8⟩),
  (57, ⟨1, false, [.v .nilFunc], [], .func, 8⟩),
  (58, ⟨1, false, [.v .nilFunc], [], .func, 8⟩),
  (59, ⟨1, false, [.v .nilFunc], [], .func, 8⟩),
  (60, ⟨1, false, [.v .nilFunc], [], .func, 8⟩),
  (61, ⟨1, false, [.v .nilFunc], [], .func, 8⟩),
  (62, ⟨1, false, [.v .nilFunc], [], .func, 8⟩),
  (63, ⟨1, false, [.v .nilFunc], [], .func, 8⟩),
  (64, ⟨1, false, [.v .nilFunc], [], .func, 8⟩),
  (66, ⟨1, false, [.v .nilFunc], [], .func, 8⟩),
  (67, ⟨1, false, [.v (.slice none 0 0)], [], .slice 75, 24⟩),
  (68, ⟨1, false, [.v .nilFunc], [], .func, 8⟩),
  (69, ⟨1, false, [.v (.slice none 0 0)], [], .slice 85, 24⟩),
  (70, ⟨2, true, [.v (.slice none 0 0), .v (.int .i64 0)], [(0, 1, some false), (1, 1, some false)], .struct, 32⟩),
  (71, ⟨2, true, [.v (.slice none 0 0), .v (.int .i64 0)], [(0, 1, some false), (1, 1, some false)], .struct, 32⟩),
  (73, ⟨1, false, [.v .nilFunc], [], .func, 8⟩),
  (74, ⟨1, false, [.v .nilFunc], [], .func, 8⟩),
  (75, ⟨1, false, [.v (.slice none 0 0)], [], .slice 9, 24⟩),
  (76, ⟨1, false, [.v .nilFunc], [], .func, 8⟩),
  (77, ⟨1, false, [.v (.slice none 0 0)], [], .slice 144, 24⟩),
  (78, ⟨2, true, [.v (.slice none 0 0), .v (.int .i64 0)], [(0, 1, some false), (1, 1, some false)], .struct, 32⟩),
  (79, ⟨2, true, [.v (.slice none 0 0), .v (.int .i64 0)], [(0, 1, some false), (1, 1, some false)], .struct, 32⟩),
  (80, ⟨1, false, [.v .nilFunc], [], .func, 8⟩),
  (81, ⟨1, false, [.v .nilFunc], [], .func, 8⟩),
  (82, ⟨1, false, [.v .nilFunc], [], .func, 8⟩),
  (83, ⟨1, false, [.v .nilFunc], [], .func, 8⟩),
  (84, ⟨3, true, [.v (.int .i64 0), .v (.slice none 0 0), .v (.int .i64 0)], [(0, 1, some false), (1, 1, some false), (2, 1, some false)], .struct, 40⟩),
  (85, ⟨3, true, [.v (.int .i64 0), .v (.slice none 0 0), .v (.int .i64 0)], [(0, 1, some false), (1, 1, some false), (2, 1, some false)], .struct, 40⟩),
  (86, ⟨1, false, [.v .nilFunc], [], .func, 8⟩),
  (87, ⟨1, false, [.v .nilFunc], [], .func, 8⟩),
  (88, ⟨2, true, [.v (.int .i64 0), .v (.string ⟨#[]⟩)], [(0, 1, some false), (1, 1, some false)], .struct, 24⟩),
  (89, ⟨2, true, [.v (.int .i64 0), .v (.string ⟨#[]⟩)], [(0, 1, some false), (1, 1, some false)], .struct, 24⟩),
  (90, ⟨1, false, [.v (.slice none 0 0)], [], .slice 89, 24⟩),
  (91, ⟨1, false, [.v .nilFunc], [], .func, 8⟩),
  (92, ⟨1, false, [.v .nilFunc], [], .func, 8⟩),
  (93, ⟨1, false, [.v .nilFunc], [], .func, 8⟩),
  (94, ⟨1, false, [.v .nilFunc], [], .func, 8⟩),
  (95, ⟨1, false, [.v .nilFunc], [], .func, 8⟩),
  (96, ⟨1, false, [.v .nilFunc], [], .func, 8⟩),
  (97, ⟨2, true, [.v (.int .i64 0), .v (.int .i64 0)], [(0, 1, some false), (1, 1, some false)], .struct, 16⟩),
  (98, ⟨2, true, [.v (.int .i64 0), .v (.int .i64 0)], [(0, 1, some false), (1, 1, some false)], .struct, 16⟩),
  (100, ⟨1, false, [.v .nilFunc], [], .func, 8⟩),
  (101, ⟨1, false, [.v .nilFunc], [], .func, 8⟩),
  (102, ⟨1, false, [.v .nilFunc], [], .func, 8⟩),
  (103, ⟨1, false, [.v .nilFunc], [], .func, 8⟩),
  (104, ⟨1, false, [.v .nilFunc], [], .func, 8⟩),
  (105, ⟨1, false, [.v .nilFunc], [], .func, 8⟩),
  (106, ⟨1, false, [.v .nilFunc], [], .func, 8⟩),
  (107, ⟨1, false, [.v .nilFunc], [], .func, 8⟩),
  (108, ⟨1, false, [.v .nilFunc], [], .func, 8⟩),
  (109, ⟨1, false, [.v .nilFunc], [], .func, 8⟩),
  (110, ⟨1, false, [.v .nilFunc], [], .func, 8⟩),
  (111, ⟨1, false, [.v .nilFunc], [], .func, 8⟩),
  (112, ⟨1, false, [.v (.pointer none)], [], .ptr 114, 8⟩),
  (113, ⟨1, true, [.v (.int .i64 0)], [(0, 1, some false)], .struct, 8⟩),
  (114, ⟨1, true, [.v (.int .i64 0)], [(0, 1, some false)], .struct, 8⟩),
  (115, ⟨1, false, [.v .nilFunc], [], .func, 8⟩),
  (116, ⟨1, false, [.v (.pointer none)], [], .ptr 118, 8⟩),
  (117, ⟨3, true, [.v (.slice none 0 0), .v (.int .i64 0), .v (.int .i64 0)], [(0, 1, some false), (1, 1, some false), (2, 1, some false)], .struct, 40⟩),
  (118, ⟨3, true, [.v (.slice none 0 0), .v (.int .i64 0), .v (.int .i64 0)], [(0, 1, some false), (1, 1, some false), (2, 1, some false)], .struct, 40⟩),
  (119, ⟨1, false, [.v .nilFunc], [], .func, 8⟩),
  (120, ⟨1, false, [.v (.pointer none)], [], .ptr 122, 8⟩),
  (121, ⟨2, true, [.v (.slice none 0 0), .v (.int .i64 0)], [(0, 1, some false), (1, 1, some false)], .struct, 32⟩),
  (122, ⟨2, true, [.v (.slice none 0 0), .v (.int .i64 0)], [(0, 1, some false), (1, 1, some false)], .struct, 32⟩),
  (123, ⟨1, false, [.v .nilFunc], [], .func, 8⟩),
  (124, ⟨9, true, [.v (.string ⟨#[]⟩), .v (.int .i64 0), .ff, .ff, .v (.string ⟨#[]⟩), .v (.int .i64 0), .v (.string ⟨#[]⟩), .v (.slice none 0 0), .v (.slice none 0 0)], [(0, 1, some false), (1, 8, some true)], .struct, 128⟩),
  (125, ⟨9, true, [.v (.string ⟨#[]⟩), .v (.int .i64 0), .ff, .ff, .v (.string ⟨#[]⟩), .v (.int .i64 0), .v (.string ⟨#[]⟩), .v (.slice none 0 0), .v (.slice none 0 0)], [(0, 1, some false), (1, 8, some true)], .struct, 128⟩),
  (126, ⟨1, false, [.v .nilFunc], [], .func, 8⟩),
  (127, ⟨1, false, [.v .nilFunc], [], .func, 8⟩),
  (128, ⟨3, true, [.v (.string ⟨#[]⟩), .v (.int .i64 0), .ff], [(0, 1, some false), (1, 1, some false), (2, 1, some false)], .struct, 32⟩),
  (129, ⟨3, true, [.v (.string ⟨#[]⟩), .v (.int .i64 0), .ff], [(0, 1, some false), (1, 1, some false), (2, 1, some false)], .struct, 32⟩),
  (130, ⟨1, false, [.v .nilFunc], [], .func, 8⟩),
  (131, ⟨1, false, [.v .nilFunc], [], .func, 8⟩),
  (132, ⟨11, true, [.v (.int .i64 0), .v (.int .i64 0), .v (.int .i64 0), .v (.int .i64 0), .ff, .v (.string ⟨#[]⟩), .ff, .ff, .v (.string ⟨#[]⟩), .v (.int .i64 0), .v (.string ⟨#[]⟩)], [(0, 1, some false), (1, 1, some false), (2, 1, some false), (3, 1, some false), (4, 1, some false), (5, 1, some false), (6, 1, some false), (7, 3, some true), (10, 1, some false)], .struct, 112⟩),
  (133, ⟨1, false, [.v (.pointer none)], [], .ptr 135, 8⟩),
  (134, ⟨3, true, [.v (.slice none 0 0), .v (.int .i64 0), .v (.int .i64 0)], [(0, 1, some false), (1, 1, some false), (2, 1, some false)], .struct, 40⟩),
  (135, ⟨3, true, [.v (.slice none 0 0), .v (.int .i64 0), .v (.int .i64 0)], [(0, 1, some false), (1, 1, some false), (2, 1, some false)], .struct, 40⟩),
  (136, ⟨1, false, [.v .nilFunc], [], .func, 8⟩),
  (138, ⟨1, false, [.v .nilFunc], [], .func, 8⟩),
  (140, ⟨1, false, [.v .nilFunc], [], .func, 8⟩),
  (141, ⟨1, false, [.v .nilFunc], [], .func, 8⟩),
  (142, ⟨1, false, [.v .nilFunc], [], .func, 8⟩),
  (143, ⟨1, false, [.v .nilFunc], [], .func, 8⟩),
  (144, ⟨3, true, [.v (.int .i64 0), .v (.slice none 0 0), .v (.int .i64 0)], [(0, 1, some false), (1, 1, some false), (2, 1, some false)], .struct, 40⟩),
  (145, ⟨1, false, [.v .nilFunc], [], .func, 8⟩),
  (146, ⟨1, false, [.v .nilFunc], [], .func, 8⟩),
  (147, ⟨1, false, [.v .nilFunc], [], .func, 8⟩),
  (148, ⟨1, false, [.v .nilFunc], [], .func, 8⟩),
  (149, ⟨1, false, [.v .nilFunc], [], .func, 8⟩),
  (150, ⟨1, false, [.v .nilFunc], [], .func, 8⟩),
  (151, ⟨1, false, [.v .nilFunc], [], .func, 8⟩),
  (152, ⟨3, true, [.v (.int .i64 0), .v (.int .i64 0), .v (.int .i64 0)], [(0, 1, some false), (1, 1, some false), (2, 1, some false)], .struct, 24⟩),
  (153, ⟨3, true, [.v (.int .i64 0), .v (.int .i64 0), .v (.int .i64 0)], [(0, 1, some false), (1, 1, some false), (2, 1, some false)], .struct, 24⟩),
  (155, ⟨1, false, [.v .nilFunc], [], .func, 8⟩),
  (156, ⟨1, false, [.v .nilFunc], [], .func, 8⟩),
  (157, ⟨1, false, [.v .nilFunc], [], .func, 8⟩),
  (158, ⟨24, true, [.v (.slice none 0 0), .v (.int .i64 0), .v (.int .i64 0), .v (.int .i64 0), .v (.int .i64 0), .v (.int .i64 0), .v (.int .i64 0), .ff, .v (.string ⟨#[]⟩), .ff, .ff, .v (.string ⟨#[]⟩), .v (.int .i64 0), .v (.string ⟨#[]⟩), .v (.int .i64 0), .ff, .ff, .v (.string ⟨#[]⟩), .v (.int .i64 0), .v (.string ⟨#[]⟩), .v (.slice none 0 0), .v (.slice none 0 0), .v (.int .i64 0), .v .nilFunc], [(0, 1, some false), (1, 1, some false), (2, 1, some false), (3, 11, some true), (14, 8, some true), (22, 1, some false), (23, 1, some false)], .struct, 280⟩),
  (159, ⟨24, true, [.v (.slice none 0 0), .v (.int .i64 0), .v (.int .i64 0), .v (.int .i64 0), .v (.int .i64 0), .v (.int .i64 0), .v (.int .i64 0), .ff, .v (.string ⟨#[]⟩), .ff, .ff, .v (.string ⟨#[]⟩), .v (.int .i64 0), .v (.string ⟨#[]⟩), .v (.int .i64 0), .ff, .ff, .v (.string ⟨#[]⟩), .v (.int .i64 0), .v (.string ⟨#[]⟩), .v (.slice none 0 0), .v (.slice none 0 0), .v (.int .i64 0), .v .nilFunc], [(0, 1, some false), (1, 1, some false), (2, 1, some false), (3, 11, some true), (14, 8, some true), (22, 1, some false), (23, 1, some false)], .struct, 280⟩),
  (160, ⟨1, false, [.v .nilFunc], [], .func, 8⟩),
  (161, ⟨1, false, [.v .nilFunc], [], .func, 8⟩),
  (162, ⟨1, false, [.v .nilFunc], [], .func, 8⟩),
  (163, ⟨1, false, [.v .nilFunc], [], .func, 8⟩),
  (164, ⟨1, false, [.v .nilFunc], [], .func, 8⟩),
  (165, ⟨1, false, [.v .nilFunc], [], .func, 8⟩),
  (166, ⟨1, false, [.v .nilFunc], [], .func, 8⟩),
  (167, ⟨1, false, [.v .nilFunc], [], .func, 8⟩),
  (168, ⟨1, false, [.v .nilFunc], [], .func, 8⟩),
  (169, ⟨1, false, [.v .nilFunc], [], .func, 8⟩),
  (170, ⟨1, false, [.v .nilFunc], [], .func, 8⟩),
  (171, ⟨1, false, [.v .nilFunc], [], .func, 8⟩),
  (172, ⟨1, false, [.v .nilFunc], [], .func, 8⟩),
  (173, ⟨1, false, [.v .nilFunc], [], .func, 8⟩),
  (174, ⟨1, false, [.v .nilFunc], [], .func, 8⟩),
  (175, ⟨1, false, [.v .nilFunc], [], .func, 8⟩),
  (177, ⟨1, false, [.v .nilFunc], [], .func, 8⟩),
  (178, ⟨1, false, [.v .nilFunc], [], .func, 8⟩),
  (179, ⟨1, false, [.v .nilFunc], [], .func, 8⟩),
  (180, ⟨1, false, [.v .nilFunc], [], .func, 8⟩),
  (181, ⟨1, false, [.v (.slice none 0 0)], [], .slice 4, 24⟩),
  (182, ⟨1, false, [.v .nilFunc], [], .func, 8⟩),
  (183, ⟨1, false, [.v .nilFunc], [], .func, 8⟩),
  (184, ⟨1, false, [.v (.slice none 0 0)], [], .slice 5, 24⟩),
  (185, ⟨1, false, [.v .nilFunc], [], .func, 8⟩),
  (186, ⟨1, false, [.v .nilFunc], [], .func, 8⟩),
  (187, ⟨1, false, [.v .nilFunc], [], .func, 8⟩),
  (188, ⟨1, false, [.v .nilFunc], [], .func, 8⟩),
  (189, ⟨1, false, [.v .nilFunc], [], .func, 8⟩),
  (190, ⟨1, false, [.v .nilFunc], [], .func, 8⟩),
  (191, ⟨1, false, [.v .nilFunc], [], .func, 8⟩),
  (192, ⟨1, false, [.v .nilFunc], [], .func, 8⟩),
  (193, ⟨1, false, [.v (.map none)], [], .map 9 4, 8⟩),
  (194, ⟨1, false, [.v .nilFunc], [], .func, 8⟩),
  (195, ⟨1, false, [.v .nilFunc], [], .func, 8⟩),
  (197, ⟨1, false, [.v .nilFunc], [], .func, 8⟩),
  (199, ⟨1, false, [.v .nilFunc], [], .func, 8⟩),
  (200, ⟨1, false, [.v (.slice none 0 0)], [], .slice 32, 24⟩),
  (201, ⟨1, false, [.v .nilFunc], [], .func, 8⟩),
  (202, ⟨1, false, [.v .nilFunc], [], .func, 8⟩),
  (203, ⟨1, false, [.v .nilFunc], [], .func, 8⟩),
  (204, ⟨1, false, [.v .nilFunc], [], .func, 8⟩),
  (205, ⟨1, false, [.v .nilFunc], [], .func, 8⟩),
  (206, ⟨3, true, [.v (.int .u8 0), .v (.int .u8 0), .v (.int .i32 0)], [(0, 1, some false), (1, 1, some false), (2, 1, some false)], .struct, 8⟩),
  (207, ⟨3, true, [.v (.int .u8 0), .v (.int .u8 0), .v (.int .i32 0)], [(0, 1, some false), (1, 1, some false), (2, 1, some false)], .struct, 8⟩),
  (208, ⟨12, true, [.v (.int .u8 0), .v (.int .u8 0), .v (.int .i32 0), .v (.int .u8 0), .v (.int .u8 0), .v (.int .i32 0), .v (.int .u8 0), .v (.int .u8 0), .v (.int .i32 0), .v (.int .u8 0), .v (.int .u8 0), .v (.int .i32 0)], [], .array 4 207, 32⟩),
  (209, ⟨1, false, [.v .nilFunc], [], .func, 8⟩),
  (210, ⟨1, false, [.v (.int .u64 0)], [], .int .u64, 8⟩),
  (211, ⟨1, false, [.v .nilFunc], [], .func, 8⟩),
  (212, ⟨1, false, [.v .nilFunc], [], .func, 8⟩),
  (214, ⟨256, true, List.replicate 256 .ff, [], .array 256 4, 256⟩),
  (216, ⟨1, false, [.v .nilFunc], [], .func, 8⟩),
  (217, ⟨1, false, [.v .nilFunc], [], .func, 8⟩),
  (218, ⟨1, false, [.v (.pointer none)], [], .ptr 214, 8⟩),
  (219, ⟨1, false, [.v .nilFunc], [], .func, 8⟩),
  (220, ⟨1, false, [.v .nilFunc], [], .func, 8⟩),
  (221, ⟨1, false, [.v .nilFunc], [], .func, 8⟩),
  (222, ⟨1, false, [.v .nilFunc], [], .func, 8⟩),
  (223, ⟨1, false, [.v .nilFunc], [], .func, 8⟩),
  (224, ⟨1, false, [.v .nilFunc], [], .func, 8⟩),
  (225, ⟨1, false, [.v .nilFunc], [], .func, 8⟩),
  (226, ⟨1, false, [.v .nilFunc], [], .func, 8⟩),
  (228, ⟨2, true, [.v (.int .u8 0), .v (.int .u8 0)], [(0, 1, some false), (1, 1, some false)], .struct, 2⟩),
  (229, ⟨2, true, [.v (.int .u8 0), .v (.int .u8 0)], [(0, 1, some false), (1, 1, some false)], .struct, 2⟩),
  (230, ⟨32, true, [.v (.int .u8 0), .v (.int .u8 0), .v (.int .u8 0), .v (.int .u8 0), .v (.int .u8 0), .v (.int .u8 0), .v (.int .u8 0), .v (.int .u8 0), .v (.int .u8 0), .v (.int .u8 0), .v (.int .u8 0), .v (.int .u8 0), .v (.int .u8 0), .v (.int .u8 0), .v (.int .u8 0), .v (.int .u8 0), .v (.int .u8 0), .v (.int .u8 0), .v (.int .u8 0), .v (.int .u8 0), .v (.int .u8 0), .v (.int .u8 0), .v (.int .u8 0), .v (.int .u8 0), .v (.int .u8 0), .v (.int .u8 0), .v (.int .u8 0), .v (.int .u8 0), .v (.int .u8 0), .v (.int .u8 0), .v (.int .u8 0), .v (.int .u8 0)], [], .array 16 229, 32⟩),
  (231, ⟨1, false, [.v .nilFunc], [], .func, 8⟩),
  (232, ⟨1, false, [.v .nilFunc], [], .func, 8⟩),
  (233, ⟨1, false, [.v .nilFunc], [], .func, 8⟩),
  (234, ⟨4, true, [.v (.pointer none), .v (.pointer none), .v (.pointer none), .v (.string ⟨#[]⟩)], [(0, 1, some false), (1, 1, some false), (2, 1, some false), (3, 1, some false)], .struct, 40⟩),
  (235, ⟨4, true, [.v (.pointer none), .v (.pointer none), .v (.pointer none), .v (.string ⟨#[]⟩)], [(0, 1, some false), (1, 1, some false), (2, 1, some false), (3, 1, some false)], .struct, 40⟩),
  (236, ⟨0, true, [], [], .array 0 16, 0⟩),
  (237, ⟨0, true, [], [(0, 0, some true)], .struct, 0⟩),
  (238, ⟨0, true, [], [(0, 0, some true)], .struct, 0⟩),
  (239, ⟨1, false, [.v (.int .u32 0)], [], .int .u32, 4⟩),
  (240, ⟨1, false, [.v (.int .u8 0)], [], .int .u8, 1⟩),
  (241, ⟨1, false, [.v (.int .u8 0)], [], .int .u8, 1⟩),
  (242, ⟨1, false, [.v .nilFunc], [], .func, 8⟩),
  (243, ⟨1, false, [.v (.pointer none)], [], .ptr 5, 8⟩),
  (244, ⟨1, false, [.v (.int .i32 0)], [], .int .i32, 4⟩),
  (245, ⟨1, false, [.v (.int .i32 0)], [], .int .i32, 4⟩),
  (246, ⟨11, true, [.v (.int .u64 0), .v (.int .u64 0), .v (.int .u32 0), .v (.int .u8 0), .v (.int .u8 0), .v (.int .u8 0), .v (.int .u8 0), .v .nilFunc, .v (.pointer none), .v (.int .i32 0), .v (.int .i32 0)], [(0, 1, some false), (1, 1, some false), (2, 1, some false), (3, 1, some false), (4, 1, some false), (5, 1, some false), (6, 1, some false), (7, 1, some false), (8, 1, some false), (9, 1, some false), (10, 1, some false)], .struct, 48⟩),
  (247, ⟨11, true, [.v (.int .u64 0), .v (.int .u64 0), .v (.int .u32 0), .v (.int .u8 0), .v (.int .u8 0), .v (.int .u8 0), .v (.int .u8 0), .v .nilFunc, .v (.pointer none), .v (.int .i32 0), .v (.int .i32 0)], [(0, 1, some false), (1, 1, some false), (2, 1, some false), (3, 1, some false), (4, 1, some false), (5, 1, some false), (6, 1, some false), (7, 1, some false), (8, 1, some false), (9, 1, some false), (10, 1, some false)], .struct, 48⟩),
  (248, ⟨1, false, [.v (.pointer none)], [], .other, 8⟩)
]
theorem tt1 : tiOf Tryd.prog 1 = some ⟨1, false, [.v .nilFunc], [], .func, 8⟩ := by kernel_rfl
theorem tt2 : tiOf Tryd.prog 2 = some ⟨1, false, [.v (.int .i64 0)], [], .int .i64, 8⟩ := by kernel_rfl
theorem tt3 : tiOf Tryd.prog 3 = some ⟨1, false, [.v (.int .i64 0)], [], .int .i64, 8⟩ := by kernel_rfl
theorem tt4 : tiOf Tryd.prog 4 = some ⟨1, false, [.ff], [], .bool, 1⟩ := by kernel_rfl
theorem tt5 : tiOf Tryd.prog 5 = some ⟨1, false, [.v (.int .u8 0)], [], .int .u8, 1⟩ := by kernel_rfl
theorem tt6 : tiOf Tryd.prog 6 = some ⟨1, false, [.v (.int .u8 0)], [], .int .u8, 1⟩ := by kernel_rfl
theorem tt7 : tiOf Tryd.prog 7 = some ⟨4, true, [.v (.int .i64 0), .v (.int .i64 0), .ff, .v (.int .u8 0)], [(0, 1, some false), (1, 1, some false), (2, 1, some false), (3, 1, some false)], .struct, 24⟩ := by kernel_rfl
theorem tt8 : tiOf Tryd.prog 8 = some ⟨4, true, [.v (.int .i64 0), .v (.int .i64 0), .ff, .v (.int .u8 0)], [(0, 1, some false), (1, 1, some false), (2, 1, some false), (3, 1, some false)], .struct, 24⟩ := by kernel_rfl
theorem tt9 : tiOf Tryd.prog 9 = some ⟨1, false, [.v (.string ⟨#[]⟩)], [], .str, 16⟩ := by kernel_rfl
theorem tt10 : tiOf Tryd.prog 10 = some ⟨1, false, [.v (.string ⟨#[]⟩)], [], .str, 16⟩ := by kernel_rfl
theorem tt11 : tiOf Tryd.prog 11 = some ⟨1, false, [.v (.string ⟨#[]⟩)], [], .str, 16⟩ := by kernel_rfl
theorem tt12 : tiOf Tryd.prog 12 = some ⟨1, false, [.v (.int .u64 0)], [], .int .u64, 8⟩ := by kernel_rfl
theorem tt13 : tiOf Tryd.prog 13 = some ⟨2, true, [.v (.string ⟨#[]⟩), .v (.int .u64 0)], [(0, 1, some false), (1, 1, some false)], .struct, 24⟩ := by kernel_rfl
theorem tt14 : tiOf Tryd.prog 14 = some ⟨2, true, [.v (.string ⟨#[]⟩), .v (.int .u64 0)], [(0, 1, some false), (1, 1, some false)], .struct, 24⟩ := by kernel_rfl
theorem tt15 : tiOf Tryd.prog 15 = some ⟨1, false, [.v (.pointer none)], [], .ptr 235, 8⟩ := by kernel_rfl
theorem tt16 : tiOf Tryd.prog 16 = some ⟨1, false, [.v (.pointer none)], [], .ptr 238, 8⟩ := by kernel_rfl
theorem tt17 : tiOf Tryd.prog 17 = some ⟨1, false, [.v (.pointer none)], [], .ptr 247, 8⟩ := by kernel_rfl
theorem tt18 : tiOf Tryd.prog 18 = some ⟨1, true, [.v (.pointer none)], [(0, 1, some false)], .struct, 8⟩ := by kernel_rfl
theorem tt19 : tiOf Tryd.prog 19 = some ⟨1, true, [.v (.pointer none)], [(0, 1, some false)], .struct, 8⟩ := by kernel_rfl
theorem tt20 : tiOf Tryd.prog 20 = some ⟨1, false, [.v .nilIface], [], .iface, 16⟩ := by kernel_rfl
theorem tt21 : tiOf Tryd.prog 21 = some ⟨1, false, [.v (.int .i32 0)], [], .int .i32, 4⟩ := by kernel_rfl
theorem tt22 : tiOf Tryd.prog 22 = some ⟨3, true, [.ff, .v (.string ⟨#[]⟩), .v (.int .i64 0)], [(0, 1, some false), (1, 1, some false), (2, 1, some false)], .struct, 32⟩ := by kernel_rfl
theorem tt23 : tiOf Tryd.prog 23 = some ⟨3, true, [.ff, .v (.string ⟨#[]⟩), .v (.int .i64 0)], [(0, 1, some false), (1, 1, some false), (2, 1, some false)], .struct, 32⟩ := by kernel_rfl
theorem tt24 : tiOf Tryd.prog 24 = some ⟨1, false, [.v (.slice none 0 0)], [], .slice 27, 24⟩ := by kernel_rfl
theorem tt25 : tiOf Tryd.prog 25 = some ⟨1, false, [.v (.slice none 0 0)], [], .slice 125, 24⟩ := by kernel_rfl
theorem tt26 : tiOf Tryd.prog 26 = some ⟨8, true, [.v (.int .i64 0), .ff, .ff, .v (.string ⟨#[]⟩), .v (.int .i64 0), .v (.string ⟨#[]⟩), .v (.slice none 0 0), .v (.slice none 0 0)], [(0, 1, some false), (1, 1, some false), (2, 3, some true), (5, 1, some false), (6, 1, some false), (7, 1, some false)], .struct, 112⟩ := by kernel_rfl
theorem tt27 : tiOf Tryd.prog 27 = some ⟨8, true, [.v (.int .i64 0), .ff, .ff, .v (.string ⟨#[]⟩), .v (.int .i64 0), .v (.string ⟨#[]⟩), .v (.slice none 0 0), .v (.slice none 0 0)], [(0, 1, some false), (1, 1, some false), (2, 3, some true), (5, 1, some false), (6, 1, some false), (7, 1, some false)], .struct, 112⟩ := by kernel_rfl
theorem tt28 : tiOf Tryd.prog 28 = some ⟨1, false, [.v .nilFunc], [], .func, 8⟩ := by kernel_rfl
theorem tt29 : tiOf Tryd.prog 29 = some ⟨1, false, [.v .nilFunc], [], .func, 8⟩ := by kernel_rfl
theorem tt30 : tiOf Tryd.prog 30 = some ⟨1, false, [.v (.int .i64 0)], [], .int .i64, 8⟩ := by kernel_rfl
theorem tt31 : tiOf Tryd.prog 31 = some ⟨1, false, [.v .nilFunc], [], .func, 8⟩ := by kernel_rfl
theorem tt32 : tiOf Tryd.prog 32 = some ⟨1, false, [.v (.slice none 0 0)], [], .slice 36, 24⟩ := by kernel_rfl
theorem tt34 : tiOf Tryd.prog 34 = some ⟨1, false, [.v .nilFunc], [], .func, 8⟩ := by kernel_rfl
theorem tt35 : tiOf Tryd.prog 35 = some ⟨11, true, [.v (.int .i64 0), .v (.int .i64 0), .v (.int .i64 0), .v (.int .i64 0), .ff, .v (.string ⟨#[]⟩), .ff, .ff, .v (.string ⟨#[]⟩), .v (.int .i64 0), .v (.string ⟨#[]⟩)], [(0, 1, some false), (1, 1, some false), (2, 1, some false), (3, 1, some false), (4, 1, some false), (5, 1, some false), (6, 1, some false), (7, 3, some true), (10, 1, some false)], .struct, 112⟩ := by kernel_rfl
theorem tt36 : tiOf Tryd.prog 36 = some ⟨11, true, [.v (.int .i64 0), .v (.int .i64 0), .v (.int .i64 0), .v (.int .i64 0), .ff, .v (.string ⟨#[]⟩), .ff, .ff, .v (.string ⟨#[]⟩), .v (.int .i64 0), .v (.string ⟨#[]⟩)], [(0, 1, some false), (1, 1, some false), (2, 1, some false), (3, 1, some false), (4, 1, some false), (5, 1, some false), (6, 1, some false), (7, 3, some true), (10, 1, some false)], .struct, 112⟩ := by kernel_rfl
theorem tt38 : tiOf Tryd.prog 38 = some ⟨1, false, [.v .nilFunc], [], .func, 8⟩ := by kernel_rfl
theorem tt39 : tiOf Tryd.prog 39 = some ⟨1, false, [.v .nilFunc], [], .func, 8⟩ := by kernel_rfl
theorem tt40 : tiOf Tryd.prog 40 = some ⟨1, false, [.v .nilFunc], [], .func, 8⟩ := by kernel_rfl
theorem tt41 : tiOf Tryd.prog 41 = some ⟨1, false, [.v .nilFunc], [], .func, 8⟩ := by kernel_rfl
theorem tt42 : tiOf Tryd.prog 42 = some ⟨1, false, [.v .nilFunc], [], .func, 8⟩ := by kernel_rfl
theorem tt43 : tiOf Tryd.prog 43 = some ⟨1, false, [.v (.slice none 0 0)], [], .slice 3, 24⟩ := by kernel_rfl
theorem tt44 : tiOf Tryd.prog 44 = some ⟨1, false, [.v .nilFunc], [], .func, 8⟩ := by kernel_rfl
theorem tt45 : tiOf Tryd.prog 45 = some ⟨1, false, [.v (.slice none 0 0)], [], .slice 129, 24⟩ := by kernel_rfl
theorem tt46 : tiOf Tryd.prog 46 = some ⟨1, false, [.v .nilFunc], [], .func, 8⟩ := by kernel_rfl
theorem tt47 : tiOf Tryd.prog 47 = some ⟨1, false, [.v .nilFunc], [], .func, 8⟩ := by kernel_rfl
theorem tt48 : tiOf Tryd.prog 48 = some ⟨1, false, [.v (.slice none 0 0)], [], .slice 132, 24⟩ := by kernel_rfl
theorem tt49 : tiOf Tryd.prog 49 = some ⟨1, false, [.v .nilFunc], [], .func, 8⟩ := by kernel_rfl
theorem tt51 : tiOf Tryd.prog 51 = some ⟨1, false, [.v .nilFunc], [], .func, 8⟩ := by kernel_rfl
theorem tt52 : tiOf Tryd.prog 52 = some ⟨1, false, [.v .nilFunc], [], .func, 8⟩ := by kernel_rfl
theorem tt53 : tiOf Tryd.prog 53 = some ⟨1, false, [.v .nilFunc], [], .func, 8⟩ := by kernel_rfl
theorem tt54 : tiOf Tryd.prog 54 = some ⟨1, false, [.v .nilFunc], [], .func, 8⟩ := by kernel_rfl
theorem tt55 : tiOf Tryd.prog 55 = some ⟨1, false, [.v .nilFunc], [], .func, 8⟩ := by kernel_rfl
theorem tt56 : tiOf Tryd.prog 56 = some ⟨1, false, [.v .nilFunc], [], .func, 8⟩ := by kernel_rfl
theorem tt57 : tiOf Tryd.prog 57 = some ⟨1, false, [.v .nilFunc], [], .func, 8⟩ := by kernel_rfl
theorem tt58 : tiOf Tryd.prog 58 = some ⟨1, false, [.v .nilFunc], [], .func, 8⟩ := by kernel_rfl
theorem tt59 : tiOf Tryd.prog 59 = some ⟨1, false, [.v .nilFunc], [], .func, 8⟩ := by kernel_rfl
theorem tt60 : tiOf Tryd.prog 60 = some ⟨1, false, [.v .nilFunc], [], .func, 8⟩ := by kernel_rfl
theorem tt61 : tiOf Tryd.prog 61 = some ⟨1, false, [.v .nilFunc], [], .func, 8⟩ := by kernel_rfl
theorem tt62 : tiOf Tryd.prog 62 = some ⟨1, false, [.v .nilFunc], [], .func, 8⟩ := by kernel_rfl
theorem tt63 : tiOf Tryd.prog 63 = some ⟨1, false, [.v .nilFunc], [], .func, 8⟩ := by kernel_rfl
theorem tt64 : tiOf Tryd.prog 64 = some ⟨1, false, [.v .nilFunc], [], .func, 8⟩ := by kernel_rfl
theorem tt66 : tiOf Tryd.prog 66 = some ⟨1, false, [.v .nilFunc], [], .func, 8⟩ := by kernel_rfl
theorem tt67 : tiOf Tryd.prog 67 = some ⟨1, false, [.v (.slice none 0 0)], [], .slice 75, 24⟩ := by kernel_rfl
theorem tt68 : tiOf Tryd.prog 68 = some ⟨1, false, [.v .nilFunc], [], .func, 8⟩ := by kernel_rfl
theorem tt69 : tiOf Tryd.prog 69 = some ⟨1, false, [.v (.slice none 0 0)], [], .slice 85, 24⟩ := by kernel_rfl
theorem tt70 : tiOf Tryd.prog 70 = some ⟨2, true, [.v (.slice none 0 0), .v (.int .i64 0)], [(0, 1, some false), (1, 1, some false)], .struct, 32⟩ := by kernel_rfl
theorem tt71 : tiOf Tryd.prog 71 = some ⟨2, true, [.v (.slice none 0 0), .v (.int .i64 0)], [(0, 1, some false), (1, 1, some false)], .struct, 32⟩ := by kernel_rfl
theorem tt73 : tiOf Tryd.prog 73 = some ⟨1, false, [.v .nilFunc], [], .func, 8⟩ := by kernel_rfl
theorem tt74 : tiOf Tryd.prog 74 = some ⟨1, false, [.v .nilFunc], [], .func, 8⟩ := by kernel_rfl
theorem tt75 : tiOf Tryd.prog 75 = some ⟨1, false, [.v (.slice none 0 0)], [], .slice 9, 24⟩ := by kernel_rfl
theorem tt76 : tiOf Tryd.prog 76 = some ⟨1, false, [.v .nilFunc], [], .func, 8⟩ := by kernel_rfl
theorem tt77 : tiOf Tryd.prog 77 = some ⟨1, false, [.v (.slice none 0 0)], [], .slice 144, 24⟩ := by kernel_rfl
theorem tt78 : tiOf Tryd.prog 78 = some ⟨2, true, [.v (.slice none 0 0), .v (.int .i64 0)], [(0, 1, some false), (1, 1, some false)], .struct, 32⟩ := by kernel_rfl
theorem tt79 : tiOf Tryd.prog 79 = some ⟨2, true, [.v (.slice none 0 0), .v (.int .i64 0)], [(0, 1, some false), (1, 1, some false)], .struct, 32⟩ := by kernel_rfl
theorem tt80 : tiOf Tryd.prog 80 = some ⟨1, false, [.v .nilFunc], [], .func, 8⟩ := by kernel_rfl
theorem tt81 : tiOf Tryd.prog 81 = some ⟨1, false, [.v .nilFunc], [], .func, 8⟩ := by kernel_rfl
theorem tt82 : tiOf Tryd.prog 82 = some ⟨1, false, [.v .nilFunc], [], .func, 8⟩ := by kernel_rfl
theorem tt83 : tiOf Tryd.prog 83 = some ⟨1, false, [.v .nilFunc], [], .func, 8⟩ := by kernel_rfl
theorem tt84 : tiOf Tryd.prog 84 = some ⟨3, true, [.v (.int .i64 0), .v (.slice none 0 0), .v (.int .i64 0)], [(0, 1, some false), (1, 1, some false), (2, 1, some false)], .struct, 40⟩ := by kernel_rfl
theorem tt85 : tiOf Tryd.prog 85 = some ⟨3, true, [.v (.int .i64 0), .v (.slice none 0 0), .v (.int .i64 0)], [(0, 1, some false), (1, 1, some false), (2, 1, some false)], .struct, 40⟩ := by kernel_rfl
theorem tt86 : tiOf Tryd.prog 86 = some ⟨1, false, [.v .nilFunc], [], .func, 8⟩ := by kernel_rfl
theorem tt87 : tiOf Tryd.prog 87 = some ⟨1, false, [.v .nilFunc], [], .func, 8⟩ := by kernel_rfl
theorem tt88 : tiOf Tryd.prog 88 = some ⟨2, true, [.v (.int .i64 0), .v (.string ⟨#[]⟩)], [(0, 1, some false), (1, 1, some false)], .struct, 24⟩ := by kernel_rfl
theorem tt89 : tiOf Tryd.prog 89 = some ⟨2, true, [.v (.int .i64 0), .v (.string ⟨#[]⟩)], [(0, 1, some false), (1, 1, some false)], .struct, 24⟩ := by kernel_rfl
theorem tt90 : tiOf Tryd.prog 90 = some ⟨1, false, [.v (.slice none 0 0)], [], .slice 89, 24⟩ := by kernel_rfl
theorem tt91 : tiOf Tryd.prog 91 = some ⟨1, false, [.v .nilFunc], [], .func, 8⟩ := by kernel_rfl
theorem tt92 : tiOf Tryd.prog 92 = some ⟨1, false, [.v .nilFunc], [], .func, 8⟩ := by kernel_rfl
theorem tt93 : tiOf Tryd.prog 93 = some ⟨1, false, [.v .nilFunc], [], .func, 8⟩ := by kernel_rfl
theorem tt94 : tiOf Tryd.prog 94 = some ⟨1, false, [.v .nilFunc], [], .func, 8⟩ := by kernel_rfl
theorem tt95 : tiOf Tryd.prog 95 = some ⟨1, false, [.v .nilFunc], [], .func, 8⟩ := by kernel_rfl
theorem tt96 : tiOf Tryd.prog 96 = some ⟨1, false, [.v .nilFunc], [], .func, 8⟩ := by kernel_rfl
theorem tt97 : tiOf Tryd.prog 97 = some ⟨2, true, [.v (.int .i64 0), .v (.int .i64 0)], [(0, 1, some false), (1, 1, some false)], .struct, 16⟩ := by kernel_rfl
theorem tt98 : tiOf Tryd.prog 98 = some ⟨2, true, [.v (.int .i64 0), .v (.int .i64 0)], [(0, 1, some false), (1, 1, some false)], .struct, 16⟩ := by kernel_rfl
theorem tt100 : tiOf Tryd.prog 100 = some ⟨1, false, [.v .nilFunc], [], .func, 8⟩ := by kernel_rfl
theorem tt101 : tiOf Tryd.prog 101 = some ⟨1, false, [.v .nilFunc], [], .func, 8⟩ := by kernel_rfl
theorem tt102 : tiOf Tryd.prog 102 = some ⟨1, false, [.v .nilFunc], [], .func, 8⟩ := by kernel_rfl
theorem tt103 : tiOf Tryd.prog 103 = some ⟨1, false, [.v .nilFunc], [], .func, 8⟩ := by kernel_rfl
theorem tt104 : tiOf Tryd.prog 104 = some ⟨1, false, [.v .nilFunc], [], .func, 8⟩ := by kernel_rfl
theorem tt105 : tiOf Tryd.prog 105 = some ⟨1, false, [.v .nilFunc], [], .func, 8⟩ := by kernel_rfl
theorem tt106 : tiOf Tryd.prog 106 = some ⟨1, false, [.v .nilFunc], [], .func, 8⟩ := by kernel_rfl
theorem tt107 : tiOf Tryd.prog 107 = some ⟨1, false, [.v .nilFunc], [], .func, 8⟩ := by kernel_rfl
theorem tt108 : tiOf Tryd.prog 108 = some ⟨1, false, [.v .nilFunc], [], .func, 8⟩ := by kernel_rfl
theorem tt109 : tiOf Tryd.prog 109 = some ⟨1, false, [.v .nilFunc], [], .func, 8⟩ := by kernel_rfl
theorem tt110 : tiOf Tryd.prog 110 = some ⟨1, false, [.v .nilFunc], [], .func, 8⟩ := by kernel_rfl
theorem tt111 : tiOf Tryd.prog 111 = some ⟨1, false, [.v .nilFunc], [], .func, 8⟩ := by kernel_rfl
theorem tt112 : tiOf Tryd.prog 112 = some ⟨1, false, [.v (.pointer none)], [], .ptr 114, 8⟩ := by kernel_rfl
theorem tt113 : tiOf Tryd.prog 113 = some ⟨1, true, [.v (.int .i64 0)], [(0, 1, some false)], .struct, 8⟩ := by kernel_rfl
theorem tt114 : tiOf Tryd.prog 114 = some ⟨1, true, [.v (.int .i64 0)], [(0, 1, some false)], .struct, 8⟩ := by kernel_rfl
theorem tt115 : tiOf Tryd.prog 115 = some ⟨1, false, [.v .nilFunc], [], .func, 8⟩ := by kernel_rfl
theorem tt116 : tiOf Tryd.prog 116 = some ⟨1, false, [.v (.pointer none)], [], .ptr 118, 8⟩ := by kernel_rfl
theorem tt117 : tiOf Tryd.prog 117 = some ⟨3, true, [.v (.slice none 0 0), .v (.int .i64 0), .v (.int .i64 0)], [(0, 1, some false), (1, 1, some false), (2, 1, some false)], .struct, 40⟩ := by kernel_rfl
theorem tt118 : tiOf Tryd.prog 118 = some ⟨3, true, [.v (.slice none 0 0), .v (.int .i64 0), .v (.int .i64 0)], [(0, 1, some false), (1, 1, some false), (2, 1, some false)], .struct, 40⟩ := by kernel_rfl
theorem tt119 : tiOf Tryd.prog 119 = some ⟨1, false, [.v .nilFunc], [], .func, 8⟩ := by kernel_rfl
theorem tt120 : tiOf Tryd.prog 120 = some ⟨1, false, [.v (.pointer none)], [], .ptr 122, 8⟩ := by kernel_rfl
theorem tt121 : tiOf Tryd.prog 121 = some ⟨2, true, [.v (.slice none 0 0), .v (.int .i64 0)], [(0, 1, some false), (1, 1, some false)], .struct, 32⟩ := by kernel_rfl
theorem tt122 : tiOf Tryd.prog 122 = some ⟨2, true, [.v (.slice none 0 0), .v (.int .i64 0)], [(0, 1, some false), (1, 1, some false)], .struct, 32⟩ := by kernel_rfl
theorem tt123 : tiOf Tryd.prog 123 = some ⟨1, false, [.v .nilFunc], [], .func, 8⟩ := by kernel_rfl
theorem tt124 : tiOf Tryd.prog 124 = some ⟨9, true, [.v (.string ⟨#[]⟩), .v (.int .i64 0), .ff, .ff, .v (.string ⟨#[]⟩), .v (.int .i64 0), .v (.string ⟨#[]⟩), .v (.slice none 0 0), .v (.slice none 0 0)], [(0, 1, some false), (1, 8, some true)], .struct, 128⟩ := by kernel_rfl
theorem tt125 : tiOf Tryd.prog 125 = some ⟨9, true, [.v (.string ⟨#[]⟩), .v (.int .i64 0), .ff, .ff, .v (.string ⟨#[]⟩), .v (.int .i64 0), .v (.string ⟨#[]⟩), .v (.slice none 0 0), .v (.slice none 0 0)], [(0, 1, some false), (1, 8, some true)], .struct, 128⟩ := by kernel_rfl
theorem tt126 : tiOf Tryd.prog 126 = some ⟨1, false, [.v .nilFunc], [], .func, 8⟩ := by kernel_rfl
theorem tt127 : tiOf Tryd.prog 127 = some ⟨1, false, [.v .nilFunc], [], .func, 8⟩ := by kernel_rfl
theorem tt128 : tiOf Tryd.prog 128 = some ⟨3, true, [.v (.string ⟨#[]⟩), .v (.int .i64 0), .ff], [(0, 1, some false), (1, 1, some false), (2, 1, some false)], .struct, 32⟩ := by kernel_rfl
theorem tt129 : tiOf Tryd.prog 129 = some ⟨3, true, [.v (.string ⟨#[]⟩), .v (.int .i64 0), .ff], [(0, 1, some false), (1, 1, some false), (2, 1, some false)], .struct, 32⟩ := by kernel_rfl
theorem tt130 : tiOf Tryd.prog 130 = some ⟨1, false, [.v .nilFunc], [], .func, 8⟩ := by kernel_rfl
theorem tt131 : tiOf Tryd.prog 131 = some ⟨1, false, [.v .nilFunc], [], .func, 8⟩ := by kernel_rfl
theorem tt132 : tiOf Tryd.prog 132 = some ⟨11, true, [.v (.int .i64 0), .v (.int .i64 0), .v (.int .i64 0), .v (.int .i64 0), .ff, .v (.string ⟨#[]⟩), .ff, .ff, .v (.string ⟨#[]⟩), .v (.int .i64 0), .v (.string ⟨#[]⟩)], [(0, 1, some false), (1, 1, some false), (2, 1, some false), (3, 1, some false), (4, 1, some false), (5, 1, some false), (6, 1, some false), (7, 3, some true), (10, 1, some false)], .struct, 112⟩ := by kernel_rfl
theorem tt133 : tiOf Tryd.prog 133 = some ⟨1, false, [.v (.pointer none)], [], .ptr 135, 8⟩ := by kernel_rfl
theorem tt134 : tiOf Tryd.prog 134 = some ⟨3, true, [.v (.slice none 0 0), .v (.int .i64 0), .v (.int .i64 0)], [(0, 1, some false), (1, 1, some false), (2, 1, some false)], .struct, 40⟩ := by kernel_rfl
theorem tt135 : tiOf Tryd.prog 135 = some ⟨3, true, [.v (.slice none 0 0), .v (.int .i64 0), .v (.int .i64 0)], [(0, 1, some false), (1, 1, some false), (2, 1, some false)], .struct, 40⟩ := by kernel_rfl
theorem tt136 : tiOf Tryd.prog 136 = some ⟨1, false, [.v .nilFunc], [], .func, 8⟩ := by kernel_rfl
theorem tt138 : tiOf Tryd.prog 138 = some ⟨1, false, [.v .nilFunc], [], .func, 8⟩ := by kernel_rfl
theorem tt140 : tiOf Tryd.prog 140 = some ⟨1, false, [.v .nilFunc], [], .func, 8⟩ := by kernel_rfl
theorem tt141 : tiOf Tryd.prog 141 = some ⟨1, false, [.v .nilFunc], [], .func, 8⟩ := by kernel_rfl
theorem tt142 : tiOf Tryd.prog 142 = some ⟨1, false, [.v .nilFunc], [], .func, 8⟩ := by kernel_rfl
theorem tt143 : tiOf Tryd.prog 143 = some ⟨1, false, [.v .nilFunc], [], .func, 8⟩ := by kernel_rfl
theorem tt144 : tiOf Tryd.prog 144 = some ⟨3, true, [.v (.int .i64 0), .v (.slice none 0 0), .v (.int .i64 0)], [(0, 1, some false), (1, 1, some false), (2, 1, some false)], .struct, 40⟩ := by kernel_rfl
theorem tt145 : tiOf Tryd.prog 145 = some ⟨1, false, [.v .nilFunc], [], .func, 8⟩ := by kernel_rfl
theorem tt146 : tiOf Tryd.prog 146 = some ⟨1, false, [.v .nilFunc], [], .func, 8⟩ := by kernel_rfl
theorem tt147 : tiOf Tryd.prog 147 = some ⟨1, false, [.v .nilFunc], [], .func, 8⟩ := by kernel_rfl
theorem tt148 : tiOf Tryd.prog 148 = some ⟨1, false, [.v .nilFunc], [], .func, 8⟩ := by kernel_rfl
theorem tt149 : tiOf Tryd.prog 149 = some ⟨1, false, [.v .nilFunc], [], .func, 8⟩ := by kernel_rfl
theorem tt150 : tiOf Tryd.prog 150 = some ⟨1, false, [.v .nilFunc], [], .func, 8⟩ := by kernel_rfl
theorem tt151 : tiOf Tryd.prog 151 = some ⟨1, false, [.v .nilFunc], [], .func, 8⟩ := by kernel_rfl
theorem tt152 : tiOf Tryd.prog 152 = some ⟨3, true, [.v (.int .i64 0), .v (.int .i64 0), .v (.int .i64 0)], [(0, 1, some false), (1, 1, some false), (2, 1, some false)], .struct, 24⟩ := by kernel_rfl
theorem tt153 : tiOf Tryd.prog 153 = some ⟨3, true, [.v (.int .i64 0), .v (.int .i64 0), .v (.int .i64 0)], [(0, 1, some false), (1, 1, some false), (2, 1, some false)], .struct, 24⟩ := by kernel_rfl
theorem tt155 : tiOf Tryd.prog 155 = some ⟨1, false, [.v .nilFunc], [], .func, 8⟩ := by kernel_rfl
theorem tt156 : tiOf Tryd.prog 156 = some ⟨1, false, [.v .nilFunc], [], .func, 8⟩ := by kernel_rfl
theorem tt157 : tiOf Tryd.prog 157 = some ⟨1, false, [.v .nilFunc], [], .func, 8⟩ := by kernel_rfl
theorem tt158 : tiOf Tryd.prog 158 = some ⟨24, true, [.v (.slice none 0 0), .v (.int .i64 0), .v (.int .i64 0), .v (.int .i64 0), .v (.int .i64 0), .v (.int .i64 0), .v (.int .i64 0), .ff, .v (.string ⟨#[]⟩), .ff, .ff, .v (.string ⟨#[]⟩), .v (.int .i64 0), .v (.string ⟨#[]⟩), .v (.int .i64 0), .ff, .ff, .v (.string ⟨#[]⟩), .v (.int .i64 0), .v (.string ⟨#[]⟩), .v (.slice none 0 0), .v (.slice none 0 0), .v (.int .i64 0), .v .nilFunc], [(0, 1, some false), (1, 1, some false), (2, 1, some false), (3, 11, some true), (14, 8, some true), (22, 1, some false), (23, 1, some false)], .struct, 280⟩ := by kernel_rfl
theorem tt159 : tiOf Tryd.prog 159 = some ⟨24, true, [.v (.slice none 0 0), .v (.int .i64 0), .v (.int .i64 0), .v (.int .i64 0), .v (.int .i64 0), .v (.int .i64 0), .v (.int .i64 0), .ff, .v (.string ⟨#[]⟩), .ff, .ff, .v (.string ⟨#[]⟩), .v (.int .i64 0), .v (.string ⟨#[]⟩), .v (.int .i64 0), .ff, .ff, .v (.string ⟨#[]⟩), .v (.int .i64 0), .v (.string ⟨#[]⟩), .v (.slice none 0 0), .v (.slice none 0 0), .v (.int .i64 0), .v .nilFunc], [(0, 1, some false), (1, 1, some false), (2, 1, some false), (3, 11, some true), (14, 8, some true), (22, 1, some false), (23, 1, some false)], .struct, 280⟩ := by kernel_rfl
theorem tt160 : tiOf Tryd.prog 160 = some ⟨1, false, [.v .nilFunc], [], .func, 8⟩ := by kernel_rfl
theorem tt161 : tiOf Tryd.prog 161 = some ⟨1, false, [.v .nilFunc], [], .func, 8⟩ := by kernel_rfl
theorem tt162 : tiOf Tryd.prog 162 = some ⟨1, false, [.v .nilFunc], [], .func, 8⟩ := by kernel_rfl
theorem tt163 : tiOf Tryd.prog 163 = some ⟨1, false, [.v .nilFunc], [], .func, 8⟩ := by kernel_rfl
theorem tt164 : tiOf Tryd.prog 164 = some ⟨1, false, [.v .nilFunc], [], .func, 8⟩ := by kernel_rfl
theorem tt165 : tiOf Tryd.prog 165 = some ⟨1, false, [.v .nilFunc], [], .func, 8⟩ := by kernel_rfl
theorem tt166 : tiOf Tryd.prog 166 = some ⟨1, false, [.v .nilFunc], [], .func, 8⟩ := by kernel_rfl
theorem tt167 : tiOf Tryd.prog 167 = some ⟨1, false, [.v .nilFunc], [], .func, 8⟩ := by kernel_rfl
theorem tt168 : tiOf Tryd.prog 168 = some ⟨1, false, [.v .nilFunc], [], .func, 8⟩ := by kernel_rfl
theorem tt169 : tiOf Tryd.prog 169 = some ⟨1, false, [.v .nilFunc], [], .func, 8⟩ := by kernel_rfl
theorem tt170 : tiOf Tryd.prog 170 = some ⟨1, false, [.v .nilFunc], [], .func, 8⟩ := by kernel_rfl
theorem tt171 : tiOf Tryd.prog 171 = some ⟨1, false, [.v .nilFunc], [], .func, 8⟩ := by kernel_rfl
theorem tt172 : tiOf Tryd.prog 172 = some ⟨1, false, [.v .nilFunc], [], .func, 8⟩ := by kernel_rfl
theorem tt173 : tiOf Tryd.prog 173 = some ⟨1, false, [.v .nilFunc], [], .func, 8⟩ := by kernel_rfl
theorem tt174 : tiOf Tryd.prog 174 = some ⟨1, false, [.v .nilFunc], [], .func, 8⟩ := by kernel_rfl
theorem tt175 : tiOf Tryd.prog 175 = some ⟨1, false, [.v .nilFunc], [], .func, 8⟩ := by kernel_rfl
theorem tt177 : tiOf Tryd.prog 177 = some ⟨1, false, [.v .nilFunc], [], .func, 8⟩ := by kernel_rfl
theorem tt178 : tiOf Tryd.prog 178 = some ⟨1, false, [.v .nilFunc], [], .func, 8⟩ := by kernel_rfl
theorem tt179 : tiOf Tryd.prog 179 = some ⟨1, false, [.v .nilFunc], [], .func, 8⟩ := by kernel_rfl
theorem tt180 : tiOf Tryd.prog 180 = some ⟨1, false, [.v .nilFunc], [], .func, 8⟩ := by kernel_rfl
theorem tt181 : tiOf Tryd.prog 181 = some ⟨1, false, [.v (.slice none 0 0)], [], .slice 4, 24⟩ := by kernel_rfl
theorem tt182 : tiOf Tryd.prog 182 = some ⟨1, false, [.v .nilFunc], [], .func, 8⟩ := by kernel_rfl
theorem tt183 : tiOf Tryd.prog 183 = some ⟨1, false, [.v .nilFunc], [], .func, 8⟩ := by kernel_rfl
theorem tt184 : tiOf Tryd.prog 184 = some ⟨1, false, [.v (.slice none 0 0)], [], .slice 5, 24⟩ := by kernel_rfl
theorem tt185 : tiOf Tryd.prog 185 = some ⟨1, false, [.v .nilFunc], [], .func, 8⟩ := by kernel_rfl
theorem tt186 : tiOf Tryd.prog 186 = some ⟨1, false, [.v .nilFunc], [], .func, 8⟩ := by kernel_rfl
theorem tt187 : tiOf Tryd.prog 187 = some ⟨1, false, [.v .nilFunc], [], .func, 8⟩ := by kernel_rfl
theorem tt188 : tiOf Tryd.prog 188 = some ⟨1, false, [.v .nilFunc], [], .func, 8⟩ := by kernel_rfl
theorem tt189 : tiOf Tryd.prog 189 = some ⟨1, false, [.v .nilFunc], [], .func, 8⟩ := by kernel_rfl
theorem tt190 : tiOf Tryd.prog 190 = some ⟨1, false, [.v .nilFunc], [], .func, 8⟩ := by kernel_rfl
theorem tt191 : tiOf Tryd.prog 191 = some ⟨1, false, [.v .nilFunc], [], .func, 8⟩ := by kernel_rfl
theorem tt192 : tiOf Tryd.prog 192 = some ⟨1, false, [.v .nilFunc], [], .func, 8⟩ := by kernel_rfl
theorem tt193 : tiOf Tryd.prog 193 = some ⟨1, false, [.v (.map none)], [], .map 9 4, 8⟩ := by kernel_rfl
theorem tt194 : tiOf Tryd.prog 194 = some ⟨1, false, [.v .nilFunc], [], .func, 8⟩ := by kernel_rfl
theorem tt195 : tiOf Tryd.prog 195 = some ⟨1, false, [.v .nilFunc], [], .func, 8⟩ := by kernel_rfl
theorem tt197 : tiOf Tryd.prog 197 = some ⟨1, false, [.v .nilFunc], [], .func, 8⟩ := by kernel_rfl
theorem tt199 : tiOf Tryd.prog 199 = some ⟨1, false, [.v .nilFunc], [], .func, 8⟩ := by kernel_rfl
theorem tt200 : tiOf Tryd.prog 200 = some ⟨1, false, [.v (.slice none 0 0)], [], .slice 32, 24⟩ := by kernel_rfl
theorem tt201 : tiOf Tryd.prog 201 = some ⟨1, false, [.v .nilFunc], [], .func, 8⟩ := by kernel_rfl
theorem tt202 : tiOf Tryd.prog 202 = some ⟨1, false, [.v .nilFunc], [], .func, 8⟩ := by kernel_rfl
theorem tt203 : tiOf Tryd.prog 203 = some ⟨1, false, [.v .nilFunc], [], .func, 8⟩ := by kernel_rfl
theorem tt204 : tiOf Tryd.prog 204 = some ⟨1, false, [.v .nilFunc], [], .func, 8⟩ := by kernel_rfl
theorem tt205 : tiOf Tryd.prog 205 = some ⟨1, false, [.v .nilFunc], [], .func, 8⟩ := by kernel_rfl
theorem tt206 : tiOf Tryd.prog 206 = some ⟨3, true, [.v (.int .u8 0), .v (.int .u8 0), .v (.int .i32 0)], [(0, 1, some false), (1, 1, some false), (2, 1, some false)], .struct, 8⟩ := by kernel_rfl
theorem tt207 : tiOf Tryd.prog 207 = some ⟨3, true, [.v (.int .u8 0), .v (.int .u8 0), .v (.int .i32 0)], [(0, 1, some false), (1, 1, some false), (2, 1, some false)], .struct, 8⟩ := by kernel_rfl
theorem tt208 : tiOf Tryd.prog 208 = some ⟨12, true, [.v (.int .u8 0), .v (.int .u8 0), .v (.int .i32 0), .v (.int .u8 0), .v (.int .u8 0), .v (.int .i32 0), .v (.int .u8 0), .v (.int .u8 0), .v (.int .i32 0), .v (.int .u8 0), .v (.int .u8 0), .v (.int .i32 0)], [], .array 4 207, 32⟩ := by kernel_rfl
theorem tt209 : tiOf Tryd.prog 209 = some ⟨1, false, [.v .nilFunc], [], .func, 8⟩ := by kernel_rfl
theorem tt210 : tiOf Tryd.prog 210 = some ⟨1, false, [.v (.int .u64 0)], [], .int .u64, 8⟩ := by kernel_rfl
theorem tt211 : tiOf Tryd.prog 211 = some ⟨1, false, [.v .nilFunc], [], .func, 8⟩ := by kernel_rfl
theorem tt212 : tiOf Tryd.prog 212 = some ⟨1, false, [.v .nilFunc], [], .func, 8⟩ := by kernel_rfl
theorem tt214 : tiOf Tryd.prog 214 = some ⟨256, true, List.replicate 256 .ff, [], .array 256 4, 256⟩ := by kernel_rfl
theorem tt216 : tiOf Tryd.prog 216 = some ⟨1, false, [.v .nilFunc], [], .func, 8⟩ := by kernel_rfl
theorem tt217 : tiOf Tryd.prog 217 = some ⟨1, false, [.v .nilFunc], [], .func, 8⟩ := by kernel_rfl
theorem tt218 : tiOf Tryd.prog 218 = some ⟨1, false, [.v (.pointer none)], [], .ptr 214, 8⟩ := by kernel_rfl
theorem tt219 : tiOf Tryd.prog 219 = some ⟨1, false, [.v .nilFunc], [], .func, 8⟩ := by kernel_rfl
theorem tt220 : tiOf Tryd.prog 220 = some ⟨1, false, [.v .nilFunc], [], .func, 8⟩ := by kernel_rfl
theorem tt221 : tiOf Tryd.prog 221 = some ⟨1, false, [.v .nilFunc], [], .func, 8⟩ := by kernel_rfl
theorem tt222 : tiOf Tryd.prog 222 = some ⟨1, false, [.v .nilFunc], [], .func, 8⟩ := by kernel_rfl
theorem tt223 : tiOf Tryd.prog 223 = some ⟨1, false, [.v .nilFunc], [], .func, 8⟩ := by kernel_rfl
theorem tt224 : tiOf Tryd.prog 224 = some ⟨1, false, [.v .nilFunc], [], .func, 8⟩ := by kernel_rfl
theorem tt225 : tiOf Tryd.prog 225 = some ⟨1, false, [.v .nilFunc], [], .func, 8⟩ := by kernel_rfl
theorem tt226 : tiOf Tryd.prog 226 = some ⟨1, false, [.v .nilFunc], [], .func, 8⟩ := by kernel_rfl
theorem tt228 : tiOf Tryd.prog 228 = some ⟨2, true, [.v (.int .u8 0), .v (.int .u8 0)], [(0, 1, some false), (1, 1, some false)], .struct, 2⟩ := by kernel_rfl
theorem tt229 : tiOf Tryd.prog 229 = some ⟨2, true, [.v (.int .u8 0), .v (.int .u8 0)], [(0, 1, some false), (1, 1, some false)], .struct, 2⟩ := by kernel_rfl
theorem tt230 : tiOf Tryd.prog 230 = some ⟨32, true, [.v (.int .u8 0), .v (.int .u8 0), .v (.int .u8 0), .v (.int .u8 0), .v (.int .u8 0), .v (.int .u8 0), .v (.int .u8 0), .v (.int .u8 0), .v (.int .u8 0), .v (.int .u8 0), .v (.int .u8 0), .v (.int .u8 0), .v (.int .u8 0), .v (.int .u8 0), .v (.int .u8 0), .v (.int .u8 0), .v (.int .u8 0), .v (.int .u8 0), .v (.int .u8 0), .v (.int .u8 0), .v (.int .u8 0), .v (.int .u8 0), .v (.int .u8 0), .v (.int .u8 0), .v (.int .u8 0), .v (.int .u8 0), .v (.int .u8 0), .v (.int .u8 0), .v (.int .u8 0), .v (.int .u8 0), .v (.int .u8 0), .v (.int .u8 0)], [], .array 16 229, 32⟩ := by kernel_rfl
theorem tt231 : tiOf Tryd.prog 231 = some ⟨1, false, [.v .nilFunc], [], .func, 8⟩ := by kernel_rfl
theorem tt232 : tiOf Tryd.prog 232 = some ⟨1, false, [.v .nilFunc], [], .func, 8⟩ := by kernel_rfl
theorem tt233 : tiOf Tryd.prog 233 = some ⟨1, false, [.v .nilFunc], [], .func, 8⟩ := by kernel_rfl
theorem tt234 : tiOf Tryd.prog 234 = some ⟨4, true, [.v (.pointer none), .v (.pointer none), .v (.pointer none), .v (.string ⟨#[]⟩)], [(0, 1, some false), (1, 1, some false), (2, 1, some false), (3, 1, some false)], .struct, 40⟩ := by kernel_rfl
theorem tt235 : tiOf Tryd.prog 235 = some ⟨4, true, [.v (.pointer none), .v (.pointer none), .v (.pointer none), .v (.string ⟨#[]⟩)], [(0, 1, some false), (1, 1, some false), (2, 1, some false), (3, 1, some false)], .struct, 40⟩ := by kernel_rfl
theorem tt236 : tiOf Tryd.prog 236 = some ⟨0, true, [], [], .array 0 16, 0⟩ := by kernel_rfl
theorem tt237 : tiOf Tryd.prog 237 = some ⟨0, true, [], [(0, 0, some true)], .struct, 0⟩ := by kernel_rfl
theorem tt238 : tiOf Tryd.prog 238 = some ⟨0, true, [], [(0, 0, some true)], .struct, 0⟩ := by kernel_rfl
theorem tt239 : tiOf Tryd.prog 239 = some ⟨1, false, [.v (.int .u32 0)], [], .int .u32, 4⟩ := by kernel_rfl
theorem tt240 : tiOf Tryd.prog 240 = some ⟨1, false, [.v (.int .u8 0)], [], .int .u8, 1⟩ := by kernel_rfl
theorem tt241 : tiOf Tryd.prog 241 = some ⟨1, false, [.v (.int .u8 0)], [], .int .u8, 1⟩ := by kernel_rfl
theorem tt242 : tiOf Tryd.prog 242 = some ⟨1, false, [.v .nilFunc], [], .func, 8⟩ := by kernel_rfl
theorem tt243 : tiOf Tryd.prog 243 = some ⟨1, false, [.v (.pointer none)], [], .ptr 5, 8⟩ := by kernel_rfl
theorem tt244 : tiOf Tryd.prog 244 = some ⟨1, false, [.v (.int .i32 0)], [], .int .i32, 4⟩ := by kernel_rfl
theorem tt245 : tiOf Tryd.prog 245 = some ⟨1, false, [.v (.int .i32 0)], [], .int .i32, 4⟩ := by kernel_rfl
theorem tt246 : tiOf Tryd.prog 246 = some ⟨11, true, [.v (.int .u64 0), .v (.int .u64 0), .v (.int .u32 0), .v (.int .u8 0), .v (.int .u8 0), .v (.int .u8 0), .v (.int .u8 0), .v .nilFunc, .v (.pointer none), .v (.int .i32 0), .v (.int .i32 0)], [(0, 1, some false), (1, 1, some false), (2, 1, some false), (3, 1, some false), (4, 1, some false), (5, 1, some false), (6, 1, some false), (7, 1, some false), (8, 1, some false), (9, 1, some false), (10, 1, some false)], .struct, 48⟩ := by kernel_rfl
theorem tt247 : tiOf Tryd.prog 247 = some ⟨11, true, [.v (.int .u64 0), .v (.int .u64 0), .v (.int .u32 0), .v (.int .u8 0), .v (.int .u8 0), .v (.int .u8 0), .v (.int .u8 0), .v .nilFunc, .v (.pointer none), .v (.int .i32 0), .v (.int .i32 0)], [(0, 1, some false), (1, 1, some false), (2, 1, some false), (3, 1, some false), (4, 1, some false), (5, 1, some false), (6, 1, some false), (7, 1, some false), (8, 1, some false), (9, 1, some false), (10, 1, some false)], .struct, 48⟩ := by kernel_rfl
theorem tt248 : tiOf Tryd.prog 248 = some ⟨1, false, [.v (.pointer none)], [], .other, 8⟩ := by kernel_rfl
theorem TT : TTok Tryd.prog tt := TTok.cons tt1 (TTok.cons tt2 (TTok.cons tt3 (TTok.cons tt4 (TTok.cons tt5 (TTok.cons tt6 (TTok.cons tt7 (TTok.cons tt8 (TTok.cons tt9 (TTok.cons tt10 (TTok.cons tt11 (TTok.cons tt12 (TTok.cons tt13 (TTok.cons tt14 (TTok.cons tt15 (TTok.cons tt16 (TTok.cons tt17 (TTok.cons tt18 (TTok.cons tt19 (TTok.cons tt20 (TTok.cons tt21 (TTok.cons tt22 (TTok.cons tt23 (TTok.cons tt24 (TTok.cons tt25 (TTok.cons tt26 (TTok.cons tt27 (TTok.cons tt28 (TTok.cons tt29 (TTok.cons tt30 (TTok.cons tt31 (TTok.cons tt32 (TTok.cons tt34 (TTok.cons tt35 (TTok.cons tt36 (TTok.cons tt38 (TTok.cons tt39 (TTok.cons tt40 (TTok.cons tt41 (TTok.cons tt42 (TTok.cons tt43 (TTok.cons tt44 (TTok.cons tt45 (TTok.cons tt46 (TTok.cons tt47 (TTok.cons tt48 (TTok.cons tt49 (TTok.cons tt51 (TTok.cons tt52 (TTok.cons tt53 (TTok.cons tt54 (TTok.cons tt55 (TTok.cons tt56 (TTok.cons tt57 (TTok.cons tt58 (TTok.cons tt59 (TTok.cons tt60 (TTok.cons tt61 (TTok.cons tt62 (TTok.cons tt63 (TTok.cons tt64 (TTok.cons tt66 (TTok.cons tt67 (TTok.cons tt68 (TTok.cons tt69 (TTok.cons tt70 (TTok.cons tt71 (TTok.cons tt73 (TTok.cons tt74 (TTok.cons tt75 (TTok.cons tt76 (TTok.cons tt77 (TTok.cons tt78 (TTok.cons tt79 (TTok.cons tt80 (TTok.cons tt81 (TTok.cons tt82 (TTok.cons tt83 (TTok.cons tt84 (TTok.cons tt85 (TTok.cons tt86 (TTok.cons tt87 (TTok.cons tt88 (TTok.cons tt89 (TTok.cons tt90 (TTok.cons tt91 (TTok.cons tt92 (TTok.cons tt93 (TTok.cons tt94 (TTok.cons tt95 (TTok.cons tt96 (TTok.cons tt97 (TTok.cons tt98 (TTok.cons tt100 (TTok.cons tt101 (TTok.cons tt102 (TTok.cons tt103 (TTok.cons tt104 (TTok.cons tt105 (TTok.cons tt106 (TTok.cons tt107 (TTok.cons tt108 (TTok.cons tt109 (TTok.cons tt110 (TTok.cons tt111 (TTok.cons tt112 (TTok.cons tt113 (TTok.cons tt114 (TTok.cons tt115 (TTok.cons tt116 (TTok.cons tt117 (TTok.cons tt118 (TTok.cons tt119 (TTok.cons tt120 (TTok.cons tt121 (TTok.cons tt122 (TTok.cons tt123 (TTok.cons tt124 (TTok.cons tt125 (TTok.cons tt126 (TTok.cons tt127 (TTok.cons tt128 (TTok.cons tt129 (TTok.cons tt130 (TTok.cons tt131 (TTok.cons tt132 (TTok.cons tt133 (TTok.cons tt134 (TTok.cons tt135 (TTok.cons tt136 (TTok.cons tt138 (TTok.cons tt140 (TTok.cons tt141 (TTok.cons tt142 (TTok.cons tt143 (TTok.cons tt144 (TTok.cons tt145 (TTok.cons tt146 (TTok.cons tt147 (TTok.cons tt148 (TTok.cons tt149 (TTok.cons tt150 (TTok.cons tt151 (TTok.cons tt152 (TTok.cons tt153 (TTok.cons tt155 (TTok.cons tt156 (TTok.cons tt157 (TTok.cons tt158 (TTok.cons tt159 (TTok.cons tt160 (TTok.cons tt161 (TTok.cons tt162 (TTok.cons tt163 (TTok.cons tt164 (TTok.cons tt165 (TTok.cons tt166 (TTok.cons tt167 (TTok.cons tt168 (TTok.cons tt169 (TTok.cons tt170 (TTok.cons tt171 (TTok.cons tt172 (TTok.cons tt173 (TTok.cons tt174 (TTok.cons tt175 (TTok.cons tt177 (TTok.cons tt178 (TTok.cons tt179 (TTok.cons tt180 (TTok.cons tt181 (TTok.cons tt182 (TTok.cons tt183 (TTok.cons tt184 (TTok.cons tt185 (TTok.cons tt186 (TTok.cons tt187 (TTok.cons tt188 (TTok.cons tt189 (TTok.cons tt190 (TTok.cons tt191 (TTok.cons tt192 (TTok.cons tt193 (TTok.cons tt194 (TTok.cons tt195 (TTok.cons tt197 (TTok.cons tt199 (TTok.cons tt200 (TTok.cons tt201 (TTok.cons tt202 (TTok.cons tt203 (TTok.cons tt204 (TTok.cons tt205 (TTok.cons tt206 (TTok.cons tt207 (TTok.cons tt208 (TTok.cons tt209 (TTok.cons tt210 (TTok.cons tt211 (TTok.cons tt212 (TTok.cons tt214 (TTok.cons tt216 (TTok.cons tt217 (TTok.cons tt218 (TTok.cons tt219 (TTok.cons tt220 (TTok.cons tt221 (TTok.cons tt222 (TTok.cons tt223 (TTok.cons tt224 (TTok.cons tt225 (TTok.cons tt226 (TTok.cons tt228 (TTok.cons tt229 (TTok.cons tt230 (TTok.cons tt231 (TTok.cons tt232 (TTok.cons tt233 (TTok.cons tt234 (TTok.cons tt235 (TTok.cons tt236 (TTok.cons tt237 (TTok.cons tt238 (TTok.cons tt239 (TTok.cons tt240 (TTok.cons tt241 (TTok.cons tt242 (TTok.cons tt243 (TTok.cons tt244 (TTok.cons tt245 (TTok.cons tt246 (TTok.cons tt247 (TTok.cons tt248 (TTok.nil _)))))))))))))))))))))))))))))))))))))))))))))))))))))))))))))))))))))))))))))))))))))))))))))))))))))))))))))))))))))))))))))))))))))))))))))))))))))))))))))))))))))))))))))))))))))))))))))))))))))))))))))))))))))))))))))))))))))))))
end Go.Sy
namespace Go.Sy
open Go.Proofs
theorem mixed : Tryd.prog.follows .mixedOrders = true := by kernel_rfl

set_option maxRecDepth 100000 in
set_option maxHeartbeats 1000000 in
theorem few_c (σ : Snap) (g : GVal) : ∀ (r : List AT) (left deep : Int), RepV σ g r → -281474976710656 ≤ left → left ≤ 1099511627776 → 0 ≤ deep → deep ≤ 1000 →
    PlainS Tryd.prog 69 [.agg r, .a (.v (.int .i64 left)), .a (.v (.int .i64 deep))] σ (fun v => ∃ x : Int, v = .int .i64 x ∧ -1125899906842624 ≤ x ∧ x ≤ 1099511627776 ∧ (0 ≤ x → x + g.weight ≤ left)) := by
  induction g using GVal.byWeight with | _ g ih => ?_
  intro r left deep hr hl1 hl2 hd1 hd2
  obtain ⟨la, lc, lrows, ma, mc, vrows, rfl, V⟩ := hr.open
  have hdg := V.dg
  have hs := V.s
  have hll := V.ll
  have hkl := V.kl
  simp only [mostLen] at hdg hs hll hkl
  refine enter_p Tryd.func69 rfl rfl (by (repeat' (first | exact trivial | exact vCells_lt _ _ _ _ _ _ | constructor))) fun w => ?_
  (repeat (first | refine cj_seq ?_ | (refine cj_region ?_; refine oj_run TT rfl ?_) | refine oj_then ?_))
  refine cj_if rfl (fun h => ?_) (fun h => ?_)
  · (repeat (first | refine cj_seq ?_ | (refine cj_region ?_; refine oj_run TT rfl ?_) | refine oj_then ?_ | refine cj_ret ?_ | refine nj_then_ret ?_))
    refine nj_ret TT rfl fun β w' _ _ => ?_
    exact ⟨-1, rfl, by omega, by omega, by omega⟩
  have hd3 : deep ≤ 150 := by simpa using h
  have hw := g.weight_eq
  (repeat (first | refine cj_seq ?_ | (refine cj_region ?_; refine oj_run TT rfl ?_) | refine oj_then ?_ | refine cj_skip ?_ | refine cj_block ?_ | refine nj_then ?_ | (refine oj_minus rfl rfl rfl rfl rfl rfl (by omega) ?_; refine oj_run TT rfl ?_)))
  refine cj_cutB (fun _ => σ) (fun (x : Int) => [(1, .a (.v (.int .i64 x))), (2, .a (.v (.int .i64 deep))), (3, .a (.p 0 0))]) (fun _ => [(0, .loc 27, vCells g la lc ma mc)]) (fun _ => []) 1
    (fun x => -1125899906842624 ≤ x ∧ x ≤ 1099511627776 ∧ (0 ≤ x → x + 1 + g.s.size + g.n.dg.size + GVal.weights g.l ≤ left)) ?_ (fun x ⟨hx1, hx2, hx3⟩ => ?_)
  · refine cj_loop2 (fun _ _ => σ) (fun (k : Nat) (x : Int) => [(1, .a (.v (.int .i64 x))), (2, .a (.v (.int .i64 deep))), (3, .a (.p 0 0)), (7, .a (.v (.int .i64 k)))]) (fun _ _ => [(0, .loc 27, vCells g la lc ma mc)]) (fun _ _ => []) 1
      (fun k x => k ≤ g.l.length ∧ -1125899906842624 ≤ x ∧ x ≤ 1099511627776 ∧ (0 ≤ x → x + 1 + g.s.size + g.n.dg.size + GVal.weights (g.l.take k) ≤ left)) (fun k _ => g.l.length - k) 0 (left - 1 - g.s.size - g.n.dg.size)
      ⟨Nat.zero_le _, by omega, by omega, by simp [GVal.weights]; omega⟩ rfl (by (repeat (first | exact trivial | refine And.intro rfl ?_))) (by (repeat (first | exact trivial | refine And.intro rfl ?_))) rfl (by (repeat' (first | exact trivial | exact Nat.le_of_ble_eq_true rfl | constructor))) (by (repeat' (first | exact trivial | exact Nat.le_of_ble_eq_true rfl | exact vCells_lt _ _ _ _ _ _ | constructor))) fun k x ⟨hk, hx1, hx2, hx3⟩ => ?_
    (repeat (first | refine cj_seq ?_ | (refine cj_region ?_; refine oj_run TT rfl ?_)))
    refine oj_split 27 rfl (fun h => ?_) (fun h => ?_)
    · refine oj_run TT rfl ?_
      (repeat refine oj_then ?_)
      refine cj_if rfl (fun h0 => ?_) (fun h0 => ?_)
      · have hk' : k < g.l.length := by simpa using h
        have hx0 : 0 ≤ x := by simpa using h0
        (repeat (first | refine cj_seq ?_ | (refine cj_region ?_; refine oj_run TT rfl ?_) | refine cj_skip ?_ | refine cj_block ?_ | refine nj_then ?_))
        obtain ⟨r, hr1, hr2⟩ := V.l.get (List.getElem?_eq_getElem hk')
        obtain ⟨la', lc', lrows', ma', mc', vrows', rfl, V'⟩ := hr2.open
        refine oj_idx TT rfl rfl rfl rfl rfl rfl rfl rfl rfl V.L (by omega) hr1 (oj_run TT rfl ?_)
        (repeat (refine oj_add rfl rfl rfl rfl rfl rfl (by omega) ?_; refine oj_run TT rfl ?_))
        refine oj_callP rfl rfl rfl rfl rfl Tryd.call69 (by (repeat' (first | exact trivial | exact vCells_lt _ _ _ _ _ _ | constructor))) (ih _ (weight_l (List.getElem_mem hk')) _ _ _ V'.rep (by omega) (by omega) (by omega) (by omega)) fun v ⟨x', hv, hx4, hx5, hx6⟩ => ⟨.a (.v (.int .i64 x')), trivial, hv.symm, ?_⟩
        refine oj_run TT rfl ?_
        (repeat (first | (refine cj_region ?_; refine oj_run TT rfl ?_) | refine oj_nil ?_ | refine nj_then ?_ | refine nj_block ?_ | (refine oj_add rfl rfl rfl rfl rfl rfl (by omega) ?_; refine oj_run TT rfl ?_)))
        refine nj_again (k + 1, x') ⟨hk', hx4, hx5, fun h => ?_⟩ (by dsimp only; omega) rfl (by (repeat (first | exact trivial | refine And.intro rfl ?_))) (by (repeat (first | exact trivial | refine And.intro rfl ?_))) rfl (by (repeat' (first | exact trivial | exact Nat.le_of_ble_eq_true rfl | constructor))) (by (repeat' (first | exact trivial | exact Nat.le_of_ble_eq_true rfl | exact vCells_lt _ _ _ _ _ _ | constructor)))
        dsimp only at h ⊢
        have := hx3 (by omega)
        have := hx6 h
        rw [weights_take (List.getElem?_eq_getElem hk')]
        omega
      · have hx0 : x < 0 := by simpa using h0
        (repeat (first | refine cj_exit ?_ | refine nj_then_exit ?_ | refine nj_block_out ?_))
        refine nj_again x ⟨hx1, hx2, fun h => by omega⟩ (by omega) rfl (by (repeat (first | exact trivial | refine And.intro rfl ?_))) (by (repeat (first | exact trivial | refine And.intro rfl ?_))) rfl (by (repeat' (first | exact trivial | exact Nat.le_of_ble_eq_true rfl | constructor))) (by (repeat' (first | exact trivial | exact Nat.le_of_ble_eq_true rfl | exact vCells_lt _ _ _ _ _ _ | constructor)))
    · have hk0 : k = g.l.length := by simp at h; omega
      refine oj_run TT rfl ?_
      (repeat (first | refine oj_then ?_ | refine cj_if_f rfl ?_ | refine cj_exit ?_ | refine nj_then_exit ?_ | refine nj_block_out ?_))
      refine nj_again x ⟨hx1, hx2, fun h => ?_⟩ (by omega) rfl (by (repeat (first | exact trivial | refine And.intro rfl ?_))) (by (repeat (first | exact trivial | refine And.intro rfl ?_))) rfl (by (repeat' (first | exact trivial | exact Nat.le_of_ble_eq_true rfl | constructor))) (by (repeat' (first | exact trivial | exact Nat.le_of_ble_eq_true rfl | exact vCells_lt _ _ _ _ _ _ | constructor)))
      have := hx3 h
      rw [hk0, List.take_length] at this
      exact this
  · (repeat (first | refine cj_seq ?_ | (refine cj_region ?_; refine oj_run TT rfl ?_) | refine oj_then ?_ | refine cj_block ?_))
    refine cj_cutB (fun _ => σ) (fun (x : Int) => [(1, .a (.v (.int .i64 x))), (2, .a (.v (.int .i64 deep))), (3, .a (.p 0 0))]) (fun _ => [(0, .loc 27, vCells g la lc ma mc)]) (fun _ => []) 1
      (fun x => -1125899906842624 ≤ x ∧ x ≤ 1099511627776 ∧ (0 ≤ x → x + g.weight ≤ left)) ?_ (fun x ⟨hx1, hx2, hx3⟩ => ?_)
    · refine cj_loop2 (fun _ _ => σ) (fun (k : Nat) (x : Int) => [(1, .a (.v (.int .i64 x))), (2, .a (.v (.int .i64 deep))), (3, .a (.p 0 0)), (8, .a (.v (.int .i64 k)))]) (fun _ _ => [(0, .loc 27, vCells g la lc ma mc)]) (fun _ _ => []) 1
        (fun k x => k ≤ g.ks.length ∧ -1125899906842624 ≤ x ∧ x ≤ 1099511627776 ∧ (0 ≤ x → x + 1 + g.s.size + g.n.dg.size + GVal.weights g.l + sizes (g.ks.take k) + GVal.weights (g.vs.take k) ≤ left)) (fun k _ => g.ks.length - k) 0 x
        ⟨Nat.zero_le _, by omega, by omega, by simp [GVal.weights, sizes]; omega⟩ rfl (by (repeat (first | exact trivial | refine And.intro rfl ?_))) (by (repeat (first | exact trivial | refine And.intro rfl ?_))) rfl (by (repeat' (first | exact trivial | exact Nat.le_of_ble_eq_true rfl | constructor))) (by (repeat' (first | exact trivial | exact Nat.le_of_ble_eq_true rfl | exact vCells_lt _ _ _ _ _ _ | constructor))) fun k x ⟨hk, hx1, hx2, hx3⟩ => ?_
      (repeat (first | refine cj_seq ?_ | (refine cj_region ?_; refine oj_run TT rfl ?_)))
      refine oj_split 47 rfl (fun h => ?_) (fun h => ?_)
      · refine oj_run TT rfl ?_
        (repeat refine oj_then ?_)
        refine cj_if rfl (fun h0 => ?_) (fun h0 => ?_)
        · have hk' : k < g.ks.length := by simpa using h
          have hkv : k < g.vs.length := by have := V.kv; omega
          have hx0 : 0 ≤ x := by simpa using h0
          (repeat (first | refine cj_seq ?_ | refine cj_skip ?_ | refine cj_block ?_ | refine nj_then ?_))
          obtain ⟨r, hr1, hr2⟩ := V.v.get (List.getElem?_eq_getElem hkv)
          obtain ⟨la', lc', lrows', ma', mc', vrows', rfl, V'⟩ := hr2.open
          have hrow := keyRows_get (List.getElem?_eq_getElem hk') hr1
          have hkk := V.kk _ (List.getElem_mem hk')
          simp only [mostLen] at hkk
          refine cj_draw [(0,.pure),(1,.quiet),(2,.pure),(3,.pure),(4,.pure),(5,.quiet),(6,.pure),(7,.pure),(8,.quiet),(9,.pure),(10,.pure),(11,.pure),(12,.quiet),(13,.pure),(14,.pure),(15,.pure),(16,.pure),(17,.keep),(18,.pure)] mixed (by kernel_rfl) (oj_run TT rfl ?_)
          refine oj_idx TT rfl rfl rfl rfl rfl rfl rfl rfl rfl V.M (by omega) hrow (oj_run TT rfl ?_)
          refine oj_idx TT rfl rfl rfl rfl rfl rfl rfl rfl rfl V.M (by omega) hrow (oj_run TT rfl ?_)
          (repeat (first | (refine oj_add rfl rfl rfl rfl rfl rfl (by omega) ?_; refine oj_run TT rfl ?_) | (refine oj_minus rfl rfl rfl rfl rfl rfl (by omega) ?_; refine oj_run TT rfl ?_)))
          refine oj_callP rfl rfl rfl rfl rfl Tryd.call69 (by (repeat' (first | exact trivial | exact vCells_lt _ _ _ _ _ _ | constructor))) (ih _ (weight_v (List.getElem_mem hkv)) _ _ _ V'.rep (by omega) (by omega) (by omega) (by omega)) fun v ⟨x', hv, hx4, hx5, hx6⟩ => ⟨.a (.v (.int .i64 x')), trivial, hv.symm, ?_⟩
          refine oj_run TT rfl ?_
          (repeat (first | (refine cj_region ?_; refine oj_run TT rfl ?_) | refine oj_nil ?_ | refine nj_then ?_ | refine nj_block ?_ | (refine oj_add rfl rfl rfl rfl rfl rfl (by omega) ?_; refine oj_run TT rfl ?_)))
          refine nj_again (k + 1, x') ⟨hk', hx4, hx5, fun h => ?_⟩ (by dsimp only; omega) rfl (by (repeat (first | exact trivial | refine And.intro rfl ?_))) (by (repeat (first | exact trivial | refine And.intro rfl ?_))) rfl (by (repeat' (first | exact trivial | exact Nat.le_of_ble_eq_true rfl | constructor))) (by (repeat' (first | exact trivial | exact Nat.le_of_ble_eq_true rfl | exact vCells_lt _ _ _ _ _ _ | constructor)))
          dsimp only at h ⊢
          have := hx3 (by omega)
          have := hx6 h
          rw [weights_take (List.getElem?_eq_getElem hkv), sizes_take (List.getElem?_eq_getElem hk')]
          omega
        · have hx0 : x < 0 := by simpa using h0
          (repeat (first | refine cj_exit ?_ | refine nj_then_exit ?_ | refine nj_block_out ?_))
          refine nj_again x ⟨hx1, hx2, fun h => by omega⟩ (by omega) rfl (by (repeat (first | exact trivial | refine And.intro rfl ?_))) (by (repeat (first | exact trivial | refine And.intro rfl ?_))) rfl (by (repeat' (first | exact trivial | exact Nat.le_of_ble_eq_true rfl | constructor))) (by (repeat' (first | exact trivial | exact Nat.le_of_ble_eq_true rfl | exact vCells_lt _ _ _ _ _ _ | constructor)))
      · have hk0 : k = g.ks.length := by simp at h; omega
        refine oj_run TT rfl ?_
        (repeat (first | refine oj_then ?_ | refine cj_if_f rfl ?_ | refine cj_exit ?_ | refine nj_then_exit ?_ | refine nj_block_out ?_))
        refine nj_again x ⟨hx1, hx2, fun h => ?_⟩ (by omega) rfl (by (repeat (first | exact trivial | refine And.intro rfl ?_))) (by (repeat (first | exact trivial | refine And.intro rfl ?_))) rfl (by (repeat' (first | exact trivial | exact Nat.le_of_ble_eq_true rfl | constructor))) (by (repeat' (first | exact trivial | exact Nat.le_of_ble_eq_true rfl | exact vCells_lt _ _ _ _ _ _ | constructor)))
        have := hx3 h
        rw [hk0, List.take_length, V.kv, List.take_length] at this
        omega
    · (repeat (first | refine cj_seq ?_ | (refine cj_region ?_; refine oj_run TT rfl ?_) | refine oj_then ?_ | refine cj_ret ?_))
      refine nj_ret TT rfl fun β w' _ _ => ?_
      exact ⟨x, rfl, hx1, hx2, hx3⟩

set_option maxRecDepth 100000 in
set_option maxHeartbeats 1000000 in
theorem Few_c (σ : Snap) (g : GVal) (r : List AT) (most : Int) (hr : RepV σ g r) (h1 : 0 ≤ most) (h2 : most ≤ 1000000) :
    PlainS Tryd.prog 19 [.agg r, .a (.v (.int .i64 most))] σ (fun v => ∃ b : Bool, v = .bool b ∧ (b = true → (g.weight : Int) ≤ most)) := by
  obtain ⟨la, lc, lrows, ma, mc, vrows, rfl, V⟩ := hr.open
  refine enter_p Tryd.func19 rfl rfl (by (repeat' (first | exact trivial | exact vCells_lt _ _ _ _ _ _ | constructor))) fun w => ?_
  (repeat (first | refine cj_seq ?_ | (refine cj_region ?_; refine oj_run TT rfl ?_) | refine oj_then ?_))
  refine oj_callP rfl rfl rfl rfl rfl Tryd.call69 (by (repeat' (first | exact trivial | exact vCells_lt _ _ _ _ _ _ | constructor))) (few_c σ g _ _ _ V.rep (by omega) (by omega) (by omega) (by omega)) fun v ⟨x', hv, hx4, hx5, hx6⟩ => ⟨.a (.v (.int .i64 x')), trivial, hv.symm, ?_⟩
  refine oj_run TT rfl ?_
  (repeat (first | refine oj_then ?_ | refine cj_ret ?_))
  refine nj_ret TT rfl fun β w' _ _ => ?_
  refine ⟨_, rfl, fun h => ?_⟩
  have := hx6 (by simpa using h)
  have : 0 ≤ x' := by simpa using h
  omega
end Go.Sy
