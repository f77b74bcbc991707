/- Maps that are the call's own: for the moment sealed, and sealed anew when they turn. No program in sight. -/
import Derived.Test.YtadnijcgohflhaaDoorVa
import Derived.MapKept
namespace Go.Sy
open Go.MapKept

/-! ### What is known of cells alone -/

def Snap.cle (σ σ' : Snap) : Prop := ∀ a v, σ.cell a = some v → σ'.cell a = some v
theorem Snap.le.cle {σ σ' : Snap} (h : σ.le σ') : σ.cle σ' := fun _ _ hv => h.cell hv
theorem Snap.cle_refl (σ : Snap) : σ.cle σ := fun _ _ h => h
theorem Snap.cle_trans {a b c : Snap} (h : a.cle b) (h' : b.cle c) : a.cle c := fun x v hx => h' x v (h x v hx)

theorem SlAt.monoC {σ σ' : Snap} {ao : Option Addr} {n cap sz : Nat} {rows : List (List AT)} (h : SlAt σ ao n cap sz rows) (hle : σ.cle σ') : SlAt σ' ao n cap sz rows := by
  refine ⟨h.len, h.ncap, h.clo, ?_⟩
  rcases h.at_ with h0 | ⟨ad, h1, h2⟩
  · exact .inl h0
  · exact .inr ⟨ad, h1, fun i r j c hr hc => hle _ _ (h2 i r j c hr hc)⟩

mutual
theorem RepV.monoC {σ σ' : Snap} (h : σ.cle σ') : ∀ {g : GVal} {r : List AT}, RepV σ g r → RepV σ' g r
  | .mk k b n s l ks vs, r, hr => by
    simp only [RepV] at hr ⊢
    obtain ⟨la, lc, lrows, ma, mc, vrows, h1, h2, h3, h4, h5, h6, h7⟩ := hr
    exact ⟨la, lc, lrows, ma, mc, vrows, h1, h2.monoC h, RepL.monoC h h3, h4, h5.monoC h, RepL.monoC h h6, h7⟩
theorem RepL.monoC {σ σ' : Snap} (h : σ.cle σ') : ∀ {gs : List GVal} {rs : List (List AT)}, RepL σ gs rs → RepL σ' gs rs
  | [], _, hr => by simp only [RepL] at hr ⊢; exact hr
  | g :: gs, rs, hr => by
    simp only [RepL] at hr ⊢
    obtain ⟨r, rs', h1, h2, h3⟩ := hr
    exact ⟨r, rs', h1, RepV.monoC h h2, RepL.monoC h h3⟩
end

/-! ### Blocks of the call's own that hold no cells -/

def nocell : Obj → Bool
  | .cells _ _ _ => false
  | _ => true

def Snap.set (σ : Snap) (b : Nat) (o : Option Obj) : Snap := fun i => if i = b then o else σ i
theorem Snap.set_self (σ : Snap) (b : Nat) (o : Option Obj) : σ.set b o b = o := by simp [Snap.set]
theorem Snap.set_ne {σ : Snap} {b i : Nat} {o : Option Obj} (h : i ≠ b) : σ.set b o i = σ i := by simp [Snap.set, h]

theorem Snap.cell_set {σ : Snap} {b : Nat} {o' : Option Obj} (h : ∀ o, σ b = some o → nocell o = true) (h' : ∀ o, o' = some o → nocell o = true) (a : Addr) : (σ.set b o').cell a = σ.cell a := by
  unfold Snap.cell
  by_cases hab : a.block = b
  · rw [hab, Snap.set_self]
    have h1 : ∀ x : Option Obj, (∀ o, x = some o → nocell o = true) → (match x with | some (.cells c _ _) => (if a.spot.isSome then none else c[a.off]?) | _ => none) = none := by
      intro x hx
      cases x with
      | none => rfl
      | some o =>
        have := hx o rfl
        cases o <;> first | rfl | cases this
    exact (h1 _ h').trans (h1 _ h).symm
  · rw [Snap.set_ne hab]

section
variable {cf : Cf} {σ : Snap} {hp : HP} {A : List AE} {β : Nat → Addr} {w w' : World}

theorem StW.nocell_of {b : Nat} {o : Obj} (h : StW cf σ hp A β w) (hb : w.heap[b]? = some o) (ho : nocell o = true) : ∀ o1, σ b = some o1 → nocell o1 = true := by
  intro o1 h1
  have := h.sealed _ _ h1
  rw [hb] at this
  injection this with this
  subst this
  exact ho

/-- What is known of a block of the call's own that holds no cells is changed, and the block with it. -/
theorem StW.swap {b : Nat} {o : Obj} (s : Option Obj) (h : StW cf σ hp A β w) (hb : w.heap[b]? = some o) (ho : nocell o = true) (h0 : cf.σ0 b = none) (hown : Own cf b)
    (h1 : w'.os = w.os) (h2 : w'.tape = w.tape) (h3 : w'.output = w.output) (hsz : w'.heap.size = w.heap.size) (hoth : ∀ c, c ≠ b → w'.heap[c]? = w.heap[c]?)
    (hs : ∀ o', s = some o' → w'.heap[b]? = some o' ∧ nocell o' = true) : StW cf (σ.set b s) hp A β w' := by
  have hcells : ∀ {c : Nat} {cs : Array Value} {e : TypeId} {f : Nat × Nat}, w.heap[c]? = some (.cells cs e f) → c ≠ b := fun hc e => by subst e; rw [hb] at hc; injection hc with hc; subst hc; cases ho
  have hcell : ∀ a, (σ.set b s).cell a = σ.cell a := Snap.cell_set (h.nocell_of hb ho) fun o' e => (hs o' e).2
  refine ⟨h1.trans h.os, h2.trans h.tape, h3.trans h.output, by rw [hsz]; exact h.size, fun c hc hm => ?_, fun c o' hc => ?_, fun c o' hc => ?_, fun c hc => ?_, fun i e cs hi => ?_, fun i cs hi j c hc => ?_, h.inj, fun i E hE => ?_, h.arrd, h.arrh⟩
  · have hne : c ≠ b := fun e => by
      subst e
      rcases hown with ho | ho
      · omega
      · exact hm ho
    rw [hoth c hne]; exact h.fr c hc hm
  · by_cases hcb : c = b
    · subst hcb
      rw [Snap.set_self] at hc
      exact (hs o' hc).1
    · rw [Snap.set_ne hcb] at hc
      rw [hoth c hcb]; exact h.sealed c o' hc
  · have hcb : c ≠ b := fun e => by subst e; rw [h0] at hc; cases hc
    rw [Snap.set_ne hcb]
    exact h.le c o' hc
  · by_cases hcb : c = b
    · subst hcb; exact .inr hown
    · rw [Snap.set_ne hcb] at hc; exact h.grow c hc
  · obtain ⟨h1, h2, h3, h4⟩ := h.loc i e cs hi
    have hne := hcells h2
    exact ⟨h1, by rw [hoth _ hne]; exact h2, by rw [Snap.set_ne hne]; exact h3, h4⟩
  · rw [hcell]; exact h.ro i cs hi j c hc
  · obtain ⟨h1, h2⟩ := h.arr i E hE
    refine ⟨h1, h2.imp id ?_⟩
    rintro ⟨g, cur, h3, h4, h5, h6, h7, h8, h9, h10⟩
    have hne := hcells h4
    exact ⟨g, cur, h3, by rw [hoth _ hne]; exact h4, h5, h6, h7, h8, by rw [Snap.set_ne hne]; exact h9, h10⟩

theorem StW.own_of {b : Nat} {o : Obj} (h : StW cf σ hp A β w) (hb : σ b = some o) (h0 : cf.σ0 b = none) : Own cf b := (h.grow b (by rw [hb]; simp)).resolve_left fun hc => hc h0

/-- It is forgotten. -/
theorem StW.forget {b : Nat} {o : Obj} (h : StW cf σ hp A β w) (hb : σ b = some o) (ho : nocell o = true) (h0 : cf.σ0 b = none) : StW cf (σ.set b none) hp A β w :=
  h.swap none (h.sealed _ _ hb) ho h0 (h.own_of hb h0) rfl rfl rfl rfl (fun _ _ => rfl) fun _ e => (by cases e)

theorem setAt_same {w : World} {b : Nat} {o o' : Obj} (hb : w.heap[b]? = some o) : (w.heap.setIfInBounds b o')[b]? = some o' := (heap_set (o' := o') hb).1
theorem setAt_other {w : World} {b c : Nat} {o o' : Obj} (hb : w.heap[b]? = some o) (h : c ≠ b) : (w.heap.setIfInBounds b o')[c]? = w.heap[c]? := (heap_set (o' := o') hb).2 c h

/-- It becomes another object. -/
theorem StW.turn {b : Nat} {o o' : Obj} (h : StW cf σ hp A β w) (hb : σ b = some o) (ho : nocell o = true) (ho' : nocell o' = true) (h0 : cf.σ0 b = none) : StW cf (σ.set b (some o')) hp A β { w with heap := w.heap.setIfInBounds b o' } :=
  h.swap (some o') (h.sealed _ _ hb) ho h0 (h.own_of hb h0) rfl rfl rfl (by simp) (fun c hc => setAt_other (h.sealed _ _ hb) hc) fun o1 e => by
    injection e with e
    subst e
    exact ⟨setAt_same (h.sealed _ _ hb), ho'⟩

/-- A new object that holds no cells. -/
theorem StW.lay {o : Obj} (h : StW cf σ hp A β w) (ho : nocell o = true) : σ w.heap.size = none ∧ StW cf (σ.set w.heap.size (some o)) hp A β (w.alloc o) := by
  have hold : ∀ b, b < w.heap.size → (w.alloc o).heap[b]? = w.heap[b]? := fun b hb => by show (w.heap.push _)[b]? = _; rw [Array.getElem?_push, if_neg (Nat.ne_of_lt hb)]
  have hσ : σ w.heap.size = none := by
    cases hs : σ w.heap.size with
    | none => rfl
    | some ob =>
      have := h.sealed _ _ hs
      have := (Array.getElem?_eq_some_iff.1 this).1
      omega
  have hcell : ∀ a, (σ.set w.heap.size (some o)).cell a = σ.cell a := Snap.cell_set (fun o1 h1 => by rw [hσ] at h1; cases h1) fun o' e => by injection e with e; subst e; exact ho
  refine ⟨hσ, h.os, h.tape, h.output, by have := h.size; simp only [World.alloc, Array.size_push]; omega, fun b hb hm => ?_, fun b ob hs => ?_, fun b ob hs => ?_, fun b hb => ?_, fun i e cs hi => ?_, fun i cs hi j c hc => ?_, h.inj, fun i E hE => ?_, h.arrd, h.arrh⟩
  · rw [hold b (Nat.lt_of_lt_of_le hb h.size)]; exact h.fr b hb hm
  · by_cases hbe : b = w.heap.size
    · subst hbe
      rw [Snap.set_self] at hs
      injection hs with hs
      subst hs
      exact Go.heap_alloc_new w _
    · rw [Snap.set_ne hbe] at hs
      have := h.sealed b ob hs
      rw [hold b (Array.getElem?_eq_some_iff.1 this).1]; exact this
  · have h1 := h.le b ob hs
    have hne : b ≠ w.heap.size := fun e => by rw [e, hσ] at h1; cases h1
    rw [Snap.set_ne hne]; exact h1
  · by_cases hbe : b = w.heap.size
    · subst hbe; exact .inr (.inl h.size)
    · rw [Snap.set_ne hbe] at hb; exact h.grow b hb
  · obtain ⟨h1, h2, h3, h4⟩ := h.loc i e cs hi
    have hlt := (Array.getElem?_eq_some_iff.1 h2).1
    exact ⟨h1, by rw [hold _ hlt]; exact h2, by rw [Snap.set_ne (Nat.ne_of_lt hlt)]; exact h3, h4⟩
  · rw [hcell]; exact h.ro i cs hi j c hc
  · obtain ⟨h1, h2⟩ := h.arr i E hE
    refine ⟨h1, h2.imp id ?_⟩
    rintro ⟨g, cur, h3, h4, h5, h6, h7, h8, h9, h10⟩
    have hlt := (Array.getElem?_eq_some_iff.1 h4).1
    exact ⟨g, cur, h3, by rw [hold _ hlt]; exact h4, h5, h6, h7, h8, by rw [Snap.set_ne (Nat.ne_of_lt hlt)]; exact h9, h10⟩
end

/-! ### Entries -/

section
variable {κ : Type} [DecidableEq κ]

/-- The place of a key's entry, and what stands there. -/
def mix : List (κ × Value) → κ → Nat → Option (Nat × Value)
  | [], _, _ => none
  | p :: l, k, i => if p.1 = k then some (i, p.2) else mix l k (i + 1)
def mlook (l : List (κ × Value)) (k : κ) : Option Value := (mix l k 0).map (·.2)
def mput : List (κ × Value) → κ → Value → List (κ × Value)
  | [], k, v => [(k, v)]
  | p :: l, k, v => if p.1 = k then (k, v) :: l else p :: mput l k v

theorem mix_ge : ∀ (l : List (κ × Value)) (k : κ) (i m : Nat) (v : Value), mix l k i = some (m, v) → i ≤ m
  | [], _, _, _, _, h => by cases h
  | p :: l, k, i, m, v, h => by
    simp only [mix] at h
    split at h
    · simp only [Option.some.injEq, Prod.mk.injEq] at h; omega
    · have := mix_ge l k (i + 1) m v h; omega
theorem mix_none : ∀ (l : List (κ × Value)) (k : κ) (i : Nat), mix l k i = none ↔ ∀ p ∈ l, p.1 ≠ k
  | [], _, _ => by simp [mix]
  | p :: l, k, i => by
    simp only [mix]
    split
    · rename_i h; simp [h]
    · rename_i h; rw [mix_none l k (i + 1)]; simp [h]
theorem mlook_none {l : List (κ × Value)} {k : κ} : mlook l k = none ↔ ∀ p ∈ l, p.1 ≠ k := by
  unfold mlook; rw [Option.map_eq_none_iff]; exact mix_none l k 0
theorem mput_new : ∀ {l : List (κ × Value)} {k : κ} {v : Value}, (∀ p ∈ l, p.1 ≠ k) → mput l k v = l ++ [(k, v)]
  | [], _, _, _ => rfl
  | p :: l, k, v, h => by
    simp only [mput, if_neg (h p (List.mem_cons_self ..)), List.cons_append, mput_new fun q hq => h q (List.mem_cons_of_mem _ hq)]

variable (mk : κ → Value)

def ents (es : List MapEntry) : List (Value × Value) := es.map fun e => (e.key, e.val)
def mvals (l : List (κ × Value)) : List (Value × Value) := l.map fun p => (mk p.1, p.2)

/-- Block b is, for the moment, the map of these entries. -/
def MapAt (σ : Snap) (b : Nat) (l : List (κ × Value)) : Prop := ∃ es clock, σ b = some (.map es clock) ∧ ents es.toList = mvals mk l

omit [DecidableEq κ] in
theorem MapAt.mono {σ σ' : Snap} {b : Nat} {l : List (κ × Value)} (h : MapAt mk σ b l) (hle : σ.le σ') : MapAt mk σ' b l := by
  obtain ⟨es, c, h1, h2⟩ := h
  exact ⟨es, c, hle _ _ h1, h2⟩

/-- What may be a key. -/
structure KeyOk (d : TypeDesc) : Prop where
  is : ∀ x, IsKey d (mk x)
  inj : ∀ x y, mk x = mk y → x = y

variable {mk} {d : TypeDesc} (K : KeyOk mk d)
include K

theorem findNow_l (k : κ) : ∀ (es : List MapEntry) (l : List (κ × Value)) (i : Nat), ents es = mvals mk l → Instr.findNow d (mk k) es i = some (mix l k i)
  | [], [], i, _ => rfl
  | [], _ :: _, i, h => by simp [ents, mvals] at h
  | _ :: _, [], i, h => by simp [ents, mvals] at h
  | e :: es, p :: l, i, h => by
    simp only [ents, mvals, List.map_cons, List.cons.injEq, Prod.mk.injEq] at h
    obtain ⟨⟨h1, h2⟩, h3⟩ := h
    obtain ⟨r, hr, hiff⟩ := sameNow_of_keys (K.is k) (K.is p.1)
    simp only [Instr.findNow, h1, hr, mix]
    cases r with
    | true =>
      have := K.inj _ _ (hiff.1 rfl)
      rw [if_pos this.symm, h2]
    | false =>
      have hne : ¬ p.1 = k := fun e => by have := hiff.2 (by rw [e]); cases this
      rw [if_neg hne]
      exact findNow_l k es l (i + 1) h3

omit K in
theorem modify_l (k : κ) (v : Value) : ∀ (es : List MapEntry) (l : List (κ × Value)) (i m : Nat) (u : Value), ents es = mvals mk l → mix l k i = some (m, u) →
    ents (es.modify (m - i) fun e => { e with key := mk k, val := v }) = mvals mk (mput l k v) ∧ ∃ e, es[m - i]? = some e ∧ e.key = mk k
  | [], [], i, m, u, _, hm => by cases hm
  | [], _ :: _, i, m, u, h, _ => by simp [ents, mvals] at h
  | _ :: _, [], i, m, u, h, _ => by simp [ents, mvals] at h
  | e :: es, p :: l, i, m, u, h, hm => by
    simp only [ents, mvals, List.map_cons, List.cons.injEq, Prod.mk.injEq] at h
    obtain ⟨⟨h1, h2⟩, h3⟩ := h
    simp only [mix] at hm
    split at hm
    · rename_i hp
      simp only [Option.some.injEq, Prod.mk.injEq] at hm
      obtain ⟨rfl, rfl⟩ := hm
      simp only [Nat.sub_self, List.modify_zero_cons, mput, if_pos hp, ents, mvals, List.map_cons, h3, true_and]
      exact ⟨e, rfl, by rw [h1, hp]⟩
    · rename_i hp
      have hge := mix_ge l k (i + 1) m u hm
      obtain ⟨h4, e', h5, h6⟩ := modify_l k v es l (i + 1) m u h3 hm
      have hx : m - i = (m - (i + 1)) + 1 := by omega
      rw [hx]
      simp only [List.modify_succ_cons, mput, if_neg hp]
      refine ⟨?_, e', by simpa using h5, h6⟩
      simp only [ents, mvals, List.map_cons, List.cons.injEq, Prod.mk.injEq] at h4 ⊢
      exact ⟨⟨h1, h2⟩, h4⟩

variable {P : Program} {w : World} {t kt et : TypeId} {b : Nat} {es : Array MapEntry} {clock : Nat} {l : List (κ × Value)}

theorem run_mlookup (hm : P.underlying t = some (.map kt et)) (hd : P.underlying kt = some d) (hb : w.heap[b]? = some (.map es clock)) (hl : ents es.toList = mvals mk l) {z : Value} (hz : (zeroValue et).run P w = .ok z w) (k : κ) (ok : Bool) :
    (Instr.lookup t (.map (some b)) (mk k) ok).run P w = .ok (if ok then .tuple #[(mlook l k).getD z, .bool (mlook l k).isSome] else (mlook l k).getD z) w := by
  have hf := run_findKey (P := P) (w := w) hd (findNow_l K k es.toList l 0 hl)
  have hc := run_checkKey (P := P) (w := w) hd (K.is k) es.isEmpty 9999
  unfold Instr.lookup mlook
  simp only [Sem.run_bind, run_underlying hm, Go.MapKept.run_getObj_map hb, Result.andThen_ok, Sem.run_pure, hc, hf]
  cases hx : mix l k 0 with
  | none => simp [hz, Result.andThen_ok]
  | some q => obtain ⟨i, v⟩ := q; simp

theorem run_mupdate (hm : P.underlying t = some (.map kt et)) (hd : P.underlying kt = some d) (hb : w.heap[b]? = some (.map es clock)) (hl : ents es.toList = mvals mk l) (k : κ) (v : Value) :
    ∃ es' clock', ents es'.toList = mvals mk (mput l k v) ∧ (Instr.mapUpdate t (.map (some b)) (mk k) v).run P w = .ok () { w with heap := w.heap.setIfInBounds b (.map es' clock') } := by
  have hf := run_findKey (P := P) (w := w) hd (findNow_l K k es.toList l 0 hl)
  have hc := run_checkKey (P := P) (w := w) hd (K.is k) false 9999
  cases hx : mix l k 0 with
  | none =>
    rw [hx] at hf
    refine ⟨es.push { key := mk k, val := v, born := clock }, clock + 1, ?_, ?_⟩
    · rw [mput_new ((mix_none l k 0).1 hx)]
      simp only [ents, mvals, Array.toList_push, List.map_append, List.map_cons, List.map_nil] at hl ⊢
      rw [hl]
    · unfold Instr.mapUpdate
      simp only [Sem.run_bind, run_underlying hm, Go.MapKept.run_getObj_map hb, Result.andThen_ok, hc, hf, Go.MapKept.run_setObj_map _ hb]
  | some q =>
    obtain ⟨i, u⟩ := q
    rw [hx] at hf
    obtain ⟨h1, e, h2, h3⟩ := modify_l k v es.toList l 0 i u hl hx
    simp only [Nat.sub_zero] at h1 h2
    refine ⟨es.modify i fun e => { e with key := mk k, val := v }, clock, by rw [Array.toList_modify]; exact h1, ?_⟩
    have hj : es[i]? = some e := by simpa using h2
    unfold Instr.mapUpdate
    simp only [Sem.run_bind, run_underlying hm, Go.MapKept.run_getObj_map hb, Result.andThen_ok, hc, hf, hj, Option.map_some, Option.getD_some, h3, run_keyThatStays (K.is k), Go.MapKept.run_setObj_map _ hb]
end

/-! ### Rules -/

theorem string_key {d : TypeDesc} (h : d = .string) : KeyOk Value.string d := by
  subst h
  exact ⟨fun _ => by simp [IsKey], fun _ _ h => by injection h⟩
theorem int_key {d : TypeDesc} (k : IntKind) (h : d = .int k) : KeyOk (Value.int k) d := by
  subst h
  exact ⟨fun _ => by simp [IsKey], fun _ _ h => by injection h⟩

section
variable {cf : Cf} {Q : Exit → Act → World → Prop} {σ : Snap} {env : Env} {hp : HP} {A : List AE} {nh : Nat} {it : Item} {rest : List Item}

/-- A new map. -/
theorem oj_makeMap {κ : Type} (mk : κ → Value) {d : Nat} {t : TypeId} (hop : it.o.op = .makeMap t none) (hd : it.o.dst = some d) (hg : guardVal it.guard env = some true) (hN : Nat.blt d cf.N = true) (hq : notQuiet it.tag = true)
    (k : ∀ b σ', σ b = none → σ.le σ' → MapAt mk σ' b [] → OJ cf rest Q σ' ((d, .a (.v (.map (some b)))) :: env) hp A nh) : OJ cf (it :: rest) Q σ env hp A nh := by
  refine oj_fresh (Φ := fun v σ' => ∃ b, v = .map (some b) ∧ σ b = none ∧ MapAt mk σ' b []) hd hg hN hq (fun a β ha w hs => ?_) fun v σ' hle ⟨b, hv, h0, hm⟩ => ⟨.a (.v (.map (some b))), trivial, hv.symm, k b σ' h0 hle hm⟩
  have hnone : σ w.heap.size = none := by
    cases hs' : σ w.heap.size with
    | none => rfl
    | some o =>
      have := (Array.getElem?_eq_some_iff.1 (hs _ _ hs')).1
      omega
  have hold : ∀ b, b < w.heap.size → (w.alloc (.map #[] 0)).heap[b]? = w.heap[b]? := fun b hb => by show (w.heap.push _)[b]? = _; rw [Array.getElem?_push, if_neg (Nat.ne_of_lt hb)]
  refine ⟨.map (some w.heap.size), w.alloc (.map #[] 0), fun i => if i = w.heap.size then some (.map #[] 0) else σ i, ?_, ⟨rfl, rfl, rfl, by show _ ≤ (w.heap.push _).size; rw [Array.size_push]; omega, fun b hb _ => hold b hb⟩, ⟨fun b o hb => ?_, fun b hb => ?_⟩, fun b o hb => ?_, _, rfl, hnone, ?_⟩
  · simp only [execOp, hop, Option.map_none]
    rfl
  · show (if b = w.heap.size then some (Obj.map #[] 0) else σ b) = some o
    rw [if_neg (fun e => by rw [e, hnone] at hb; cases hb)]; exact hb
  · by_cases hbe : b = w.heap.size
    · exact .inr (.inl (by omega))
    · left
      simp only [if_neg hbe] at hb
      exact hb
  · by_cases hbe : b = w.heap.size
    · simp only [if_pos hbe] at hb
      injection hb with hb
      subst hb; subst hbe
      exact Go.heap_alloc_new w _
    · simp only [if_neg hbe] at hb
      have := hs b o hb
      rw [hold b (Array.getElem?_eq_some_iff.1 this).1]; exact this
  · exact ⟨#[], 0, by simp, rfl⟩

/-- 'm[k]'. -/
theorem oj_lookup {κ : Type} [DecidableEq κ] {mk : κ → Value} {dd : TypeDesc} (K : KeyOk mk dd) {d : Nat} {t kt et : TypeId} {m x : Operand} {ok : Bool} {b : Nat} {l : List (κ × Value)} {kk : κ} {y : SV} {z : Value}
    (hm : cf.P.underlying t = some (.map kt et)) (hkt : cf.P.underlying kt = some dd) (hz : ∀ w, (zeroValue et).run cf.P w = .ok z w)
    (hop : it.o.op = .lookup t m x ok) (hd : it.o.dst = some d) (hg : guardVal it.guard env = some true) (hN : Nat.blt d cf.N = true) (ht : (match it.tag with | .pure => false | _ => true) = true)
    (hmv : evalO env m = some (.a (.v (.map (some b))))) (hxv : ∃ s, evalO env x = some s ∧ ∀ β, s.den β = mk kk) (hM : MapAt mk σ b l) (hlt : y.lt 0)
    (hy : y.den β0 = if ok then .tuple #[(mlook l kk).getD z, .bool (mlook l kk).isSome] else (mlook l kk).getD z)
    (k : OJ cf rest Q σ ((d, y) :: env) hp A nh) : OJ cf (it :: rest) Q σ env hp A nh := by
  obtain ⟨es, clock, h1, h2⟩ := hM
  obtain ⟨s, hs, hsd⟩ := hxv
  refine oj_valW y hd hg hN (SV.lt_mono (Nat.zero_le _) hlt) ht (fun hb a β ha w hw => ?_) k
  have e1 : a.eval m = .map (some b) := evalO_eval ha hmv
  have e2 : a.eval x = mk kk := (evalO_eval ha hs).trans (hsd β)
  have hd0 : y.den β = y.den β0 := SV.den_congr (n := 0) (fun i hi => by omega) hlt
  have hr := run_mlookup K hm hkt (hw.sealed _ _ h1) h2 (hz w) kk ok
  simp only [execOp, hop, e1, e2, Sem.run_bind]
  rw [hr, hd0, hy]
  rfl

def updOf : Op → Option (TypeId × Operand × Operand × Operand)
  | .mapUpdate t m x v => some (t, m, x, v)
  | .insert t m x v => some (t, m, x, v)
  | _ => none

/-- 'm[k] = v'. -/
theorem oj_mapUpdate {κ : Type} [DecidableEq κ] {mk : κ → Value} {dd : TypeDesc} (K : KeyOk mk dd) {t kt et : TypeId} {m x v : Operand} {b : Nat} {l : List (κ × Value)} {kk : κ} {vv : Value}
    (hm : cf.P.underlying t = some (.map kt et)) (hkt : cf.P.underlying kt = some dd)
    (hop : updOf it.o.op = some (t, m, x, v)) (hd : it.o.dst = none) (hg : guardVal it.guard env = some true) (ht : canSink it.tag = true)
    (hmv : evalO env m = some (.a (.v (.map (some b))))) (hxv : ∃ s, evalO env x = some s ∧ ∀ β, s.den β = mk kk) (hvv : ∃ s, evalO env v = some s ∧ ∀ β, s.den β = vv) (hM : MapAt mk σ b l) (h0 : cf.σ0 b = none)
    (k : ∀ σ', σ.cle σ' → (∀ i, i ≠ b → σ' i = σ i) → MapAt mk σ' b (mput l kk vv) → OJ cf rest Q σ' env hp A nh) : OJ cf (it :: rest) Q σ env hp A nh := by
  obtain ⟨es, clock, h1, h2⟩ := hM
  obtain ⟨s, hs, hsd⟩ := hxv
  obtain ⟨u, hu, hud⟩ := hvv
  refine ⟨fun hb a β ha hex => ?_⟩
  have key : ∀ w, StW cf σ hp A β w → ∀ Q', it.o.wq cf.P a w (fun a' w' => ∃ E' S' : World → Prop, S' w' ∧ (∀ x, S' x → E' x) ∧ RunT cf.P Q rest E' S' a') Q' := by
    intro w hw Q'
    have e1 : a.eval m = .map (some b) := evalO_eval ha hmv
    have e2 : a.eval x = mk kk := (evalO_eval ha hs).trans (hsd β)
    have e3 : a.eval v = vv := (evalO_eval ha hu).trans (hud β)
    obtain ⟨es', clock', h3, h4⟩ := run_mupdate (P := cf.P) K hm hkt (hw.sealed _ _ h1) h2 kk vv
    have hrun : (execOp a.eval it.o).run cf.P w = .ok .skip { w with heap := w.heap.setIfInBounds b (.map es' clock') } := by
      unfold updOf at hop
      split at hop
      · rename_i hop'
        simp only [Option.some.injEq, Prod.mk.injEq] at hop
        obtain ⟨rfl, rfl, rfl, rfl⟩ := hop
        simp only [execOp, hop', e1, e2, e3, Sem.run_bind, h4, Result.andThen_ok, Sem.run_pure]
      · rename_i hop'
        simp only [Option.some.injEq, Prod.mk.injEq] at hop
        obtain ⟨rfl, rfl, rfl, rfl⟩ := hop
        simp only [execOp, hop', e1, e2, e3, Sem.run_bind, h4, Result.andThen_ok, Sem.run_pure]
      · cases hop
    have hw' := hw.turn (o' := .map es' clock') h1 rfl rfl h0
    unfold Oper.wq
    rw [hrun]
    refine ⟨_, _, hw', fun _ h => h, ?_⟩
    rw [hd]
    refine (k _ (fun ad c hc => ?_) (fun i hi => Snap.set_ne hi) ⟨es', clock', Snap.set_self .., h3⟩).run hb a β ha ⟨_, hw'⟩
    rw [Snap.cell_set (hw.nocell_of (hw.sealed _ _ h1) rfl) (fun o e => by injection e with e; subst e; rfl)]; exact hc
  simp only [RunT]
  rw [if_pos (guardVal_ok ha hg)]
  cases htag : it.tag with
  | pure => rw [htag] at ht; cases ht
  | quiet => rw [htag] at ht; cases ht
  | keep => rw [htag] at ht; cases ht
  | sink => exact fun w hw => key w hw _
  | free => exact fun w hw => key w hw _
end
end Go.Sy
