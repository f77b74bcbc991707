/- The reckoning of a whole list of operations, and that what it leaves suffices. No program in sight. -/
import Derived.Test.YtadnijcgohflhaaDoorSyC
namespace Go.Sy

section
variable {cf : Cf} {T : List (Nat × TI)} {env : Env} {hp : HP} {nh : Nat} {β : Nat → Addr} {a : Act} {o : Oper}
variable (hT : TTok cf.P T) (ha : StA cf env β a) (hb : Bd env hp nh)

theorem run_places {P : Program} (w : World) : ∀ (fs : List Field), (∀ f ∈ fs, ∃ d, P.underlying f.type = some d) →
    (fs.mapM fun f => do pure (f.offset, ← sizeOf f.type) : Sem (List (Nat × Nat))).run P w = .ok (fs.map fun f => (f.offset, P.cellsOf f.type)) w
  | [], _ => rfl
  | f :: fs, h => by
    obtain ⟨d, hd⟩ := h f (List.mem_cons_self ..)
    simp only [List.mapM_cons, Sem.run_bind, run_sizeB rfl hd, Result.andThen_ok, Sem.run_pure, run_places w fs (fun g hg => h g (List.mem_cons_of_mem _ hg)), List.map_cons]

include hT ha hb in
theorem ok_build {t : TypeId} {parts : Array (Nat × Operand)} (ho : o.op = .build t parts) {eff : Eff} (h : stepOp T (.build t parts) env hp nh = some eff) : EffOk cf o a hp nh β eff := by
  simp only [stepOp] at h
  split at h
  · rename_i ti hti
    obtain ⟨inf, d, z, hs⟩ := tiOf_spec (hT _ _ hti)
    split at h
    · rename_i hk
      obtain ⟨hall, h⟩ := cond_some h
      obtain ⟨l, hl, rfl⟩ := map_some h
      obtain ⟨fs, hu, hfs⟩ := struct_of hs hk
      obtain ⟨h1, h2⟩ := fillA_ok ha hb ti.fields parts.toList ti.zero l (zero_lt hs nh) hl
      refine ⟨h2, fun w _ => ?_⟩
      have hund : ∀ f ∈ fs.toList, ∃ d, cf.P.underlying f.type = some d := by
        intro f hf
        have := List.all_eq_true.1 hall (f.offset, cf.P.cellsOf f.type, (cf.P.underlying f.type).map aggD) (by rw [hfs]; exact List.mem_map.2 ⟨f, hf, rfl⟩)
        cases hd : cf.P.underlying f.type with
        | none => simp [hd] at this
        | some d => exact ⟨d, rfl⟩
      have hpl := run_places w fs.toList hund
      have hz := zero_den hs β
      simp only [execOp, ho, Instr.build, Sem.run_bind, run_zero hs.info hs.zero, Result.andThen_ok, run_underlying hu, Array.mapM_eq_mapM_toList, Sem.run_map, hpl]
      have hparts : (parts.map fun (x : Nat × Operand) => (x.1, a.eval x.2)).toList = parts.toList.map fun p => (p.1, a.eval p.2) := by simp
      have hplace : (fun (i : Nat) => ((fs.toList.map fun f => (f.offset, cf.P.cellsOf f.type)).toArray)[i]?) = fun (i : Nat) => (ti.fields[i]?).map fun (f : Nat × Nat × Option Bool) => (f.1, f.2.1) := by
        funext i
        rw [hfs]
        simp only [List.getElem?_toArray, List.getElem?_map, Option.map_map]
        rfl
      rw [hz, ← hplace] at h1
      have hparts' : (Array.map (fun x => match x with | (i, x) => (i, a.eval x)) parts).toList = parts.toList.map fun p => (p.1, a.eval p.2) := hparts
      rw [hparts']
      simp only [h1]
      rfl
    · cases h
  · cases h

include ha hb in
theorem fillS_ok (size : Nat) : ∀ (parts : List (Nat × Operand)) (k : Nat) (l : List AT), fillS env size k parts = some l →
    l.length = parts.length * size ∧ (∀ c ∈ l, c.lt nh) ∧ ∀ cs : Array Value, cs.size = (k + parts.length) * size →
      Instr.fill (fun i => some (i * size, size)) cs (parts.map fun p => (p.1, a.eval p.2)) = some (cs.toList.take (k * size) ++ l.map (AT.den β)).toArray
  | [], k, l, h => by
    simp only [fillS, Option.some.injEq] at h
    subst h
    refine ⟨by simp, by simp, fun cs hcs => ?_⟩
    simp only [List.length_nil, Nat.add_zero] at hcs
    have : cs.toList.take (k * size) = cs.toList := List.take_of_length_le (by simp [hcs])
    simp [Instr.fill, this]
  | (i, x) :: rest, k, l, h => by
    simp only [fillS] at h
    split at h
    · rename_i ns hx
      obtain ⟨y, hy, hyc⟩ := bind_some hx
      obtain ⟨hc, h⟩ := cond_some h
      simp only [Bool.and_eq_true] at hc
      have hi := Nat.eq_of_beq_eq_true hc.1
      have hlen := Nat.eq_of_beq_eq_true hc.2
      subst hi
      obtain ⟨m, hm, rfl⟩ := map_some h
      obtain ⟨h1, h2, h3⟩ := fillS_ok size rest (i + 1) m hm
      have hcd := cells_den (β := β) hyc
      refine ⟨by simp [hlen, h1, Nat.add_mul]; omega, ?_, fun cs hcs => ?_⟩
      · intro c hcc
        rcases List.mem_append.1 hcc with hcc | hcc
        · exact cells_lt hyc (evalO_lt hb hy) c hcc
        · exact h2 c hcc
      · have e1 : (i + (rest.length + 1)) * size = i * size + size + rest.length * size := by simp [Nat.add_mul]; omega
        simp only [List.length_cons] at hcs
        rw [e1] at hcs
        simp only [List.map_cons, evalO_eval ha hy]
        rw [fill_lay (off := i * size) (size := size) rfl (by rw [hcd]; simp [hlen]) (by omega)]
        rw [h3 _ (by simp [hcd, hlen, Nat.add_mul]; omega)]
        congr 2
        simp only [Nat.add_mul, Nat.one_mul, hcd, List.map_append]
        have e2 : (cs.toList.take (i * size) ++ ns.map (AT.den β)).length = i * size + size := by simp [hlen]; omega
        rw [← List.append_assoc, List.take_append_of_le_length (by rw [e2]; exact Nat.le_refl _), List.take_of_length_le (by rw [e2]; exact Nat.le_refl _)]
    · cases h

include hT ha hb in
theorem ok_buildSlice {t : TypeId} {n : Nat} {parts : Array (Nat × Operand)} (ho : o.op = .buildSlice t n parts) {eff : Eff} (h : stepOp T (.buildSlice t n parts) env hp nh = some eff) : EffOk cf o a hp nh β eff := by
  simp only [stepOp] at h
  split at h
  · rename_i ti hti
    obtain ⟨inf, d, z, hs⟩ := tiOf_spec (hT _ _ hti)
    split at h
    · rename_i e hk
      split at h
      · rename_i te hte
        obtain ⟨ie, de, ze, hse⟩ := tiOf_spec (hT _ _ hte)
        obtain ⟨hc, h⟩ := cond_some h
        simp only [Bool.and_eq_true] at hc
        have hlen := Nat.eq_of_beq_eq_true hc.1
        have hle := Nat.le_of_ble_eq_true hc.2
        obtain ⟨l, hl, rfl⟩ := map_some h
        obtain ⟨h1, h2, h3⟩ := fillS_ok ha hb te.size parts.toList 0 l hl
        have hu : cf.P.underlying t = some (.slice e) := by
          have h1 := hs.kind
          rw [hk] at h1
          have h2 := hs.und
          cases d <;> first
            | (simp only [kindD, TK.slice.injEq] at h1; subst h1; exact h2)
            | (simp only [kindD] at h1; cases h1)
        refine ⟨h2, .inr ⟨n, rfl⟩, fun w => ?_⟩
        have hparts : (parts.map fun (x : Nat × Operand) => (x.1, a.eval x.2)).toList = parts.toList.map fun p => (p.1, a.eval p.2) := by simp
        have hparts' : (Array.map (fun x => match x with | (i, x) => (i, a.eval x)) parts).toList = parts.toList.map fun p => (p.1, a.eval p.2) := hparts
        have hall : ∀ zc : Array Value, Instr.fill (fun i => some (i * te.size, te.size)) ((Array.range (n * te.size)).map fun j => zc[j % zc.size]!) (parts.toList.map fun p => (p.1, a.eval p.2)) = some (l.map (AT.den β)).toArray := by
          intro zc
          have hf := h3 ((Array.range (n * te.size)).map fun j => zc[j % zc.size]!) (by simp [hlen])
          simpa only [Nat.zero_mul, List.take_zero, List.nil_append] using hf
        simp only [execOp, ho, Instr.buildSlice, Sem.run_bind, run_underlying hu, Result.andThen_ok, run_size hse.info, hse.size]
        rw [if_neg (by omega)]
        by_cases h0 : n * te.size = 0
        · have := hall #[]
          simp only [if_pos h0, Sem.run_bind, Sem.run_pure, Result.andThen_ok, hparts', this]
          simp only [newRow, Sem.run_bind, run_newObj, Sem.run_pure, Result.andThen_ok, AT.den, upd_new]
          rfl
        · have := hall ze.cells
          simp only [if_neg h0, Sem.run_bind, run_zero hse.info hse.zero, Sem.run_pure, Result.andThen_ok, hparts', this]
          simp only [newRow, Sem.run_bind, run_newObj, Sem.run_pure, Result.andThen_ok, AT.den, upd_new]
          rfl
      · cases h
    · cases h
  · cases h

include hT ha hb in
/-- WHAT IS RECKONED IS WHAT IS DONE. -/
theorem step_ok {eff : Eff} (h : stepOp T o.op env hp nh = some eff) : EffOk cf o a hp nh β eff := by
  generalize ho : o.op = op at h
  cases op with
  | move x => exact ok_move ha hb ho (by simpa only [stepOp] using h)
  | assign x => exact ok_assign ha hb ho (by simpa only [stepOp] using h)
  | pick c x y => exact ok_pick ha hb ho h
  | alloc t => exact ok_alloc hT ho h
  | box t x => exact ok_box ha hb ho h
  | build t ps => exact ok_build hT ha hb ho h
  | buildSlice t n ps => exact ok_buildSlice hT ha hb ho h
  | load t x => exact ok_load hT ha hb ho h
  | store t x y => exact ok_store hT ha hb ho h
  | nilCheck x => exact ok_nilCheck ha hb ho h
  | binOp op t x y u => exact ok_binOp hT ha ho h
  | unOp op t x =>
    cases op with
    | not => exact ok_not ha ho h
    | _ => simp only [stepOp] at h; cases h
  | convert s d x => exact ok_convert hT ha ho h
  | makeInterface t x => exact ok_makeInterface hT ha ho h
  | makeFunc f x y => exact ok_makeFunc ha hb ho h
  | fieldAddr t x f => exact ok_fieldAddr hT ha hb ho h
  | field t x f => exact ok_field hT ha hb ho h
  | extract x f => exact ok_extract ha hb ho h
  | call c => exact ok_len hT ha ho h
  | _ => simp only [stepOp] at h; cases h
end

/-! ### A whole list -/

def undefSV : SV := .tup []

def guardVal (g : Option (Option Nat × Bool)) (env : Env) : Option Bool :=
  match g with
  | none => some true
  | some (none, _) => some false
  | some (some t, b) =>
    match env.get t with
    | some (.a .tt) => some b
    | some (.a .ff) => some (!b)
    | some (.tup _) => some false
    | _ => none

def forceL {R : Type} : List AT → (List AT → R) → R
  | [], k => k []
  | x :: xs, k => forceL xs fun ys => k (x :: ys)

theorem forceL_eq {R : Type} : ∀ (l : List AT) (k : List AT → R), forceL l k = k l
  | [], _ => rfl
  | x :: xs, k => by simp only [forceL, forceL_eq xs]

def forceEff {R : Type} (e : Eff) (k : Eff → R) : R :=
  match e with
  | .val (.agg cs) => forceL cs fun cs => k (.val (.agg cs))
  | .val (.a x) => k (.val (.a x))
  | .val (.tup vs) => k (.val (.tup vs))
  | .new e cs x => forceL cs fun cs => k (.new e cs x)
  | .put h e cs => forceL cs fun cs => k (.put h e cs)

theorem forceEff_eq {R : Type} (e : Eff) (k : Eff → R) : forceEff e k = k e := by
  cases e with
  | val x => cases x <;> simp only [forceEff, forceL_eq]
  | new e cs x => simp only [forceEff, forceL_eq]
  | put h e cs => simp only [forceEff, forceL_eq]

/-- What is left, and what is known by then. ('no' is never told: with it the form is not taken for a structure.) -/
inductive Out where
  | mk (l : List Item) (env : Env) (hp : HP) (nh : Nat)
  | no

def bindE (d : Option Tmp) (N : Nat) (x : SV) (env : Env) (k : Env → Out) (stop : Out) : Out :=
  match d with
  | none => k env
  | some d => bif Nat.blt d N then k ((d, x) :: env) else stop

/-- May an operation that heeds the world, as a load, be taken so? -/
def canRead : Tag → Op → Bool
  | .pure, op => !isLoad op
  | _, _ => true
def canNew : Tag → Bool
  | .quiet | .pure => false
  | _ => true
def canPut : Tag → Bool
  | .free | .sink => true
  | _ => false

def exec (T : List (Nat × TI)) (N : Nat) : List Item → Env → HP → Nat → Out
  | [], env, hp, nh => .mk [] env hp nh
  | it :: rest, env, hp, nh =>
    match guardVal it.guard env with
    | none => .mk (it :: rest) env hp nh
    | some false => bindE it.o.dst N undefSV env (fun env' => exec T N rest env' hp nh) (.mk (it :: rest) env hp nh)
    | some true =>
      match stepOp T it.o.op env hp nh with
      | none => .mk (it :: rest) env hp nh
      | some eff => forceEff eff fun
        | .val x => bif canRead it.tag it.o.op then bindE it.o.dst N x env (fun env' => exec T N rest env' hp nh) (.mk (it :: rest) env hp nh) else .mk (it :: rest) env hp nh
        | .new e cs x => bif canNew it.tag then bindE it.o.dst N (.a x) env (fun env' => exec T N rest env' ((nh, .loc e, cs) :: hp) (nh + 1)) (.mk (it :: rest) env hp nh) else .mk (it :: rest) env hp nh
        | .put i e cs => bif canPut it.tag then bindE it.o.dst N undefSV env (fun env' => exec T N rest env' ((i, .loc e, cs) :: hp) nh) (.mk (it :: rest) env hp nh) else .mk (it :: rest) env hp nh

/-- THE JUDGEMENT: from whatever frame and world of this kind the operations run, and end in Q. -/
structure OJ (cf : Cf) (l : List Item) (Q : Exit → Act → World → Prop) (σ : Snap) (env : Env) (hp : HP) (A : List AE) (nh : Nat) : Prop where
  run : Bd env hp nh → ∀ a β, StA cf env β a → (∃ w, StW cf σ hp A β w) → RunT cf.P Q l (fun w => StW cf σ hp A β w) (fun w => StW cf σ hp A β w) a

theorem guardVal_ok {cf : Cf} {env : Env} {β : Nat → Addr} {a : Act} (ha : StA cf env β a) {g : Option (Option Nat × Bool)} {b : Bool} (h : guardVal g env = some b) : wantedS g a = b := by
  unfold guardVal at h
  unfold wantedS
  split at h
  · injection h
  · injection h
  · rename_i t b'
    split at h
    · rename_i ht
      have := ha.env _ _ ht
      simp only [this, SV.den, AT.den]
      injection h with h
      subst h
      cases b' <;> rfl
    · rename_i ht
      have := ha.env _ _ ht
      simp only [this, SV.den, AT.den]
      injection h with h
      subst h
      cases b' <;> rfl
    · rename_i ht
      have := ha.env _ _ ht
      simp only [this, SV.den]
      injection h
    · cases h

theorem StA.put {cf : Cf} {env : Env} {β : Nat → Addr} {a : Act} (ha : StA cf env β a) {d : Nat} (hd : d < cf.N) (x : SV) : StA cf ((d, x) :: env) β (a.put (some d) (x.den β)) := by
  refine ⟨by simp [Act.put, ha.size], ha.defers, fun i y hy => ?_⟩
  rw [Env.get_cons] at hy
  by_cases hi : d = i
  · subst hi
    rw [if_pos rfl] at hy
    injection hy with hy
    subst hy
    simp [Act.put, ha.size, hd]
  · rw [if_neg hi] at hy
    simp only [Act.put, Array.getElem?_setIfInBounds_ne hi]
    exact ha.env i y hy

theorem StA.congr {cf : Cf} {env : Env} {β β' : Nat → Addr} {a : Act} {hp : HP} {nh : Nat} (ha : StA cf env β a) (hb : Bd env hp nh) (h : ∀ i, i < nh → β' i = β i) : StA cf env β' a :=
  ⟨ha.size, ha.defers, fun i x hx => by rw [SV.den_congr h (hb.env i x hx)]; exact ha.env i x hx⟩

theorem Bd.put {env : Env} {hp : HP} {nh : Nat} (hb : Bd env hp nh) {x : SV} (hx : x.lt nh) (d : Nat) : Bd ((d, x) :: env) hp nh := by
  refine ⟨fun i y hy => ?_, hb.hp⟩
  rw [Env.get_cons] at hy
  by_cases hi : d = i
  · rw [if_pos hi] at hy; injection hy with hy; subst hy; exact hx
  · rw [if_neg hi] at hy; exact hb.env i y hy

theorem Bd.mono {env : Env} {hp : HP} {n m : Nat} (hb : Bd env hp n) (h : n ≤ m) : Bd env hp m :=
  ⟨fun i x hx => SV.lt_mono h (hb.env i x hx), fun i k cs hi => ⟨Nat.lt_of_lt_of_le (hb.hp i k cs hi).1 h, fun c hc => AT.lt_mono h ((hb.hp i k cs hi).2 c hc)⟩⟩

theorem Bd.row {env : Env} {hp : HP} {nh : Nat} (hb : Bd env hp nh) {i : Nat} {k : HK} {cs : List AT} (hi : i < nh) (hcs : ∀ c ∈ cs, c.lt nh) : Bd env ((i, k, cs) :: hp) nh := by
  refine ⟨hb.env, fun j k' cs' hj => ?_⟩
  rw [HP.get_cons] at hj
  by_cases hij : i = j
  · rw [if_pos hij] at hj
    injection hj with hj
    simp only [Prod.mk.injEq] at hj
    obtain ⟨_, rfl⟩ := hj
    exact ⟨hij ▸ hi, hcs⟩
  · rw [if_neg hij] at hj; exact hb.hp j k' cs' hj

theorem ArrOk.keep {cf : Cf} {σ : Snap} {w w' : World} {E : AE} (h : ArrOk cf σ w E) (hk : ∀ g, E.blk = some g → w'.heap[g]? = w.heap[g]?) : ArrOk cf σ w' E := by
  refine ⟨h.1, ?_⟩
  rcases h.2 with h2 | ⟨g, cur, h3, h4, h5⟩
  · exact .inl h2
  · exact .inr ⟨g, cur, h3, by rw [hk g (by simp [AE.blk, h3])]; exact h4, h5⟩

theorem ArrOk.lt {cf : Cf} {σ : Snap} {w : World} {E : AE} (h : ArrOk cf σ w E) {g : Nat} (hg : E.blk = some g) : g < w.heap.size ∧ σ g = none ∧ Own cf g := by
  rcases h.2 with h2 | ⟨g', cur, h3, h4, _, _, _, _, h8, h9⟩
  · simp [AE.blk, h2.1] at hg
  · simp only [AE.blk, h3, Option.map_some, Option.some.injEq] at hg
    subst hg
    exact ⟨(Array.getElem?_eq_some_iff.1 h4).1, h8, h9⟩

/-- A new block of the call's own. -/
theorem StW.alloc {cf : Cf} {σ : Snap} {hp : HP} {A : List AE} {β : Nat → Addr} {w : World} (h : StW cf σ hp A β w) {env : Env} {nh : Nat} (hb : Bd env hp nh) {e : TypeId} {cs : List AT}
    (hcs : ∀ c ∈ cs, c.lt nh) : StW cf σ ((nh, .loc e, cs) :: hp) A (upd β nh w) (w.alloc (.cells (cs.map (AT.den β)).toArray e)) := by
  have hold : ∀ b, b < w.heap.size → (w.alloc (.cells (cs.map (AT.den β)).toArray e)).heap[b]? = w.heap[b]? := fun b hb => by show (w.heap.push _)[b]? = _; rw [Array.getElem?_push, if_neg (Nat.ne_of_lt hb)]
  have hσ : σ w.heap.size = none := by
    cases hs : σ w.heap.size with
    | none => rfl
    | some ob =>
      have := h.sealed _ _ hs
      have := (Array.getElem?_eq_some_iff.1 this).1
      omega
  have hget : ∀ {i : Nat} {k : HK} {l : List AT}, HP.get ((nh, HK.loc e, cs) :: hp) i = some (k, l) → (i = nh ∧ k = .loc e ∧ l = cs) ∨ (i < nh ∧ hp.get i = some (k, l)) := by
    intro i k l hi
    rw [HP.get_cons] at hi
    by_cases hin : nh = i
    · rw [if_pos hin] at hi
      injection hi with hi
      simp only [Prod.mk.injEq] at hi
      exact .inl ⟨hin.symm, hi.1.symm, hi.2.symm⟩
    · rw [if_neg hin] at hi
      exact .inr ⟨(hb.hp i k l hi).1, hi⟩
  have hlocb : ∀ {i : Nat} {e' : TypeId} {l : List AT}, hp.get i = some (.loc e', l) → (β i).block < w.heap.size := fun hi => (Array.getElem?_eq_some_iff.1 (h.loc _ _ _ hi).2.1).1
  refine ⟨h.os, h.tape, h.output, by have := h.size; simp only [World.alloc, Array.size_push]; omega, fun b hb hm => ?_, fun b ob hs => ?_, h.le, h.grow, fun i e' l hi => ?_, fun i l hi => ?_, fun i j e1 e2 l1 l2 hi hj hij => ?_, fun i E hE => ?_, h.arrd, fun i j E e' l hE hj => ?_⟩
  · rw [hold b (Nat.lt_of_lt_of_le hb h.size)]; exact h.fr b hb hm
  · have := h.sealed b ob hs
    rw [hold b (Array.getElem?_eq_some_iff.1 this).1]; exact this
  · rcases hget hi with ⟨rfl, hk, rfl⟩ | ⟨hlt, hi⟩
    · injection hk with hk
      subst hk
      refine ⟨by rw [upd_new], ?_, ?_, .inl (by rw [upd_new]; exact h.size)⟩
      · rw [upd_new, AT.denL_congr (upd_old β i w) hcs]; exact Go.heap_alloc_new w _
      · rw [upd_new]; exact hσ
    · rw [upd_old β nh w i hlt, AT.denL_congr (upd_old β nh w) (hb.hp i _ l hi).2]
      obtain ⟨h1, h2, h3⟩ := h.loc i e' l hi
      exact ⟨h1, by rw [hold _ (hlocb hi)]; exact h2, h3⟩
  · rcases hget hi with ⟨_, hk, _⟩ | ⟨hlt, hi⟩
    · cases hk
    · intro j c hc
      rw [upd_old β nh w i hlt, AT.den_congr (upd_old β nh w) ((hb.hp i _ l hi).2 c (List.mem_of_getElem? hc))]
      exact h.ro i l hi j c hc
  · rcases hget hi with ⟨ei, _, _⟩ | ⟨hlt, hi'⟩ <;> rcases hget hj with ⟨ej, _, _⟩ | ⟨hlt', hj'⟩
    · exact ei.trans ej.symm
    · rw [ei, upd_new, upd_old β nh w j hlt'] at hij
      have := hlocb hj'
      simp only at hij
      omega
    · rw [ej, upd_new, upd_old β nh w i hlt] at hij
      have := hlocb hi'
      simp only at hij
      omega
    · rw [upd_old β nh w i hlt, upd_old β nh w j hlt'] at hij
      exact h.inj i j _ _ _ _ hi' hj' hij
  · exact (h.arr i E hE).keep fun g hg => hold g ((h.arr i E hE).lt hg).1
  · intro hc
    rcases hget hj with ⟨rfl, _, _⟩ | ⟨hlt, hj⟩
    · rw [upd_new] at hc
      have := ((h.arr i E hE).lt hc).1
      simp only at this
      omega
    · rw [upd_old β nh w j hlt] at hc
      exact h.arrh i j E e' l hE hj hc

/-- A store into a block of the call's own. -/
theorem StW.store {cf : Cf} {σ : Snap} {hp : HP} {A : List AE} {β : Nat → Addr} {w : World} (h : StW cf σ hp A β w) {i : Nat} {e : TypeId} {cs0 cs : List AT} (hi : hp.get i = some (.loc e, cs0)) :
    StW cf σ ((i, .loc e, cs) :: hp) A β (w.setRow (β i).block (cs.map (AT.den β)).toArray) := by
  obtain ⟨h1, h2, h3, h4⟩ := h.loc i e cs0 hi
  have hoth : ∀ b, b ≠ (β i).block → (w.setRow (β i).block (cs.map (AT.den β)).toArray).heap[b]? = w.heap[b]? := fun b hb => setRow_other w _ b _ hb
  refine ⟨h.os, h.tape, h.output, by have := h.size; simpa using this, fun b hb hm => ?_, fun b ob hs => ?_, h.le, h.grow, fun j e' l hj => ?_, fun j l hj => ?_, fun j k e1 e2 l1 l2 hj hk hjk => ?_, fun j E hE => ?_, h.arrd, fun j k E e' l hE hk => ?_⟩
  · rw [hoth b (fun hc => by subst hc; rcases h4 with h4 | h4 <;> first | omega | exact hm h4)]; exact h.fr b hb hm
  · rw [hoth b (fun hc => by subst hc; rw [h3] at hs; cases hs)]; exact h.sealed b ob hs
  · rw [HP.get_cons] at hj
    by_cases hij : i = j
    · rw [if_pos hij] at hj
      injection hj with hj
      simp only [Prod.mk.injEq, HK.loc.injEq] at hj
      obtain ⟨rfl, rfl⟩ := hj
      subst hij
      exact ⟨h1, setRow_heap w _ _ _ _ _ h2, h3, h4⟩
    · rw [if_neg hij] at hj
      obtain ⟨g1, g2, g3⟩ := h.loc j e' l hj
      exact ⟨g1, by rw [hoth _ (fun hc => hij (h.inj j i _ _ _ _ hj hi hc).symm)]; exact g2, g3⟩
  · rw [HP.get_cons] at hj
    by_cases hij : i = j
    · rw [if_pos hij] at hj; injection hj with hj; simp at hj
    · rw [if_neg hij] at hj; exact h.ro j l hj
  · rw [HP.get_cons] at hj hk
    by_cases hij : i = j <;> by_cases hik : i = k
    · exact hij.symm.trans hik
    · rw [if_neg hik] at hk; subst hij; exact h.inj i k _ _ _ _ hi hk hjk
    · rw [if_neg hij] at hj; subst hik; exact h.inj j i _ _ _ _ hj hi hjk
    · rw [if_neg hij] at hj; rw [if_neg hik] at hk; exact h.inj j k _ _ _ _ hj hk hjk
  · exact (h.arr j E hE).keep fun g hg => hoth g (fun hc => h.arrh j i E e cs0 hE hi (hc ▸ hg))
  · rw [HP.get_cons] at hk
    by_cases hik : i = k
    · subst hik; exact h.arrh j i E e cs0 hE hi
    · rw [if_neg hik] at hk; exact h.arrh j k E e' l hE hk

theorem undef_den (β : Nat → Addr) : undefSV.den β = undef := rfl
theorem undef_lt (n : Nat) : undefSV.lt n := fun x hx => by cases hx

/-- The last step: what a slot is bound to. -/
theorem bindE_ok {cf : Cf} {d : Option Tmp} {x : SV} {env : Env} {k : Env → Out} {stop : Out}
    (R : Out → Prop) (hr : R (bindE d cf.N x env k stop)) :
    R stop ∨ (d = none ∧ R (k env)) ∨ ∃ t, d = some t ∧ t < cf.N ∧ R (k ((t, x) :: env)) := by
  unfold bindE at hr
  cases d with
  | none => exact .inr (.inl ⟨rfl, hr⟩)
  | some t =>
    simp only at hr
    cases hlt : Nat.blt t cf.N with
    | false => rw [hlt] at hr; exact .inl hr
    | true =>
      rw [hlt] at hr
      exact .inr (.inr ⟨t, rfl, by simpa [Nat.blt_eq] using hlt, hr⟩)

/-- The judgement on what is left. -/
def OutJ (cf : Cf) (Q : Exit → Act → World → Prop) (σ : Snap) (A : List AE) : Out → Prop
  | .mk l env hp nh => OJ cf l Q σ env hp A nh
  | .no => False

theorem exec_ok {cf : Cf} {T : List (Nat × TI)} (hT : TTok cf.P T) {Q : Exit → Act → World → Prop} {σ : Snap} {A : List AE} : ∀ (l : List Item) (env : Env) (hp : HP) (nh : Nat),
    OutJ cf Q σ A (exec T cf.N l env hp nh) → OJ cf l Q σ env hp A nh
  | [], env, hp, nh, h => h
  | it :: rest, env, hp, nh, h => by
    simp only [exec] at h
    split at h
    · exact h
    · rename_i hg
      rcases bindE_ok (cf := cf) (fun o => OutJ cf Q σ A o) h with h | ⟨hd, h⟩ | ⟨t, hd, ht, h⟩
      · exact h
      · refine ⟨fun hb a β ha hex => ?_⟩
        have h' := (exec_ok hT rest _ _ _ h).run hb a β ha hex
        simp only [RunT]
        rw [if_neg (by rw [guardVal_ok ha hg]; simp), hd]
        exact h'
      · refine ⟨fun hb a β ha hex => ?_⟩
        have h' := (exec_ok hT rest _ _ _ h).run (hb.put (undef_lt nh) t) (a.put (some t) undef) β (ha.put ht undefSV) hex
        simp only [RunT]
        rw [if_neg (by rw [guardVal_ok ha hg]; simp), hd]
        exact h'
    · rename_i hg
      split at h
      · exact h
      · rename_i eff heff
        rw [forceEff_eq] at h
        cases eff with
        | val x =>
          cases hcan : canRead it.tag it.o.op with
          | false => rw [hcan] at h; exact h
          | true =>
          rw [hcan] at h
          simp only [cond_true] at h
          have fin : ∀ env', (∀ a β, StA cf env β a → Bd env hp nh → x.lt nh → Bd env' hp nh ∧ StA cf env' β (a.put it.o.dst (x.den β))) → OJ cf rest Q σ env' hp A nh → OJ cf (it :: rest) Q σ env hp A nh := by
            intro env' hput h
            refine ⟨fun hb a β ha hex => ?_⟩
            obtain ⟨hx, hrun⟩ := step_ok (o := it.o) hT ha hb heff
            obtain ⟨hb', ha'⟩ := hput a β ha hb hx
            have h' := h.run hb' _ β ha' hex
            simp only [RunT]
            rw [if_pos (guardVal_ok ha hg)]
            cases htag : it.tag with
            | pure =>
              rw [htag] at hcan
              have hnl : isLoad it.o.op = false := by simpa [canRead] using hcan
              exact ⟨_, fun w => .inl (hrun w (fun h => by rw [hnl] at h; cases h)), h'⟩
            | quiet => exact ⟨_, fun w hw => .inl (hrun w fun _ => ⟨σ, A, hw⟩), h'⟩
            | keep => exact fun w hw => wp_of_quiet (.inl (hrun w fun _ => ⟨σ, A, hw⟩)) ⟨_, _, hw, fun _ h => h, fun _ h => h, h'⟩
            | sink => exact fun w hw => wp_of_quiet (.inl (hrun w fun _ => ⟨σ, A, hw⟩)) ⟨_, _, hw, fun _ h => h, h'⟩
            | free => exact fun w hw => wp_of_quiet (.inl (hrun w fun _ => ⟨σ, A, hw⟩)) ⟨_, _, hw, fun _ h => h, h'⟩
          rcases bindE_ok (cf := cf) (fun o => OutJ cf Q σ A o) h with h | ⟨hd, h⟩ | ⟨t, hd, ht, h⟩
          · exact h
          · exact fin env (fun a β ha hb _ => ⟨hb, by rw [hd]; exact ha⟩) (exec_ok hT rest _ _ _ h)
          · exact fin _ (fun a β ha hb hx => ⟨hb.put hx t, by rw [hd]; exact ha.put ht x⟩) (exec_ok hT rest _ _ _ h)
        | new e cs x =>
          cases hcan : canNew it.tag with
          | false => rw [hcan] at h; exact h
          | true =>
            rw [hcan] at h
            simp only [cond_true] at h
            have fin : ∀ env', (∀ a β, StA cf env β a → Bd env hp nh → (SV.a x).lt (nh + 1) → Bd env' hp (nh + 1) ∧ StA cf env' β (a.put it.o.dst ((SV.a x).den β))) →
                OJ cf rest Q σ env' ((nh, .loc e, cs) :: hp) A (nh + 1) → OJ cf (it :: rest) Q σ env hp A nh := by
              intro env' hput h
              refine ⟨fun hb a β ha _ => ?_⟩
              obtain ⟨hcs, hx, hrun⟩ := step_ok (o := it.o) hT ha hb heff
              have hxl : (SV.a x).lt (nh + 1) := by
                rcases hx with rfl | ⟨n, rfl⟩ <;> exact Nat.lt_succ_self nh
              have goal : ∀ w, StW cf σ hp A β w → ∀ (K : Act → World → Prop) (Q' : Exit → Act → World → Prop),
                  (∀ w' β', (∀ i, i < nh → β' i = β i) → StW cf σ ((nh, .loc e, cs) :: hp) A β' w' → K (a.put it.o.dst ((SV.a x).den β')) w') → it.o.wq cf.P a w K Q' := by
                intro w hw K Q' hK
                unfold Oper.wq
                rw [hrun w]
                exact hK _ _ (upd_old β nh w) (hw.alloc hb hcs)
              have cont : ∀ β', (∀ i, i < nh → β' i = β i) → (∃ w, StW cf σ ((nh, .loc e, cs) :: hp) A β' w) → RunT cf.P Q rest (fun w => StW cf σ ((nh, .loc e, cs) :: hp) A β' w) (fun w => StW cf σ ((nh, .loc e, cs) :: hp) A β' w) (a.put it.o.dst ((SV.a x).den β')) := by
                intro β' hβ hex
                obtain ⟨hb', ha'⟩ := hput a β' (ha.congr hb hβ) hb hxl
                exact h.run (hb'.row (Nat.lt_succ_self nh) fun c hc => AT.lt_mono (Nat.le_succ nh) (hcs c hc)) _ β' ha' hex
              have keepS : ∀ β', (∀ i, i < nh → β' i = β i) → ∀ w', StW cf σ ((nh, .loc e, cs) :: hp) A β' w' → StW cf σ hp A β w' := by
                intro β' hβ w' hw'
                have hg2 : ∀ {i k l}, hp.get i = some (k, l) → HP.get ((nh, HK.loc e, cs) :: hp) i = some (k, l) := by
                  intro i k l hi
                  rw [HP.get_cons, if_neg (fun hc => by have := (hb.hp i k l hi).1; omega)]; exact hi
                have hlt : ∀ {i k l}, hp.get i = some (k, l) → i < nh := fun hi => (hb.hp _ _ _ hi).1
                refine ⟨hw'.os, hw'.tape, hw'.output, hw'.size, hw'.fr, hw'.sealed, hw'.le, hw'.grow, fun i e' l hi => ?_, fun i l hi j c hc => ?_, fun i j e1 e2 l1 l2 hi hj hij => ?_, hw'.arr, hw'.arrd, fun i j E e' l hE hj => ?_⟩
                · have := hw'.loc i e' l (hg2 hi)
                  rw [hβ i (hlt hi), AT.denL_congr hβ (hb.hp i _ l hi).2] at this
                  exact this
                · have := hw'.ro i l (hg2 hi) j c hc
                  rw [hβ i (hlt hi), AT.den_congr hβ ((hb.hp i _ l hi).2 c (List.mem_of_getElem? hc))] at this
                  exact this
                · refine hw'.inj i j _ _ _ _ (hg2 hi) (hg2 hj) ?_
                  rw [hβ i (hlt hi), hβ j (hlt hj)]; exact hij
                · have := hw'.arrh i j E e' l hE (hg2 hj)
                  rw [hβ j (hlt hj)] at this
                  exact this
              simp only [RunT]
              rw [if_pos (guardVal_ok ha hg)]
              cases htag : it.tag with
              | pure => rw [htag] at hcan; cases hcan
              | quiet => rw [htag] at hcan; cases hcan
              | keep => exact fun w hw => goal w hw _ _ fun w' β' hβ hw' => ⟨_, _, hw', fun _ h => h, fun x hx => keepS β' hβ x hx, cont β' hβ ⟨_, hw'⟩⟩
              | sink => exact fun w hw => goal w hw _ _ fun w' β' hβ hw' => ⟨_, _, hw', fun _ h => h, cont β' hβ ⟨_, hw'⟩⟩
              | free => exact fun w hw => goal w hw _ _ fun w' β' hβ hw' => ⟨_, _, hw', fun _ h => h, cont β' hβ ⟨_, hw'⟩⟩
            rcases bindE_ok (cf := cf) (fun o => OutJ cf Q σ A o) h with h | ⟨hd, h⟩ | ⟨t, hd, ht, h⟩
            · exact h
            · exact fin env (fun a β ha hb _ => ⟨hb.mono (Nat.le_succ nh), by rw [hd]; exact ha⟩) (exec_ok hT rest _ _ _ h)
            · exact fin _ (fun a β ha hb hx => ⟨(hb.mono (Nat.le_succ nh)).put hx t, by rw [hd]; exact ha.put ht _⟩) (exec_ok hT rest _ _ _ h)
        | put i e cs =>
          cases hcan : canPut it.tag with
          | false => rw [hcan] at h; exact h
          | true =>
            rw [hcan] at h
            simp only [cond_true] at h
            have fin : ∀ env', (∀ a β, StA cf env β a → Bd env hp nh → Bd env' hp nh ∧ StA cf env' β (a.put it.o.dst undef)) →
                OJ cf rest Q σ env' ((i, .loc e, cs) :: hp) A nh → OJ cf (it :: rest) Q σ env hp A nh := by
              intro env' hput h
              refine ⟨fun hb a β ha _ => ?_⟩
              obtain ⟨hcs, ⟨cs0, hi⟩, hrun⟩ := step_ok (o := it.o) hT ha hb heff
              obtain ⟨hb', ha'⟩ := hput a β ha hb
              have h' := fun hex => h.run (hb'.row (hb.hp i _ _ hi).1 hcs) _ β ha' hex
              have goal : ∀ w, StW cf σ hp A β w → ∀ (K : Act → World → Prop) (Q' : Exit → Act → World → Prop),
                  (∀ w', StW cf σ ((i, .loc e, cs) :: hp) A β w' → K (a.put it.o.dst undef) w') → it.o.wq cf.P a w K Q' := by
                intro w hw K Q' hK
                unfold Oper.wq
                rw [hrun σ A w hw]
                exact hK _ (hw.store hi)
              simp only [RunT]
              rw [if_pos (guardVal_ok ha hg)]
              cases htag : it.tag with
              | pure => rw [htag] at hcan; cases hcan
              | quiet => rw [htag] at hcan; cases hcan
              | keep => rw [htag] at hcan; cases hcan
              | sink => exact fun w hw => goal w hw _ _ fun w' hw' => ⟨_, _, hw', fun _ h => h, h' ⟨_, hw'⟩⟩
              | free => exact fun w hw => goal w hw _ _ fun w' hw' => ⟨_, _, hw', fun _ h => h, h' ⟨_, hw'⟩⟩
            rcases bindE_ok (cf := cf) (fun o => OutJ cf Q σ A o) h with h | ⟨hd, h⟩ | ⟨t, hd, ht, h⟩
            · exact h
            · exact fin env (fun a β ha hb => ⟨hb, by rw [hd]; exact ha⟩) (exec_ok hT rest _ _ _ h)
            · exact fin _ (fun a β ha hb => ⟨hb.put (undef_lt nh) t, by rw [hd]; exact ha.put ht undefSV⟩) (exec_ok hT rest _ _ _ h)

end Go.Sy
