/- The runs of a region, operation by operation, over a class of worlds; and that one order serves every order that a region may draw. No program in sight. -/
import Derived.Orders
import Derived.Tactics
import Derived.OrdersIn
import Derived.TacticsIn
namespace Go.Sy

/-! ### In a round, or not -/

def FR (rd : Option Nat) : Fence := { fn := fun _ => True, depth := none, alive := false, round := rd }
theorem fenced_FR (rd : Option Nat) (P : Program) (m : Machine) : m.fenced P (FR rd) := by
  intro g _
  refine ⟨fun h => ?_, Or.inl trivial, fun _ _ => trivial, fun _ h => ?_⟩
  · simp [FR] at h
  · simp [FR] at h
theorem room_FR (rd : Option Nat) (n : Nat) : (FR rd).room n := fun _ h => by simp [FR] at h
theorem stepsIn_FR {rd : Option Nat} {P : Program} {m m' : Machine} : StepsIn (Machine.fenced P (FR rd)) P m m' ↔ Steps P m m' :=
  ⟨StepsIn.steps, fun h => (StepsIn.of_steps h).mono fun m _ => fenced_FR rd P m⟩
theorem comesIn_FR {rd : Option Nat} {P : Program} {m m' : Machine} {e : Ending} : ComesIn (Machine.fenced P (FR rd)) P m m' e ↔ Comes P m m' e := by
  cases e with
  | returned v => exact stepsIn_FR
  | panicked chain => exact stepsIn_FR
  | outgrown => exact Iff.rfl
theorem callsIn_FR {rd : Option Nat} {n : Nat} {P : Program} {f : FuncId} {args : Array Value} {w : World} {R : Ending → World → Prop} : CallsIn (FR rd) n P f args w R ↔ Calls P f args w R :=
  ⟨fun h cs => let ⟨e, w', fr, r, s, x⟩ := h.2 cs (room_FR rd _); ⟨e, w', fr, r, comesIn_FR.1 s, x⟩,
   fun h => ⟨trivial, fun cs _ => let ⟨e, w', fr, r, s, x⟩ := h cs; ⟨e, w', fr, r, comesIn_FR.2 s, x⟩⟩⟩

/-- An operation, and what it comes to; a round of a loop over a function too. -/
def _root_.Go.Oper.wq (P : Program) (o : Oper) (a : Act) (w : World) (next : Act → World → Prop) (Q : Exit → Act → World → Prop) : Prop :=
  o.uponIn (FR none) 0 P a next Q ((execOp a.eval o).run P w)

theorem wq_mono {P : Program} {o : Oper} {a : Act} {w : World} {K K' : Act → World → Prop} {Q : Exit → Act → World → Prop} (h : ∀ a w, K a w → K' a w) (hh : o.wq P a w K Q) : o.wq P a w K' Q := by
  unfold Oper.wq at *
  generalize (execOp a.eval o).run P w = r at *
  cases r with
  | ok x w' =>
    cases x <;> simp only [Oper.uponIn] at hh ⊢ <;>
      first
        | exact h _ _ hh
        | exact ⟨hh.1, CallsIn.mono hh.2 (fun e w'' he => by cases e <;> first | exact h _ _ he | exact he)⟩
        | exact ⟨hh.1, RowsIn.mono hh.2 (fun _ _ he => h _ _ he)⟩
        | exact ⟨hh.1, RoundIn.mono hh.2 (fun e w'' he => by cases e <;> first | exact h _ _ he | exact he)⟩
  | halt x w' => cases x <;> simp only [Oper.uponIn] at hh ⊢ <;> exact hh

/-- How an operation is taken: in a region without a draw; whatever the world is; quietly; alone, keeping the class; alone, for good. -/
inductive Tag where
  | free | pure | quiet | keep | sink

/-- An operation, with its guard as a slot. -/
structure Item where
  tag : Tag
  guard : Option (Option Nat × Bool)
  o : Oper

/-- Q, but no panic. -/
def NoPanic (Q : Exit → Act → World → Prop) : Exit → Act → World → Prop
  | .panic _, _, _ => False
  | e, a, w => Q e a w

def wantedS (g : Option (Option Nat × Bool)) (a : Act) : Bool :=
  match g with
  | none => true
  | some (none, _) => false
  | some (some t, b) =>
    match a.tmps[t]? with
    | some (.bool x) => x == b
    | _ => false

def slotOf (ops : Array Oper) (o : Oper) : Option (Option Nat × Bool) :=
  match o.guard with
  | none => none
  | some (j, b) => some ((ops[j]?).bind (·.dst), b)

theorem wantedS_slotOf (ops : Array Oper) (o : Oper) (a : Act) : wantedS (slotOf ops o) a = Region.wanted o (yielded ops a.tmps) := by
  unfold wantedS slotOf Region.wanted
  cases hg : o.guard with
  | none => rfl
  | some p =>
    obtain ⟨j, b⟩ := p
    simp only [yielded]
    cases hd : (ops[j]?).bind (·.dst) with
    | none => simp
    | some t =>
      simp only [Option.bind_some]
      cases ht : a.tmps[t]? with
      | none => simp
      | some v => cases v <;> simp

def quietAt (P : Program) (o : Oper) (a : Act) (w : World) (v : Value) : Prop :=
  (execOp a.eval o).run P w = .ok (.value v) w ∨ ((execOp a.eval o).run P w = .ok .skip w ∧ v = undef)

/-- The run of a list of operations, over two classes of worlds: E, in which what is quiet is quiet; and S, in it, where we are. -/
def RunT (P : Program) (Q : Exit → Act → World → Prop) : List Item → (World → Prop) → (World → Prop) → Act → Prop
  | [], _, S, a => ∀ w, S w → Q .normal a w
  | it :: rest, E, S, a =>
    if wantedS it.guard a then
      match it.tag with
      | .pure => ∃ v, (∀ w, quietAt P it.o a w v) ∧ RunT P Q rest E S (a.put it.o.dst v)
      | .quiet => ∃ v, (∀ w, E w → quietAt P it.o a w v) ∧ RunT P Q rest E S (a.put it.o.dst v)
      | .keep => ∀ w, S w → it.o.wq P a w (fun a' w' => ∃ E' S' : World → Prop, S' w' ∧ (∀ x, S' x → E' x) ∧ (∀ x, E' x → E x) ∧ RunT P Q rest E' S' a') (NoPanic Q)
      | .sink => ∀ w, S w → it.o.wq P a w (fun a' w' => ∃ E' S' : World → Prop, S' w' ∧ (∀ x, S' x → E' x) ∧ RunT P Q rest E' S' a') (NoPanic Q)
      | .free => ∀ w, S w → it.o.wq P a w (fun a' w' => ∃ E' S' : World → Prop, S' w' ∧ (∀ x, S' x → E' x) ∧ RunT P Q rest E' S' a') Q
    else RunT P Q rest E S (a.put it.o.dst undef)

def frees (ops : Array Oper) : List Item := ops.toList.map fun o => ⟨.free, slotOf ops o, o⟩

/-! ### Code in a round, or not -/

/-- A piece of code, in the round whose record is rd, or in no round. -/
abbrev wpR (rd : Option Nat) (P : Program) (c : Code) (Q : Exit → Act → World → Prop) (a : Act) (w : World) : Prop := c.wpIn (FR rd) 0 P Q a w

theorem wpR_none {P : Program} {c : Code} {Q : Exit → Act → World → Prop} {a : Act} {w : World} (h : wpR none P c Q a w) : c.wp P Q a w := (wpIn_wide (n := 0)).1 h

def noDefer (o : Oper) : Bool :=
  match o.op with
  | .defer _ => false
  | _ => true
def okRd (rd : Option Nat) (ops : Array Oper) : Bool :=
  match rd with
  | none => true
  | some _ => ops.all noDefer

theorem round_FR {rd rd' : Option Nat} {n n' : Nat} {P : Program} {l : Nat} {f : FuncId} {tmps : Array Value} {assign body : Code} {w : World} {R : Ending → World → Prop} (h : RoundIn (FR rd) n P l f tmps assign body w R) : RoundIn (FR rd') n' P l f tmps assign body w R := by
  refine ⟨trivial, fun c cs _ => ?_⟩
  obtain ⟨e, w', r, s⟩ := h.2 c cs (room_FR rd _)
  exact ⟨e, w', r, comesIn_FR.2 (comesIn_FR.1 s)⟩

theorem oper_in {rd : Option Nat} {P : Program} {o : Oper} {a : Act} {w : World} {K : Act → World → Prop} {Q : Exit → Act → World → Prop} (hd : rd = none ∨ noDefer o = true) (h : o.wq P a w K Q) : o.wpIn (FR rd) 0 P a w K Q := by
  have hs : o.semAt (FR rd).round a.eval = execOp a.eval o := by
    show o.semAt rd a.eval = _
    rcases hd with rfl | hd
    · rfl
    · exact Oper.semAt_eq rd _ _ (fun c hc => by simp [noDefer, hc] at hd)
  refine ⟨fun _ _ => trivial, ?_⟩
  rw [hs]
  unfold Oper.wq at h
  generalize (execOp a.eval o).run P w = r at *
  cases r with
  | ok n w' =>
    cases n <;> simp only [Oper.uponIn] at h ⊢
    case enter f args => exact ⟨fun h => (by cases h), callsIn_FR.2 (callsIn_FR.1 h.2)⟩
    case row row args => exact ⟨fun h => (by cases h), fun c cs _ => let ⟨v, w', r, s⟩ := h.2 c cs (room_FR _ _); ⟨v, w', r, stepsIn_FR.2 (stepsIn_FR.1 s)⟩⟩
    case round l f tmps assign body => exact ⟨fun h => (by cases h), round_FR h.2⟩
    all_goals exact h
  | halt x w' => cases x <;> simp only [Oper.uponIn] at h ⊢ <;> exact h

theorem okRd_mem {rd : Option Nat} {ops : Array Oper} (h : okRd rd ops = true) : rd = none ∨ ∀ o ∈ ops, noDefer o = true := by
  cases rd with
  | none => exact .inl rfl
  | some l =>
    refine .inr fun o ho => ?_
    simp only [okRd] at h
    exact Array.all_eq_true'.1 h o ho

theorem wpListIn_of_run {rd : Option Nat} {P : Program} {Q : Exit → Act → World → Prop} {ops : Array Oper} : ∀ (l : List Oper) (E S : World → Prop) (a : Act) (w : World), (rd = none ∨ ∀ o ∈ l, noDefer o = true) →
    RunT P Q (l.map fun o => ⟨.free, slotOf ops o, o⟩) E S a → S w → wpListIn (FR rd) 0 P ops Q l a w
  | [], _, _, _, w, _, h, hS => h w hS
  | o :: l, E, S, a, w, hd, h, hS => by
    have hd1 : rd = none ∨ noDefer o = true := hd.imp (fun h => h) fun h => h o (List.mem_cons_self ..)
    have hd2 : rd = none ∨ ∀ o ∈ l, noDefer o = true := hd.imp (fun h => h) fun h o ho => h o (List.mem_cons_of_mem _ ho)
    simp only [List.map_cons, RunT, wantedS_slotOf] at h
    simp only [wpListIn]
    split
    · rename_i hw
      rw [if_pos hw] at h
      exact oper_in hd1 (wq_mono (fun a' w' ⟨E', S', hS', _, hr⟩ => wpListIn_of_run l E' S' a' w' hd2 hr hS') (h w hS))
    · rename_i hw
      rw [if_neg hw] at h
      exact ⟨fun _ _ => trivial, wpListIn_of_run l E S _ w hd2 h hS⟩

theorem wp_of_frees {rd : Option Nat} {P : Program} {Q : Exit → Act → World → Prop} {id : Nat} {ops : Array Oper} {a : Act} {w : World} {E S : World → Prop} (hd : okRd rd ops = true) (hS : S w)
    (h : RunT P Q (frees ops) E S a) : wpR rd P (.region id ops false) Q a w :=
  wpIn_region_list (wpListIn_of_run ops.toList E S a w ((okRd_mem hd).imp (fun h => h) fun h o ho => h o (by simpa using ho)) h hS)

/-! ### Regions that draw -/

section
variable {P : Program} {ops : Array Oper} {Q : Exit → Act → World → Prop}

/-- What is listed is closed under what it waits for. -/
def Closed (ops : Array Oper) (listed : Array Bool) : Prop :=
  listed.size = ops.size ∧ ∀ j oj, ops[j]? = some oj → listed.getD j false = true → ∀ e ∈ oj.after, Region.binds .any e = true → listed.getD e.on false = true

/-- Whenever it may come up, it alone may, but for what heeds no world. -/
def Sink (ops : Array Oper) (U : List Nat) (j : Nat) : Prop :=
  ∀ listed, Closed ops listed → j ∈ Region.ready .any ops listed → ∀ i ∈ Region.ready .any ops listed, i ∉ U → i = j

def stepC (P : Program) (ops : Array Oper) (U : List Nat) (Q : Exit → Act → World → Prop) (j : Nat) (K : Act → (World → Prop) → (World → Prop) → Prop) (a : Act) (E S : World → Prop) : Prop :=
  match ops[j]? with
  | none => K a E S
  | some o =>
    if Region.wanted o (yielded ops a.tmps) then
      ∀ w, S w → o.wq P a w (fun a' w' => ∃ E' S' : World → Prop, S' w' ∧ (∀ x, S' x → E' x) ∧ ((∀ x, E' x → E x) ∨ Sink ops U j) ∧ K a' E' S') (NoPanic Q)
    else K (a.put o.dst undef) E S

def wpAnyC (P : Program) (ops : Array Oper) (U : List Nat) (Q : Exit → Act → World → Prop) : Nat → Array Bool → Act → (World → Prop) → (World → Prop) → Prop
  | 0, listed, a, _, S => Region.ready .any ops listed = [] ∧ ∀ w, S w → Q .normal a w
  | fuel + 1, listed, a, E, S =>
    (Region.ready .any ops listed = [] → ∀ w, S w → Q .normal a w) ∧
    ∀ j ∈ Region.ready .any ops listed, stepC P ops U Q j (wpAnyC P ops U Q fuel (listed.setIfInBounds j true)) a E S

theorem wp_noPanic {o : Oper} {a : Act} {w : World} {K : Act → World → Prop} (h : o.wq P a w K (NoPanic Q)) : o.wq P a w K Q := by
  unfold Oper.wq at *
  generalize (execOp a.eval o).run P w = r at *
  cases r with
  | ok n w' =>
    cases n <;> simp only [Oper.uponIn] at h ⊢ <;>
      first
        | exact h
        | exact ⟨h.1, CallsIn.mono h.2 (fun e w'' he => by cases e <;> first | exact he | exact he.elim)⟩
        | exact ⟨h.1, RoundIn.mono h.2 (fun e w'' he => by cases e <;> first | exact he | exact he.elim)⟩
  | halt x w' => cases x <;> simp only [Oper.uponIn] at h ⊢ <;> exact h.elim

variable {U : List Nat}

theorem wpAnyIn_of_C {rd : Option Nat} (hd : rd = none ∨ ∀ o ∈ ops, noDefer o = true) : ∀ (fuel : Nat) (listed : Array Bool) (a : Act) (E S : World → Prop) (w : World), S w →
    wpAnyC P ops U Q fuel listed a E S → wpAnyIn (FR rd) 0 P .any ops Q fuel listed a w
  | 0, _, _, _, _, w, hS, h => ⟨h.1, h.2 w hS⟩
  | fuel + 1, listed, a, E, S, w, hS, h => by
    refine ⟨fun h0 => h.1 h0 w hS, fun j hj => ?_⟩
    have hj' := h.2 j hj
    unfold stepC at hj'
    unfold wpOpIn
    split
    · rename_i ho
      simp only [ho] at hj'
      exact wpAnyIn_of_C hd fuel _ a E S w hS hj'
    · rename_i o ho
      simp only [ho] at hj'
      split
      · rename_i hw
        rw [if_pos hw] at hj'
        exact oper_in (hd.imp (fun h => h) fun h => h o (Array.mem_of_getElem? ho)) (wq_mono (fun a' w' ⟨E', S', hS', _, _, hr⟩ => wpAnyIn_of_C hd fuel _ a' E' S' w' hS' hr) (wp_noPanic (hj' w hS)))
      · rename_i hw
        rw [if_neg hw] at hj'
        exact ⟨fun _ _ => trivial, wpAnyIn_of_C hd fuel _ _ E S w hS hj'⟩

def YieldsC (P : Program) (ops : Array Oper) (E : World → Prop) (o : Oper) (v : Value) (a : Act) : Prop :=
  (Region.wanted o (yielded ops a.tmps) = true ∧ ∀ w, E w → quietAt P o a w v) ∨
  (Region.wanted o (yielded ops a.tmps) = false ∧ v = undef)

theorem YieldsC.of_same {E E' : World → Prop} {o : Oper} {v : Value} {a a' : Act} (hy : YieldsC P ops E o v a) (hE : ∀ x, E' x → E x)
    (he : execOp a'.eval o = execOp a.eval o) (hw : Region.wanted o (yielded ops a'.tmps) = Region.wanted o (yielded ops a.tmps)) : YieldsC P ops E' o v a' := by
  unfold YieldsC quietAt at *
  rw [he, hw]
  exact hy.imp (fun ⟨h1, h2⟩ => ⟨h1, fun w hw => h2 w (hE w hw)⟩) id

theorem wp_of_quiet {o : Oper} {a : Act} {w : World} {v : Value} {K : Act → World → Prop} {Q' : Exit → Act → World → Prop} (hq : quietAt P o a w v)
    (h : K (a.put o.dst v) w) : o.wq P a w K Q' := by
  unfold Oper.wq
  rcases hq with hq | ⟨hq, rfl⟩
  · rw [hq]; exact h
  · rw [hq]; exact h

/-- What heeds no world yields in all of them. -/
def YieldsU (P : Program) (ops : Array Oper) (U : List Nat) (i : Nat) (E : World → Prop) (o : Oper) (v : Value) (a : Act) : Prop :=
  YieldsC P ops E o v a ∧ (i ∈ U → YieldsC P ops (fun _ => True) o v a)

theorem YieldsU.step {E S : World → Prop} {i : Nat} {o : Oper} {v : Value} {a : Act} (hi : ops[i]? = some o) (hES : ∀ x, S x → E x) (hy : YieldsU P ops U i E o v a)
    {K : Act → (World → Prop) → (World → Prop) → Prop} (h : K (a.put o.dst v) E S) : stepC P ops U Q i K a E S := by
  unfold stepC
  simp only [hi]
  rcases hy.1 with ⟨hw, hv⟩ | ⟨hw, rfl⟩
  · rw [if_pos hw]
    exact fun w hS => wp_of_quiet (hv w (hES w hS)) ⟨E, S, hS, hES, .inl fun _ h => h, h⟩
  · rw [if_neg (by simp [hw])]; exact h

theorem stepC_put {i j : Nat} {oi oj : Oper} {v : Value} {E S : World → Prop} (hj : ops[j]? = some oj) (hap : oi.apart ops oj = true)
    (hsi : ∀ cs b, oi.op ≠ .select cs b) (hsj : ∀ cs b, oj.op ≠ .select cs b) (hns : Sink ops U j → i ∈ U)
    {K : Act → (World → Prop) → (World → Prop) → Prop} {a : Act} (hES : ∀ x, S x → E x) (hy : YieldsU P ops U i E oi v a) (h : stepC P ops U Q j K (a.put oi.dst v) E S) :
    stepC P ops U Q j (fun a' E' S' => (∀ x, S' x → E' x) ∧ YieldsU P ops U i E' oi v a' ∧ K (a'.put oi.dst v) E' S') a E S := by
  obtain ⟨h1, h2, h3⟩ := Oper.apart_spec hap
  have keepC : ∀ (a : Act) (E E' : World → Prop), (∀ x, E' x → E x) → YieldsC P ops E oi v a → ∀ u, YieldsC P ops E' oi v (a.put oj.dst u) := fun a E E' hE hy u =>
    hy.of_same hE (execOp_put oi hsi a oj.dst u h3) (wanted_put oi a oj.dst u h3)
  have keep : ∀ (a : Act) (E' : World → Prop), ((∀ x, E' x → E x) ∨ Sink ops U j) → YieldsU P ops U i E oi v a → ∀ u, YieldsU P ops U i E' oi v (a.put oj.dst u) := by
    intro a E' hE hy u
    refine ⟨?_, fun hU => keepC a _ _ (fun _ h => h) (hy.2 hU) u⟩
    rcases hE with hE | hE
    · exact keepC a E E' hE hy.1 u
    · exact keepC a _ E' (fun _ _ => trivial) (hy.2 (hns hE)) u
  have keepD : ∀ d, YieldsU P ops U i E oi v { a with defers := d :: a.defers } := fun d => ⟨hy.1.of_same (fun _ h => h) rfl rfl, fun hU => (hy.2 hU).of_same (fun _ h => h) rfl rfl⟩
  unfold stepC at *
  simp only [hj] at *
  rw [wanted_put oj a oi.dst v h1] at h
  split
  · rename_i hw
    simp only [hw, if_true] at h
    intro w hS
    have h := h w hS
    unfold Oper.wq at *
    rw [execOp_put oj hsj a oi.dst v h1] at h
    generalize (execOp a.eval oj).run P w = r at *
    cases r with
    | ok n w' =>
      cases n <;> simp only [Oper.uponIn] at h ⊢
      case value u =>
        obtain ⟨E', S', hS', hsub, hE, hK⟩ := h
        exact ⟨E', S', hS', hsub, hE, hsub, keep a E' hE hy u, by rw [← Act.put_comm a v u h2]; exact hK⟩
      case skip =>
        obtain ⟨E', S', hS', hsub, hE, hK⟩ := h
        exact ⟨E', S', hS', hsub, hE, hsub, keep a E' hE hy _, by rw [← Act.put_comm a v undef h2]; exact hK⟩
      case defer d =>
        obtain ⟨E', S', hS', hsub, hE, hK⟩ := h
        refine ⟨E', S', hS', hsub, hE, hsub, keep _ E' hE (keepD d) _, ?_⟩
        rw [← Act.put_comm _ v undef h2, ← Act.put_defers]
        exact hK
      case enter f args =>
        refine ⟨h.1, CallsIn.mono h.2 fun e w'' he => ?_⟩
        cases e with
        | returned u =>
          obtain ⟨E', S', hS', hsub, hE, hK⟩ := he
          exact ⟨E', S', hS', hsub, hE, hsub, keep a E' hE hy u, by rw [← Act.put_comm a v u h2]; exact hK⟩
        | panicked c => exact he.elim
        | outgrown => exact he
      case round l f tmps assign body =>
        refine ⟨h.1, RoundIn.mono h.2 fun e w'' he => ?_⟩
        cases e with
        | returned u =>
          obtain ⟨E', S', hS', hsub, hE, hK⟩ := he
          exact ⟨E', S', hS', hsub, hE, hsub, keep a E' hE hy u, by rw [← Act.put_comm a v u h2]; exact hK⟩
        | panicked c => exact he.elim
        | outgrown => exact he
      case row row args =>
        refine ⟨h.1, RowsIn.mono h.2 fun u w'' he => ?_⟩
        obtain ⟨E', S', hS', hsub, hE, hK⟩ := he
        exact ⟨E', S', hS', hsub, hE, hsub, keep a E' hE hy u, by rw [← Act.put_comm a v u h2]; exact hK⟩
    | halt x w' =>
      cases x <;> simp only [Oper.uponIn] at h ⊢
      case panic u => exact h.elim
  · rename_i hw
    simp only [hw] at h
    exact ⟨hES, keep a E (.inl fun _ h => h) hy _, by rw [← Act.put_comm a v undef h2]; exact h⟩

theorem stepC_mono {j : Nat} {a : Act} {E S : World → Prop} {K K' : Act → (World → Prop) → (World → Prop) → Prop} (h : ∀ a E S, K a E S → K' a E S)
    (hh : stepC P ops U Q j K a E S) : stepC P ops U Q j K' a E S := by
  unfold stepC at *
  split
  · rename_i ho; simp only [ho] at hh; exact h _ _ _ hh
  · rename_i o ho
    simp only [ho] at hh
    split
    · rename_i hw
      rw [if_pos hw] at hh
      exact fun w hS => wq_mono (fun a' w' ⟨E', S', h1, h2, h3, h4⟩ => ⟨E', S', h1, h2, h3, h _ _ _ h4⟩) (hh w hS)
    · rename_i hw; rw [if_neg hw] at hh; exact h _ _ _ hh

theorem Closed.set {listed : Array Bool} {i : Nat} (hc : Closed ops listed) (hi : i ∈ Region.ready .any ops listed) : Closed ops (listed.setIfInBounds i true) := by
  obtain ⟨_, oi, hoi, hall⟩ := mem_ready.1 hi
  refine ⟨by simp [hc.1], fun j oj hj hl e he hb => ?_⟩
  by_cases hij : i = j
  · subst hij
    have : oj = oi := Option.some.inj (hj.symm.trans hoi)
    subst this
    exact getD_set_true (hall e he hb)
  · rw [getD_set_ne false hij] at hl
    exact getD_set_true (hc.2 j oj hj hl e he hb)

theorem wpAnyC_first {i : Nat} {oi : Oper} {v : Value} (hi : ops[i]? = some oi) (hsel : ∀ (j : Nat) (o : Oper) cs b, ops[j]? = some o → o.op ≠ .select cs b) :
    ∀ (fuel : Nat) (listed : Array Bool) (a : Act) (E S : World → Prop), Closed ops listed → (∀ x, S x → E x) →
      (∀ j oj, ops[j]? = some oj → j ≠ i → listed.getD j true = false → (∀ e ∈ oj.after, Region.binds .any e = true → e.on ≠ i) → oi.apart ops oj = true) →
      i ∈ Region.ready .any ops listed → YieldsU P ops U i E oi v a →
      wpAnyC P ops U Q fuel (listed.setIfInBounds i true) (a.put oi.dst v) E S → wpAnyC P ops U Q (fuel + 1) listed a E S := by
  intro fuel
  induction fuel with
  | zero =>
    intro listed a E S hc hES _ hr hy H
    refine ⟨fun h => (by rw [h] at hr; cases hr), fun j hj => ?_⟩
    by_cases hji : j = i
    · subst hji; exact hy.step hi hES H
    · have := ready_mono hj hji
      rw [H.1] at this
      cases this
  | succ fuel ih =>
    intro listed a E S hc hES hfree hr hy H
    refine ⟨fun h => (by rw [h] at hr; cases hr), fun j hj => ?_⟩
    by_cases hji : j = i
    · subst hji; exact hy.step hi hES H
    · have h1 := H.2 j (ready_mono hj hji)
      obtain ⟨hjun, oj, hoj, hall⟩ := mem_ready.1 hj
      have hnot : ∀ e ∈ oj.after, Region.binds .any e = true → e.on ≠ i := fun e he hb heq => by
        have h1 := hall e he hb
        have h0 := (mem_ready.1 hr).1
        rw [heq] at h1
        rcases Nat.lt_or_ge i listed.size with h' | h'
        · simp [h'] at h0 h1; rw [h0] at h1; cases h1
        · simp [Array.getElem?_eq_none h'] at h1
      have hns : Sink ops U j → i ∈ U := fun hs => Classical.byContradiction fun hu => hji (hs listed hc hj i hr hu).symm
      have h2 := stepC_put hoj (hfree j oj hoj hji hjun hnot) (fun cs b => hsel i oi cs b hi) (fun cs b => hsel j oj cs b hoj) hns hES hy h1
      have hfree' : ∀ k ok, ops[k]? = some ok → k ≠ i → (listed.setIfInBounds j true).getD k true = false →
          (∀ e ∈ ok.after, Region.binds .any e = true → e.on ≠ i) → oi.apart ops ok = true := fun k ok hk hki hun hno => by
        refine hfree k ok hk hki ?_ hno
        by_cases hjk : j = k
        · subst hjk; exact hjun
        · rw [getD_set_ne true hjk] at hun; exact hun
      refine stepC_mono (fun a' E' S' h3 => ih (listed.setIfInBounds j true) a' E' S' (hc.set hj) h3.1 hfree' (ready_mono hr (Ne.symm hji)) h3.2.1 ?_) h2
      rw [Array.setIfInBounds_comm _ _ hji]
      exact h3.2.2

/-- 'k' waits for 'i', as told by the text. -/
def waits (ops : Array Oper) (k i : Nat) : Bool :=
  match ops[k]? with
  | some ok => ok.after.any fun e => Region.binds .any e && e.on == i
  | none => false

theorem waits_spec {k i : Nat} (h : waits ops k i = true) : ∃ ok, ops[k]? = some ok ∧ ∃ e ∈ ok.after, Region.binds .any e = true ∧ e.on = i := by
  unfold waits at h
  split at h
  · rename_i ok hk
    obtain ⟨e, he, hb⟩ := Array.any_eq_true'.1 h
    simp only [Bool.and_eq_true, beq_iff_eq] at hb
    exact ⟨ok, hk, e, he, hb.1, hb.2⟩
  · cases h

/-- Each of the list is waited for by a later one of it, or by j. -/
def allBefore (ops : Array Oper) (j : Nat) : List Nat → Bool
  | [] => true
  | i :: rest => (waits ops j i || rest.any fun k => waits ops k i) && allBefore ops j rest

/-- Each of the list waits for j, or for one of 'met'. -/
def allAfter (ops : Array Oper) (j : Nat) : List Nat → List Nat → Bool
  | _, [] => true
  | met, k :: rest => (waits ops k j || met.any fun m => waits ops k m) && allAfter ops j (k :: met) rest

theorem listed_of_waits {k i : Nat} {listed : Array Bool} (hc : Closed ops listed) (h : waits ops k i = true) (hk : listed.getD k false = true) : listed.getD i false = true := by
  obtain ⟨ok, hok, e, he, hb, rfl⟩ := waits_spec h
  exact hc.2 k ok hok hk e he hb

theorem listed_of_waits_ready {k i : Nat} {listed : Array Bool} (h : waits ops k i = true) (hk : k ∈ Region.ready .any ops listed) : listed.getD i false = true := by
  obtain ⟨ok, hok, e, he, hb, rfl⟩ := waits_spec h
  obtain ⟨_, o, ho, hall⟩ := mem_ready.1 hk
  have : o = ok := Option.some.inj (ho.symm.trans hok)
  subst this
  exact hall e he hb

theorem allBefore_listed {j : Nat} {listed : Array Bool} (hc : Closed ops listed) (hj : j ∈ Region.ready .any ops listed) : ∀ (l : List Nat),
    allBefore ops j l = true → ∀ i ∈ l, listed.getD i false = true
  | [], _, _, hi => by cases hi
  | x :: l, h, i, hi => by
    simp only [allBefore, Bool.and_eq_true, Bool.or_eq_true] at h
    have ih := allBefore_listed hc hj l h.2
    cases hi with
    | tail _ hi => exact ih i hi
    | head =>
      rcases h.1 with h1 | h1
      · exact listed_of_waits_ready h1 hj
      · obtain ⟨k, hk, hw⟩ := List.any_eq_true.1 h1
        exact listed_of_waits hc hw (ih k hk)

theorem allAfter_not {j : Nat} {listed : Array Bool} (hc : Closed ops listed) (hj : listed.getD j false = false) : ∀ (l met : List Nat),
    (∀ m ∈ met, listed.getD m false = false) → allAfter ops j met l = true → ∀ k ∈ l, k ∉ Region.ready .any ops listed
  | [], _, _, _, _, hk => by cases hk
  | x :: l, met, hmet, h, k, hk => by
    simp only [allAfter, Bool.and_eq_true, Bool.or_eq_true] at h
    have hx : listed.getD x false = false := by
      cases hx : listed.getD x false with
      | false => rfl
      | true =>
        rcases h.1 with h1 | h1
        · rw [listed_of_waits hc h1 hx] at hj; cases hj
        · obtain ⟨m, hm, hw⟩ := List.any_eq_true.1 h1
          have := listed_of_waits hc hw hx
          rw [hmet m hm] at this; cases this
    cases hk with
    | head =>
      intro hr
      rcases h.1 with h1 | h1
      · rw [listed_of_waits_ready h1 hr] at hj; cases hj
      · obtain ⟨m, hm, hw⟩ := List.any_eq_true.1 h1
        have := listed_of_waits_ready hw hr
        rw [hmet m hm] at this; cases this
    | tail _ hk =>
      exact allAfter_not hc hj l (x :: met) (fun m hm => by cases hm with | head => exact hx | tail _ hm => exact hmet m hm) h.2 k hk

theorem getD_tf {listed : Array Bool} {i : Nat} (h : listed.getD i true = false) : listed.getD i false = false := by
  rcases Nat.lt_or_ge i listed.size with h' | h'
  · simp [h'] at h ⊢; exact h
  · simp [Array.getElem?_eq_none h'] at h

theorem getD_tt {listed : Array Bool} {i : Nat} (h : listed.getD i false = true) : listed.getD i true = true := by
  rcases Nat.lt_or_ge i listed.size with h' | h'
  · simp [h'] at h ⊢; exact h
  · simp [Array.getElem?_eq_none h'] at h

theorem sink_of {j : Nat} {bef aft : List Nat} (h1 : allBefore ops j bef = true) (h2 : allAfter ops j [] aft = true)
    (hall : ∀ i, i < ops.size → i ∈ bef ∨ i = j ∨ i ∈ aft ∨ i ∈ U) : Sink ops U j := by
  intro listed hc hj i hi hu
  have hlt : i < ops.size := by
    obtain ⟨_, o, ho, _⟩ := mem_ready.1 hi
    exact (Array.getElem?_eq_some_iff.1 ho).1
  rcases hall i hlt with h | h | h | h
  · have h3 := allBefore_listed hc hj bef h1 i h
    have h4 := (mem_ready.1 hi).1
    rw [getD_tt h3] at h4; cases h4
  · exact h
  · exact absurd hi (allAfter_not hc (getD_tf (mem_ready.1 hj).1) aft [] (fun m hm => by cases hm) h2 i h)
  · exact absurd h hu

def isPure : Tag → Bool
  | .pure => true
  | _ => false

/-- The operations that heed the world. -/
def heeds (l : List (Nat × Tag)) : List Nat := (l.filter fun p => !isPure p.2).map (·.1)
def heedless (l : List (Nat × Tag)) : List Nat := (l.filter fun p => isPure p.2).map (·.1)

/-- Those of the list for which j waits, at last. -/
def anc (ops : Array Oper) (j : Nat) : List Nat → List Nat
  | [] => []
  | k :: rest => if waits ops j k || (anc ops j rest).any fun m => waits ops m k then k :: anc ops j rest else anc ops j rest

/-- Those of the list that wait for j, at last. -/
def desc (ops : Array Oper) (j : Nat) (met : List Nat) : List Nat → List Nat
  | [] => []
  | k :: rest => if waits ops k j || met.any fun m => waits ops k m then k :: desc ops j (k :: met) rest else desc ops j met rest

/-- Whatever heeds the world waits for j, or j for it. -/
def sinkB (ops : Array Oper) (U : List Nat) (j : Nat) (bef aft : List Nat) : Bool :=
  allBefore ops j (anc ops j bef) && allAfter ops j [] (desc ops j [] aft) &&
  ((List.range ops.size).all fun k => (anc ops j bef).contains k || k == j || (desc ops j [] aft).contains k || U.contains k)

/-- May the operations be taken in this order, each as it is marked? -/
def orderFrom (ops : Array Oper) (U : List Nat) (bef : List Nat) : List (Nat × Tag) → Array Bool → Bool
  | [], listed => (Region.ready .any ops listed).isEmpty
  | (i, .pure) :: rest, listed => U.contains i && (Region.ready .any ops listed).contains i && Region.free .any ops listed i && orderFrom ops U (bef ++ [i]) rest (listed.setIfInBounds i true)
  | (i, .quiet) :: rest, listed => !U.contains i && (Region.ready .any ops listed).contains i && Region.free .any ops listed i && orderFrom ops U (bef ++ [i]) rest (listed.setIfInBounds i true)
  | (i, .keep) :: rest, listed => (Region.ready .any ops listed == [i]) && orderFrom ops U (bef ++ [i]) rest (listed.setIfInBounds i true)
  | (i, .sink) :: rest, listed => (Region.ready .any ops listed == [i]) && sinkB ops U i bef (rest.map (·.1)) && orderFrom ops U (bef ++ [i]) rest (listed.setIfInBounds i true)
  | (_, .free) :: _, _ => false

def orderOk (ops : Array Oper) (l : List (Nat × Tag)) : Bool :=
  Region.noSelect ops && (l.length == ops.size) && (l.all fun p => decide (p.1 < ops.size)) && orderFrom ops (heedless l) [] l (Array.replicate ops.size false)

def itemsOf (ops : Array Oper) (l : List (Nat × Tag)) : List Item :=
  l.filterMap fun (i, t) => (ops[i]?).map fun o => ⟨t, slotOf ops o, o⟩

theorem run_order (hs : Region.noSelect ops = true) : ∀ (l : List (Nat × Tag)) (bef : List Nat) (listed : Array Bool) (a : Act) (E S : World → Prop), Closed ops listed → (∀ x, S x → E x) →
    (∀ p ∈ l, p.1 < ops.size) → orderFrom ops U bef l listed = true → RunT P Q (itemsOf ops l) E S a → wpAnyC P ops U Q l.length listed a E S
  | [], _, _, _, _, _, _, _, _, hB, h => ⟨by simpa [orderFrom] using hB, h⟩
  | (i, t) :: l, bef, listed, a, E, S, hc, hES, hlt, hB, h => by
    have hi : i < ops.size := hlt (i, t) (List.mem_cons_self ..)
    have h0 : ops[i]? = some ops[i] := Array.getElem?_eq_getElem hi
    have hlt' : ∀ p ∈ l, p.1 < ops.size := fun p hp => hlt p (List.mem_cons_of_mem _ hp)
    simp only [itemsOf, List.filterMap_cons, h0, Option.map_some] at h
    simp only [RunT, wantedS_slotOf] at h
    cases t with
    | free => simp [orderFrom] at hB
    | pure =>
      simp only [orderFrom, Bool.and_eq_true] at hB
      obtain ⟨⟨⟨hU, hr⟩, hf⟩, hB'⟩ := hB
      have hr' : i ∈ Region.ready .any ops listed := by simpa using hr
      by_cases hw : Region.wanted ops[i] (yielded ops a.tmps) = true
      · rw [if_pos hw] at h
        obtain ⟨v, hv, hrest⟩ := h
        exact wpAnyC_first h0 (Region.noSelect_spec hs) l.length listed a E S hc hES (Region.free_spec h0 hf) hr' ⟨.inl ⟨hw, fun w _ => hv w⟩, fun _ => .inl ⟨hw, fun w _ => hv w⟩⟩
          (run_order hs l (bef ++ [i]) _ _ E S (hc.set hr') hES hlt' hB' hrest)
      · rw [if_neg hw] at h
        have hw' : Region.wanted ops[i] (yielded ops a.tmps) = false := by simpa using hw
        exact wpAnyC_first h0 (Region.noSelect_spec hs) l.length listed a E S hc hES (Region.free_spec h0 hf) hr' ⟨.inr ⟨hw', rfl⟩, fun _ => .inr ⟨hw', rfl⟩⟩
          (run_order hs l (bef ++ [i]) _ _ E S (hc.set hr') hES hlt' hB' h)
    | quiet =>
      simp only [orderFrom, Bool.and_eq_true, Bool.not_eq_true'] at hB
      obtain ⟨⟨⟨hU, hr⟩, hf⟩, hB'⟩ := hB
      have hr' : i ∈ Region.ready .any ops listed := by simpa using hr
      have hU' : i ∉ U := by simpa using hU
      by_cases hw : Region.wanted ops[i] (yielded ops a.tmps) = true
      · rw [if_pos hw] at h
        obtain ⟨v, hv, hrest⟩ := h
        exact wpAnyC_first h0 (Region.noSelect_spec hs) l.length listed a E S hc hES (Region.free_spec h0 hf) hr' ⟨.inl ⟨hw, hv⟩, fun hu => absurd hu hU'⟩
          (run_order hs l (bef ++ [i]) _ _ E S (hc.set hr') hES hlt' hB' hrest)
      · rw [if_neg hw] at h
        exact wpAnyC_first h0 (Region.noSelect_spec hs) l.length listed a E S hc hES (Region.free_spec h0 hf) hr' ⟨.inr ⟨by simpa using hw, rfl⟩, fun hu => absurd hu hU'⟩
          (run_order hs l (bef ++ [i]) _ _ E S (hc.set hr') hES hlt' hB' h)
    | keep =>
      simp only [orderFrom, Bool.and_eq_true, beq_iff_eq] at hB
      obtain ⟨hr, hB'⟩ := hB
      have hr' : i ∈ Region.ready .any ops listed := by rw [hr]; exact List.mem_cons_self ..
      refine ⟨fun h0 => (by rw [h0] at hr; cases hr), fun j hj => ?_⟩
      rw [hr] at hj
      have hji : j = i := by simpa using hj
      subst hji
      unfold stepC
      simp only [h0]
      split
      · rename_i hw
        rw [if_pos hw] at h
        exact fun w hS => wq_mono (fun a' w' ⟨E', S', h1, h2, h3, h4⟩ => ⟨E', S', h1, h2, .inl h3, run_order hs l _ _ a' E' S' (hc.set hr') h2 hlt' hB' h4⟩) (h w hS)
      · rename_i hw
        rw [if_neg hw] at h
        exact run_order hs l _ _ _ E S (hc.set hr') hES hlt' hB' h
    | sink =>
      simp only [orderFrom, Bool.and_eq_true, beq_iff_eq] at hB
      obtain ⟨⟨hr, hb⟩, hB'⟩ := hB
      simp only [sinkB, Bool.and_eq_true] at hb
      obtain ⟨⟨hb1, hb2⟩, hall⟩ := hb
      have hr' : i ∈ Region.ready .any ops listed := by rw [hr]; exact List.mem_cons_self ..
      have hsink : Sink ops U i := sink_of hb1 hb2 fun k hk => by
        have := List.all_eq_true.1 hall k (List.mem_range.2 hk)
        rw [Bool.or_eq_true, Bool.or_eq_true, Bool.or_eq_true, beq_iff_eq, List.contains_iff_mem, List.contains_iff_mem, List.contains_iff_mem] at this
        rcases this with ((h | h) | h) | h
        · exact .inl h
        · exact .inr (.inl h)
        · exact .inr (.inr (.inl h))
        · exact .inr (.inr (.inr h))
      refine ⟨fun h0 => (by rw [h0] at hr; cases hr), fun j hj => ?_⟩
      rw [hr] at hj
      have hji : j = i := by simpa using hj
      subst hji
      unfold stepC
      simp only [h0]
      split
      · rename_i hw
        rw [if_pos hw] at h
        exact fun w hS => wq_mono (fun a' w' ⟨E', S', h1, h2, h4⟩ => ⟨E', S', h1, h2, .inr hsink, run_order hs l _ _ a' E' S' (hc.set hr') h2 hlt' hB' h4⟩) (h w hS)
      · rename_i hw
        rw [if_neg hw] at h
        exact run_order hs l _ _ _ E S (hc.set hr') hES hlt' hB' h

/-- ONE ORDER SERVES EVERY ORDER. -/
theorem wp_of_order {rd : Option Nat} {id : Nat} {a : Act} {w : World} {E S : World → Prop} (l : List (Nat × Tag)) (hm : P.follows .mixedOrders = true) (hB : orderOk ops l = true) (hd : okRd rd ops = true) (hES : ∀ x, S x → E x)
    (hS : S { w with drawn := w.drawn + 1 }) (h : RunT P Q (itemsOf ops l) E S a) : wpR rd P (.region id ops true) Q a w := by
  simp only [orderOk, Bool.and_eq_true, beq_iff_eq] at hB
  obtain ⟨⟨⟨hs, hl⟩, hlt⟩, hB⟩ := hB
  refine wpIn_region_any hm ?_
  have hc : Closed ops (Array.replicate ops.size false) := ⟨by simp, fun j oj _ hl => by
    exfalso
    rcases Nat.lt_or_ge j ops.size with h | h
    · simp [h] at hl
    · simp [h] at hl⟩
  have := run_order (P := P) (Q := Q) hs l [] _ a E S hc hES (fun p hp => by simpa using List.all_eq_true.1 hlt p hp) hB h
  rw [← hl]
  exact wpAnyIn_of_C (okRd_mem hd) _ _ _ E S _ hS (by rw [← hl] at this; exact this)

end
end Go.Sy
