/- More single operations: bits, conversions, bytes of a string, comparisons. No program in sight. -/
import Derived.Test.YtadnijcgohflhaaDoorSyK
namespace Go.Sy

def bAnd (k : IntKind) (x y : Int) : Int := k.wrap ((BitVec.ofInt k.bits x &&& BitVec.ofInt k.bits y).toNat : Nat)
def bOr (k : IntKind) (x y : Int) : Int := k.wrap ((BitVec.ofInt k.bits x ||| BitVec.ofInt k.bits y).toNat : Nat)
def bAndNot (k : IntKind) (x y : Int) : Int := k.wrap ((BitVec.ofInt k.bits x &&& ~~~BitVec.ofInt k.bits y).toNat : Nat)
def bShl (k : IntKind) (x y : Int) : Int := k.wrap (x * 2 ^ (min y.toNat k.bits))
def bShr (k : IntKind) (x y : Int) : Int := x.fdiv (2 ^ (min y.toNat k.bits))

/-- The bytes of a string, one a cell. -/
def byteRows (s : ByteArray) : List (List AT) := s.data.toList.map fun u => [.v (.int .u8 u.toNat)]

section
variable {cf : Cf} {Q : Exit → Act → World → Prop} {σ : Snap} {env : Env} {hp : HP} {A : List AE} {nh : Nat} {it : Item} {rest : List Item}

/-- An operation that yields a value, and new sealed memory. -/
theorem oj_fresh {d : Nat} {Φ : Value → Snap → Prop} (hd : it.o.dst = some d) (hg : guardVal it.guard env = some true) (hN : Nat.blt d cf.N = true) (hq : notQuiet it.tag = true)
    (hC : ∀ a β, StA cf env β a → ∀ w, Sealed σ w → ∃ v w' σ', (execOp a.eval it.o).run cf.P w = .ok (.value v) w' ∧ Fr (fun _ => False) w w' ∧ SGrow (fun _ => False) σ w σ' ∧ Sealed σ' w' ∧ Φ v σ')
    (k : ∀ v σ', σ.le σ' → Φ v σ' → ∃ y : SV, y.lt 0 ∧ y.den β0 = v ∧ OJ cf rest Q σ' ((d, y) :: env) hp A nh) : OJ cf (it :: rest) Q σ env hp A nh := by
  refine ⟨fun hb a β ha hex => ?_⟩
  have hN' : d < cf.N := by simpa [Nat.blt_eq] using hN
  have den0 : ∀ {y : SV}, y.lt 0 → y.den β = y.den β0 := fun hy => SV.den_congr (n := 0) (fun i hi => by omega) hy
  have hrun : ∀ w, StW cf σ hp A β w → ∀ (K : Act → World → Prop) (Q' : Exit → Act → World → Prop),
      (∀ v w' σ', σ.le σ' → Φ v σ' → StW cf σ' hp A β w' → (∀ x, StW cf σ' hp A β x → StW cf σ hp A β x) → K (a.put it.o.dst v) w') → it.o.wq cf.P a w K Q' := by
    intro w hw K Q' hK
    obtain ⟨v, w', σ', he, h1, h2, h3, h4⟩ := hC a β ha w hw.sealed
    unfold Oper.wq
    rw [he]
    simp only [Oper.uponIn]
    refine hK v w' σ' h2.le h4 (hw.after h1 h2 h3) fun x hx => ?_
    have hσ : ∀ {b}, σ' b = none → σ b = none := fun hb => Snap.none_of_le h2.le hb
    refine ⟨hx.os, hx.tape, hx.output, hx.size, hx.fr, fun b o hb => hx.sealed b o (h2.le b o hb), hw.le, hw.grow, fun i e cs hi => ?_, hw.ro, hx.inj, fun i E hE => ?_, hx.arrd, hx.arrh⟩
    · obtain ⟨q1, q2, q3, q4⟩ := hx.loc i e cs hi
      exact ⟨q1, q2, hσ q3, q4⟩
    · obtain ⟨q1, q2⟩ := hx.arr i E hE
      refine ⟨q1, q2.imp id ?_⟩
      rintro ⟨g, cur, h3, h4, h5, h6, h7, h8, h9, h10⟩
      exact ⟨g, cur, h3, h4, h5, h6, h7, h8, hσ h9, h10⟩
  have cont : ∀ v σ', σ.le σ' → Φ v σ' → (∃ w, StW cf σ' hp A β w) → RunT cf.P Q rest (fun w => StW cf σ' hp A β w) (fun w => StW cf σ' hp A β w) (a.put it.o.dst v) := by
    intro v σ' hle hΦ hex'
    obtain ⟨y, hy, hyv, hk⟩ := k v σ' hle hΦ
    have := hk.run (hb.put (SV.lt_mono (Nat.zero_le _) hy) d) (a.put (some d) (y.den β)) β (ha.put hN' y) hex'
    rw [hd, ← hyv, ← den0 hy]
    exact this
  simp only [RunT]
  rw [if_pos (guardVal_ok ha hg)]
  cases htag : it.tag with
  | pure => rw [htag] at hq; cases hq
  | quiet => rw [htag] at hq; cases hq
  | keep => exact fun w hw => hrun w hw _ _ fun v w' σ' hle hΦ hw' hsub => ⟨_, _, hw', fun _ h => h, hsub, cont v σ' hle hΦ ⟨_, hw'⟩⟩
  | sink => exact fun w hw => hrun w hw _ _ fun v w' σ' hle hΦ hw' _ => ⟨_, _, hw', fun _ h => h, cont v σ' hle hΦ ⟨_, hw'⟩⟩
  | free => exact fun w hw => hrun w hw _ _ fun v w' σ' hle hΦ hw' _ => ⟨_, _, hw', fun _ h => h, cont v σ' hle hΦ ⟨_, hw'⟩⟩

theorem run_mark {P : Program} {w : World} {b : Nat} {e : TypeId} {n : Nat} (h : w.shape? b = some (e, n)) : (markStringish ⟨b, 0, none⟩).run P w = .ok () (w.freeze ⟨b, n, none⟩ 1) := by
  simp only [markStringish, Sem.run_bind, run_shape, Result.andThen_ok, h, run_freeze]

theorem run_toBytes {P : Program} {w : World} {e : TypeId} {y : ByteArray} {cap : Nat} (hc : grownCap w y.size 0 e = cap) {row : Array Value} (hr : row = y.data.map (fun b => Value.int .u8 b.toNat) ++ Array.replicate (cap - y.size) (.int .u8 0)) (hs : row.size = cap) :
    (Conv.stringToBytes e y).run P w = .ok (.slice (some ⟨w.heap.size, 0, none⟩) y.size cap) ((w.drew.alloc (.cells row e)).freeze ⟨w.heap.size, cap, none⟩ 1) := by
  have hc' : (choose (.appendCap y.size 0 e)).run P w = .ok cap w.drew := by
    simp only [run_choose, Question.forced, Bool.false_eq_true, if_false]
    rw [← hc]; rfl
  have hsh : (w.drew.alloc (.cells row e)).shape? w.heap.size = some (e, cap) := by
    show (match (w.heap.push _)[w.heap.size]? with | some (.cells c elem _) => some (elem, c.size) | _ => none) = _
    rw [Array.getElem?_push, if_pos rfl]
    simp only [hs]
  have hn : (newRow e (y.data.map (fun b => Value.int .u8 b.toNat) ++ Array.replicate (cap - y.size) (.int .u8 0))).run P w.drew = .ok ⟨w.heap.size, 0, none⟩ (w.drew.alloc (.cells row e)) := by
    rw [← hr]
    simp only [newRow, Sem.run_bind, run_newObj, Result.andThen_ok, Sem.run_pure]
    rfl
  simp only [Conv.stringToBytes, Sem.run_bind, hc', Result.andThen_ok, hn, run_mark hsh, Sem.run_pure]

/-- []byte(s): new bytes, sealed at once. -/
theorem oj_bytes {d : Nat} {x : Operand} {s t e : TypeId} {T : List (Nat × TI)} (hT : TTok cf.P T) {ts ti te : TI} {y : ByteArray} (hop : it.o.op = .convert s t x) (hd : it.o.dst = some d) (hg : guardVal it.guard env = some true)
    (hN : Nat.blt d cf.N = true) (hq : notQuiet it.tag = true) (hx : evalO env x = some (.a (.v (.string y)))) (hs : tget T s = some ts) (ht : tget T t = some ti) (hkd : ti.kind = .slice e) (hte : tget T e = some te) (hke : te.kind = .int .u8)
    (k : ∀ ao cap σ', σ.le σ' → SlAt σ' ao y.size cap 1 (byteRows y) → OJ cf rest Q σ' ((d, .a (.v (.slice ao y.size cap))) :: env) hp A nh) : OJ cf (it :: rest) Q σ env hp A nh := by
  obtain ⟨i1, d1, z1, hs1⟩ := tiOf_spec (hT _ _ hs)
  obtain ⟨i2, d2, z2, hs2⟩ := tiOf_spec (hT _ _ ht)
  obtain ⟨i3, d3, z3, hs3⟩ := tiOf_spec (hT _ _ hte)
  have hut : cf.P.underlying t = some (.slice e) := by
    have h1 := hs2.kind
    rw [hkd] at h1
    have h2 := hs2.und
    cases d2 <;> first
      | (simp only [kindD, TK.slice.injEq] at h1; subst h1; exact h2)
      | (simp only [kindD] at h1; cases h1)
  have hue : cf.P.underlying e = some (.int .u8) := by
    have h1 := hs3.kind
    rw [hke] at h1
    have h2 := hs3.und
    cases d3 <;> first
      | (simp only [kindD, TK.int.injEq] at h1; subst h1; exact h2)
      | (simp only [kindD] at h1; cases h1)
  refine oj_fresh (Φ := fun v σ' => ∃ ao cap, v = .slice ao y.size cap ∧ SlAt σ' ao y.size cap 1 (byteRows y)) hd hg hN hq (fun a β ha w hsl => ?_) (fun v σ' hle ⟨ao, cap, hv, hS⟩ => ⟨.a (.v (.slice ao y.size cap)), trivial, hv.symm, k ao cap σ' hle hS⟩)
  have hx' : a.eval x = .string y := evalO_eval ha hx
  have hge := grownCap_ge w y.size 0 e
  generalize hcap : grownCap w y.size 0 e = cap at hge
  let elems : Array Value := y.data.map fun b => .int .u8 b.toNat
  let row : Array Value := elems ++ Array.replicate (cap - y.size) (.int .u8 0)
  have hrow : row.size = cap := by
    have : y.data.size = y.size := rfl
    simp [row, elems]; omega
  let ob : Obj := .cells row e (cap, cap + 1)
  let w1 := w.drew.alloc (.cells row e)
  let w' := w1.freeze ⟨w.heap.size, cap, none⟩ 1
  let σ' : Snap := fun b => if b = w.heap.size then some ob else σ b
  have hw1 : ∀ b, b ≠ w.heap.size → w'.heap[b]? = w.heap[b]? := by
    intro b hb
    show (if 1 = 0 then w1 else { w1 with heap := _ } : World).heap[b]? = _
    rw [if_neg (by omega)]
    simp only [Array.getElem?_modify]
    rw [if_neg (fun h => hb h.symm)]
    show (w.heap.push _)[b]? = _
    rw [Array.getElem?_push, if_neg hb]
  have hnew : w'.heap[w.heap.size]? = some ob := by
    show (if 1 = 0 then w1 else { w1 with heap := _ } : World).heap[w.heap.size]? = _
    rw [if_neg (by omega)]
    simp only [Array.getElem?_modify, if_true]
    have : w1.heap[w.heap.size]? = some (.cells row e (0, 0)) := by
      show (w.heap.push _)[w.heap.size]? = _
      rw [Array.getElem?_push, if_pos rfl]
    rw [this]
    rfl
  have hrun : (execOp a.eval it.o).run cf.P w = .ok (.value (.slice (some ⟨w.heap.size, 0, none⟩) y.size cap)) w' := by
    simp only [execOp, hop, hx', convert, Sem.run_bind, run_underlying hs1.und, run_underlying hut, Result.andThen_ok]
    cases d1 <;> simp only [run_underlying hue, Result.andThen_ok, run_toBytes hcap (row := row) rfl hrow, Sem.run_pure] <;> rfl
  refine ⟨_, w', σ', hrun, ⟨rfl, rfl, rfl, ?_, fun b hb _ => hw1 b (by omega)⟩, ⟨fun b o hb => ?_, fun b hb => ?_⟩, fun b o hb => ?_, some ⟨w.heap.size, 0, none⟩, cap, rfl, ?_⟩
  · have : w'.heap.size = w.heap.size + 1 := by
      show (if 1 = 0 then w1 else { w1 with heap := _ } : World).heap.size = _
      rw [if_neg (by omega)]
      simp only [Array.size_modify]
      show (w.heap.push _).size = _
      rw [Array.size_push]
    omega
  · have := (Array.getElem?_eq_some_iff.1 (hsl b o hb)).1
    simp only [σ']
    rw [if_neg (by omega)]; exact hb
  · simp only [σ'] at hb
    by_cases h : b = w.heap.size
    · exact .inr (.inl (by omega))
    · rw [if_neg h] at hb; exact .inl hb
  · simp only [σ'] at hb
    by_cases h : b = w.heap.size
    · rw [if_pos h] at hb; injection hb with hb; subst hb; rw [h]; exact hnew
    · rw [if_neg h] at hb; rw [hw1 b h]; exact hsl b o hb
  · refine ⟨by simp [byteRows], hge, fun r hr => ?_, .inr ⟨_, rfl, fun i r j c hi hj => ?_⟩⟩
    · simp only [byteRows, List.mem_map] at hr
      obtain ⟨u, _, rfl⟩ := hr
      exact ⟨rfl, fun c hc => by simp at hc; subst hc; trivial⟩
    · simp only [byteRows, List.getElem?_map] at hi
      obtain ⟨u, hu, rfl⟩ := map_some hi
      cases j with
      | succ j => simp at hj
      | zero =>
        simp at hj
        subst hj
        rw [add0]
        simp only [Snap.cell, σ', if_true, ob, row, elems]
        have hlt := (List.getElem?_eq_some_iff.1 hu).1
        simp only [Nat.mul_one, Nat.add_zero, Option.isSome_none, Bool.false_eq_true, if_false]
        rw [Array.getElem?_append_left (by simpa using hlt)]
        simp only [Array.getElem?_map, AT.den]
        have : y.data[i]? = some u := by simpa using hu
        rw [this]
        rfl

theorem run_bits {op : BinOp} {xt : TypeId} {k : IntKind} {m n r : Int} (h : ∀ P w, (Op.intBits op k m n).run P w = .ok (.int k r) w) (hop : op = .and ∨ op = .or ∨ op = .andNot) (w : World) (P : Program) : (binOp op xt (.int k m) (.int k n)).run P w = .ok (.int k r) w := by
  rcases hop with rfl | rfl | rfl <;> simp only [binOp, ne_eq, not_true, if_false, h]

theorem oj_band {d : Nat} {x y : Operand} {xt yt : TypeId} {k : IntKind} {m n : Int} (hop : it.o.op = .binOp .and xt x y yt) (hd : it.o.dst = some d) (hg : guardVal it.guard env = some true) (hN : Nat.blt d cf.N = true)
    (hx : evalO env x = some (.a (.v (.int k m)))) (hy : evalO env y = some (.a (.v (.int k n))))
    (hk : OJ cf rest Q σ ((d, .a (.v (.int k (bAnd k m n)))) :: env) hp A nh) : OJ cf (it :: rest) Q σ env hp A nh :=
  oj_arith _ hop hd hg hN hx hy (fun w P => run_bits (fun _ _ => rfl) (.inl rfl) w P) hk
theorem oj_bor {d : Nat} {x y : Operand} {xt yt : TypeId} {k : IntKind} {m n : Int} (hop : it.o.op = .binOp .or xt x y yt) (hd : it.o.dst = some d) (hg : guardVal it.guard env = some true) (hN : Nat.blt d cf.N = true)
    (hx : evalO env x = some (.a (.v (.int k m)))) (hy : evalO env y = some (.a (.v (.int k n))))
    (hk : OJ cf rest Q σ ((d, .a (.v (.int k (bOr k m n)))) :: env) hp A nh) : OJ cf (it :: rest) Q σ env hp A nh :=
  oj_arith _ hop hd hg hN hx hy (fun w P => run_bits (fun _ _ => rfl) (.inr (.inl rfl)) w P) hk
theorem oj_bandnot {d : Nat} {x y : Operand} {xt yt : TypeId} {k : IntKind} {m n : Int} (hop : it.o.op = .binOp .andNot xt x y yt) (hd : it.o.dst = some d) (hg : guardVal it.guard env = some true) (hN : Nat.blt d cf.N = true)
    (hx : evalO env x = some (.a (.v (.int k m)))) (hy : evalO env y = some (.a (.v (.int k n))))
    (hk : OJ cf rest Q σ ((d, .a (.v (.int k (bAndNot k m n)))) :: env) hp A nh) : OJ cf (it :: rest) Q σ env hp A nh :=
  oj_arith _ hop hd hg hN hx hy (fun w P => run_bits (fun _ _ => rfl) (.inr (.inr rfl)) w P) hk

theorem oj_bshl {d : Nat} {x y : Operand} {xt yt : TypeId} {k k' : IntKind} {m n : Int} (hop : it.o.op = .binOp .shl xt x y yt) (hd : it.o.dst = some d) (hg : guardVal it.guard env = some true) (hN : Nat.blt d cf.N = true)
    (hx : evalO env x = some (.a (.v (.int k m)))) (hy : evalO env y = some (.a (.v (.int k' n)))) (h0 : 0 ≤ n)
    (hk : OJ cf rest Q σ ((d, .a (.v (.int k (bShl k m n)))) :: env) hp A nh) : OJ cf (it :: rest) Q σ env hp A nh := by
  refine oj_val (.a (.v (.int k (bShl k m n)))) hd hg hN trivial (fun _ a β ha w => ?_) hk
  have h1 : a.eval x = .int k m := evalO_eval ha hx
  have h2 : a.eval y = .int k' n := evalO_eval ha hy
  simp only [execOp, hop, h1, h2, eqGuard, Sem.run_bind, binOp, Op.shift, if_neg (Int.not_lt.2 h0), Sem.run_pure]
  rfl
theorem oj_bshr {d : Nat} {x y : Operand} {xt yt : TypeId} {k k' : IntKind} {m n : Int} (hop : it.o.op = .binOp .shr xt x y yt) (hd : it.o.dst = some d) (hg : guardVal it.guard env = some true) (hN : Nat.blt d cf.N = true)
    (hx : evalO env x = some (.a (.v (.int k m)))) (hy : evalO env y = some (.a (.v (.int k' n)))) (h0 : 0 ≤ n)
    (hk : OJ cf rest Q σ ((d, .a (.v (.int k (bShr k m n)))) :: env) hp A nh) : OJ cf (it :: rest) Q σ env hp A nh := by
  refine oj_val (.a (.v (.int k (bShr k m n)))) hd hg hN trivial (fun _ a β ha w => ?_) hk
  have h1 : a.eval x = .int k m := evalO_eval ha hx
  have h2 : a.eval y = .int k' n := evalO_eval ha hy
  simp only [execOp, hop, h1, h2, eqGuard, Sem.run_bind, binOp, Op.shift, if_neg (Int.not_lt.2 h0), Sem.run_pure]
  rfl

theorem run_eqNil {P : Program} {t e : TypeId} (hun : P.underlying t = some (.slice e)) (m : Nat) (ao : Option Addr) (n c n' c' : Nat) (w : World) : (Op.equalIn (m + 1) t (.slice ao n c) (.slice none n' c')).run P w = .ok ao.isNone w := by
  cases ao <;> simp only [Op.equalIn, Sem.run_bind, run_underlying hun, Result.andThen_ok, Sem.run_pure] <;> rfl

/-- A slice against nil. -/
theorem oj_slnil {d : Nat} {x y : Operand} {t yt e : TypeId} {T : List (Nat × TI)} (hT : TTok cf.P T) {ti : TI} {ao : Option Addr} {n c n' c' : Nat} (hop : it.o.op = .binOp .eql t x y yt) (hd : it.o.dst = some d)
    (hg : guardVal it.guard env = some true) (hN : Nat.blt d cf.N = true) (hx : evalO env x = some (.a (.v (.slice ao n c)))) (hy : evalO env y = some (.a (.v (.slice none n' c')))) (ht : tget T t = some ti) (hkd : ti.kind = .slice e)
    (hk : OJ cf rest Q σ ((d, .a (.b ao.isNone)) :: env) hp A nh) : OJ cf (it :: rest) Q σ env hp A nh := by
  refine oj_val (.a (.b ao.isNone)) hd hg hN trivial (fun _ a β ha w => ?_) hk
  obtain ⟨i2, d2, z2, hs2⟩ := tiOf_spec (hT _ _ ht)
  have hun : cf.P.underlying t = some (.slice e) := by
    have h1 := hs2.kind
    rw [hkd] at h1
    have h2 := hs2.und
    cases d2 <;> first
      | (simp only [kindD, TK.slice.injEq] at h1; subst h1; exact h2)
      | (simp only [kindD] at h1; cases h1)
  have h1 : a.eval x = .slice ao n c := evalO_eval ha hx
  have h2 : a.eval y = .slice none n' c' := evalO_eval ha hy
  have hE : (Op.equal t (.slice ao n c) (.slice none n' c')).run cf.P w = .ok ao.isNone w := run_eqNil hun 9999 ao n c n' c' w
  have hG : (eqGuard .eql t x y (.slice ao n c) (.slice none n' c')).run cf.P w = .ok () w := rfl
  have hB : (binOp .eql t (.slice ao n c) (.slice none n' c')).run cf.P w = .ok (.bool ao.isNone) w := by
    simp only [binOp, Sem.run_bind, hE, Result.andThen_ok, Sem.run_pure]
  simp only [execOp, hop, h1, h2, Sem.run_bind, hG, hB, Result.andThen_ok, Sem.run_pure]
  rfl

/-- An element of an array value. -/
theorem oj_index_arr {d : Nat} {x i : Operand} {t : TypeId} {cs : List AT} {k : IntKind} {m : Int} (l : List AT) (e len : Nat) (de : TypeDesc) (hut : cf.P.underlying t = some (.array len e)) (hue : cf.P.underlying e = some de) (hag : aggD de = true) (hop : it.o.op = .index t x i) (hd : it.o.dst = some d)
    (hg : guardVal it.guard env = some true) (hN : Nat.blt d cf.N = true) (hx : evalO env x = some (.agg cs)) (hi : evalO env i = some (.a (.v (.int k m)))) (h0 : 0 ≤ m) (hm : m.toNat < len)
    (hl : takeAt cs (m.toNat * cf.P.cellsOf e) (cf.P.cellsOf e) = some l)
    (hk : OJ cf rest Q σ ((d, .agg l) :: env) hp A nh) : OJ cf (it :: rest) Q σ env hp A nh := by
  obtain ⟨hl1, hl2⟩ := takeAt_spec cs _ _ l hl
  have key : Bd env hp nh → (SV.agg l).lt nh := fun hb c hc => takeAt_lt hl (evalO_lt hb hx) c hc
  refine ⟨fun hb => (oj_val (.agg l) hd hg hN (key hb) (fun _ a β ha w => ?_) hk).run hb⟩
  have h2 : a.eval x = .agg (cs.map (AT.den β)).toArray := evalO_eval ha hx
  have h3 : a.eval i = .int k m := evalO_eval ha hi
  have hlt : m < len := by omega
  simp only [execOp, hop, h2, h3, Instr.index, asIntOf, Sem.run_bind, Sem.run_pure, Result.andThen_ok, run_underlying hut, h0, hlt, and_self, if_true, part, run_isAgg hue, hag, run_sizeB rfl hue]
  rw [hl1]
  simp [SV.den, List.extract_eq_take_drop, List.map_take, List.map_drop]
end
end Go.Sy
