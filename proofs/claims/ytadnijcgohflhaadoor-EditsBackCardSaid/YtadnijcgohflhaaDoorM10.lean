/- Parts of the proof of CEditsBack: F47, F48, F49, F50, Ll, F52, Lm, Ln, Lo, Lp. No conditions. -/
import Derived.Test.YtadnijcgohflhaaDoorM9
namespace Go.Sy
open Go.Proofs

/-! ### What stays while records are numbered anew -/

theorem set_er {L : List GRec} {i : Nat} {r r' : GRec} (h : L[i]? = some r) (he : er r' = er r) : (L.set i r').map er = L.map er := by
  apply List.ext_getElem?
  intro j
  rw [List.getElem?_map, List.getElem?_map, List.getElem?_set]
  by_cases hij : i = j
  · subst hij
    rw [if_pos rfl, if_pos (List.getElem?_eq_some_iff.1 h).1, h, Option.map_some, Option.map_some, he]
  · rw [if_neg hij]
theorem setEn_er (L : List GRec) (i : Nat) (x : Int) : (setEn L i x).map er = L.map er := by
  unfold setEn
  split
  · rename_i r h
    exact set_er h rfl
  · rfl
theorem setSt_er (L : List GRec) (i : Nat) (x : Int) : (setSt L i x).map er = L.map er := by
  unfold setSt
  split
  · rename_i r h
    exact set_er h rfl
  · rfl
theorem shutS_er : ∀ (lv : Int) (L : List GRec) (op : List Nat) (ord : Int), (shutS lv L op ord).L.map er = L.map er
  | _, L, [], _ => rfl
  | lv, L, t :: op, ord => by
    rw [shutS]
    split
    · rw [shutS_er lv, setEn_er]
    · rfl
theorem shutS_op : ∀ (lv : Int) (L : List GRec) (op : List Nat) (ord : Int), (∀ t ∈ (shutS lv L op ord).op, t ∈ op) ∧ (shutS lv L op ord).op.length ≤ op.length ∧ ord ≤ (shutS lv L op ord).ord ∧ (shutS lv L op ord).ord + (shutS lv L op ord).op.length = ord + op.length
  | _, L, [], ord => ⟨fun _ h => h, Nat.le_refl _, Int.le_refl _, rfl⟩
  | lv, L, t :: op, ord => by
    rw [shutS]
    split
    · obtain ⟨h1, h2, h3, h4⟩ := shutS_op lv (setEn L t ord) op (ord + 1)
      refine ⟨fun q hq => List.mem_cons_of_mem _ (h1 q hq), by rw [List.length_cons]; omega, by omega, ?_⟩
      rw [h4, List.length_cons]
      omega
    · exact ⟨fun _ h => h, Nat.le_refl _, Int.le_refl _, rfl⟩

/-- What stands after the first k. -/
structure RInv (L : List GRec) (k : Nat) (s : RnS) : Prop where
  er : s.L.map er = L.map er
  op : ∀ t ∈ s.op, t < k
  ord : 0 ≤ s.ord ∧ s.ord + s.op.length = 2 * (k : Int)
  len : s.op.length ≤ k

theorem rinv_step {L : List GRec} {k : Nat} {s : RnS} (h : RInv L k s) : RInv L (k + 1) (stepR s k) := by
  obtain ⟨h1, h2, h3, h4⟩ := shutS_op (lvAt s.L k) s.L s.op s.ord
  have h5 := shutS_er (lvAt s.L k) s.L s.op s.ord
  have := h.ord
  have := h.len
  unfold stepR
  refine ⟨?_, fun t ht => ?_, ⟨?_, ?_⟩, ?_⟩
  · dsimp only
    rw [setSt_er, h5, h.er]
  · dsimp only at ht
    rcases List.mem_cons.1 ht with rfl | ht
    · omega
    · have := h.op t (h1 t ht)
      omega
  · dsimp only
    omega
  · dsimp only
    rw [List.length_cons]
    omega
  · dsimp only
    rw [List.length_cons]
    omega
theorem rinv_run (L : List GRec) : ∀ k, RInv L k (runR ⟨L, [], 0⟩ 0 k)
  | 0 => ⟨rfl, fun t h => (by cases h), ⟨Int.le_refl _, rfl⟩, Nat.le_refl _⟩
  | k + 1 => by
    rw [runR_add, runR_one, Nat.zero_add]
    exact rinv_step (rinv_run L k)
theorem renum_er (L : List GRec) : (renumG L).map er = L.map er := by
  unfold renumG
  dsimp only
  rw [shutS_er, (rinv_run L L.length).er]
theorem renum_len (L : List GRec) : (renumG L).length = L.length := by
  have := congrArg List.length (renum_er L)
  simpa using this
theorem fit_er {L M : List GRec} (h : L.map er = M.map er) (hF : RecsFit M) : RecsFit L := by
  intro r hr
  have : er r ∈ M.map er := by rw [← h]; exact List.mem_map.2 ⟨r, hr, rfl⟩
  obtain ⟨q, hq, e⟩ := List.mem_map.1 this
  have h1 := congrArg GRec.n e
  have h2 := congrArg GRec.s e
  have h3 := congrArg GRec.name e
  have h1 : q.n = r.n := h1
  have h2 : q.s = r.s := h2
  have h3 : q.name = r.name := h3
  rw [← h1, ← h2, ← h3]
  exact hF q hq
theorem recsW_map_er : ∀ L : List GRec, recsW (L.map er) = recsW L
  | [] => rfl
  | r :: l => by rw [List.map_cons, recsW, recsW, recsW_map_er l]; rfl
theorem recsW_er {L M : List GRec} (h : L.map er = M.map er) : recsW L = recsW M := by rw [← recsW_map_er L, h, recsW_map_er]

/-! ### anew -/

/-- All records, numbered anew, or why they may not be. -/
def anewG (L : List GRec) : List GRec × Int := shredG (treeG (renumG L)) 8

structure NwS where
  σ : Snap
  k : Nat
  oo : Option Addr
  oc : Nat

set_option maxRecDepth 100000 in
set_option maxHeartbeats 1000000 in
theorem anew_c (σ : Snap) (L : List GRec) (hF : RecsFit L) (hpos : 0 < L.length) (hw : recsW L ≤ 100000) (hlv : ∀ r ∈ L, 0 ≤ r.lv) (ao : Option Addr) (cap : Nat) (H : SlAt σ ao L.length cap 11 (recRows L)) :
    PureS Tryd.prog 133 [.a (.v (.slice ao L.length cap))] σ (fun v σ' => ∃ bo bc, v = .tuple #[.slice bo (anewG L).1.length bc, .int .i64 (anewG L).2] ∧ SlAt σ' bo (anewG L).1.length bc 11 (recRows (anewG L).1)) := by
  have hL : L.length ≤ 100000 := Nat.le_trans (recsW_len L) hw
  refine enter_s Tryd.func133 rfl rfl (by (repeat' (first | exact trivial | constructor))) fun w => ?_
  (repeat (first | refine cj_seq ?_ | (refine cj_region ?_; refine oj_run TT rfl ?_) | refine oj_then ?_))
  refine oj_callF [] (A0 := []) (Ar := []) rfl rfl rfl rfl rfl rfl rfl Tryd.call107 (by (repeat' (first | exact trivial | constructor))) (CloneRec_c σ L (by omega) hpos ao cap H) fun v σ1 A1 hle1 ⟨bo, bc, hv, hbc, hA⟩ => ⟨.a (.v (.slice bo L.length bc)), trivial, hv.symm, ?_⟩
  subst hA
  refine oj_run TT rfl ?_
  (repeat (first | refine cj_seq ?_ | (refine cj_region ?_; refine oj_run TT rfl ?_) | refine oj_then ?_ | refine cj_block ?_))
  refine cj_arrAt 0 (E := rE bo L.length bc L) rfl hpos fun g1 hg1 => ?_
  have hg1 : bo = some ⟨g1, 0, none⟩ := hg1
  subst hg1
  refine cj_own 2 1 1 rfl (by (repeat' (first | exact trivial | refine AllLt.of ?_ | constructor))) rfl (by decide) fun gO => ?_
  refine cj_own 1 1 1 rfl (by (repeat' (first | exact trivial | refine AllLt.of ?_ | constructor))) rfl (by decide) fun gR => ?_
  refine cj_own 0 1 1 rfl (by (repeat' (first | exact trivial | refine AllLt.of ?_ | constructor))) rfl (by decide) fun gL => ?_
  refine cj_nilarr 3 1 ?_
  refine cj_re [1, 2, 3, 4, 0] (A' := anA gO gR gL g1 bc none 0 ⟨L, [], 0⟩) rfl rfl ?_
  have hfl : ∀ m, (SV.a (.fn (.func 146) [ptrTo gO, ptrTo gR, ptrTo gL])).lt m := fun m x hx => by
    simp only [List.mem_cons, List.not_mem_nil, or_false] at hx
    rcases hx with rfl | rfl | rfl <;> trivial
  have had : ∀ (g k j : Nat), some (SV.a (AT.v (.pointer (some (Addr.add (Addr.add ⟨g, 0, none⟩ ((k : Int).toNat * 11)) j))))) = some (SV.a (AT.v (.pointer (some ⟨g, k * 11 + j, none⟩)))) := fun g k j => by rw [add0, Addr.add_lit]; rfl
  refine cj_cutB (fun (o : NwS) => o.σ) (fun _ => [(1, .a (.v (.pointer (some ⟨gL, 0, none⟩)))), (6, .a (.fn (.func 146) [ptrTo gO, ptrTo gR, ptrTo gL]))]) (fun _ => []) (fun o => anA gO gR gL g1 bc o.oo o.oc (runR ⟨L, [], 0⟩ 0 L.length)) 3
    (fun o => σ1.le o.σ ∧ (runR ⟨L, [], 0⟩ 0 L.length).op.length ≤ o.oc) ?_ (fun o ⟨hσo, hoc⟩ => ?_)
  · refine cj_loop (fun (s : NwS) => s.σ) (fun s => [(1, .a (.v (.pointer (some ⟨gL, 0, none⟩)))), (4, .a (.v (.pointer (some ⟨gR, 0, none⟩)))), (5, .a (.v (.pointer (some ⟨gO, 0, none⟩)))), (6, .a (.fn (.func 146) [ptrTo gO, ptrTo gR, ptrTo gL])), (14, .a (.v (.int .i64 L.length))), (15, .a (.v (.int .i64 (s.k : Nat))))]) (fun _ => []) (fun s => anA gO gR gL g1 bc s.oo s.oc (runR ⟨L, [], 0⟩ 0 s.k)) 3
      (fun s => s.k ≤ L.length ∧ σ1.le s.σ ∧ (runR ⟨L, [], 0⟩ 0 s.k).op.length ≤ s.oc) (fun s => L.length - s.k) ⟨σ1, 0, none, 0⟩ ⟨Nat.zero_le _, Snap.le_refl _, Nat.le_refl _⟩ rfl (by (repeat (first | exact trivial | refine And.intro rfl ?_))) (by (repeat (first | exact trivial | refine And.intro rfl ?_))) rfl ⟨trivial, trivial, trivial, hfl 3, trivial, trivial, trivial⟩ trivial fun ⟨σk, k, oo, oc⟩ ⟨hk, hσ, hoc⟩ => ?_
    dsimp only at hk hσ hoc ⊢
    (repeat (first | refine cj_seq ?_ | (refine cj_region ?_; refine oj_run TT rfl ?_) | refine oj_then ?_))
    refine cj_if rfl (fun h => ?_) (fun h => ?_)
    rotate_left
    · have hk0 : k = L.length := by have := of_decide_eq_false h; omega
      subst hk0
      (repeat (first | refine cj_exit ?_ | refine nj_then_exit ?_ | refine nj_block_out ?_))
      refine nj_again (⟨σk, L.length, oo, oc⟩ : NwS) ⟨hσ, hoc⟩ Nat.zero_lt_one rfl (by (repeat (first | exact trivial | refine And.intro rfl ?_))) (by (repeat (first | exact trivial | refine And.intro rfl ?_))) rfl ⟨trivial, hfl 3, trivial⟩ trivial
    have hkl : k < L.length := by have := of_decide_eq_true h; omega
    have hI := rinv_run L k
    have hnext : runR ⟨L, [], 0⟩ 0 (k + 1) = stepR (runR ⟨L, [], 0⟩ 0 k) k := by rw [runR_add, runR_one, Nat.zero_add]
    generalize runR ⟨L, [], 0⟩ 0 k = s at *
    have hMl : s.L.length = L.length := by have := congrArg List.length hI.er; simpa using this
    have hlk : lvAt s.L k = L[k].lv := by
      rw [er_lv hI.er k]
      unfold lvAt
      rw [List.getElem?_eq_getElem hkl]
      rfl
    have hlk0 := hlv L[k] (List.getElem_mem hkl)
    have hMk : s.L[k]? = some (s.L[k]'(by omega)) := List.getElem?_eq_getElem _
    have hlk2 : lvAt s.L k = (s.L[k]'(by omega)).lv := by unfold lvAt; rw [hMk]; rfl
    have hst : stepR s k = ⟨setSt (shutS (lvAt s.L k) s.L s.op s.ord).L k (shutS (lvAt s.L k) s.L s.op s.ord).ord, k :: (shutS (lvAt s.L k) s.L s.op s.ord).op, (shutS (lvAt s.L k) s.L s.op s.ord).ord + 1⟩ := rfl
    rw [hst] at hnext
    clear hst
    generalize s.L[k]'(by omega) = y at *
    have hio := hI.op
    have hord := hI.ord
    have hlen := hI.len
    (repeat (first | refine cj_seq ?_ | (refine cj_region ?_; refine oj_run TT rfl ?_) | refine oj_then ?_ | refine cj_skip ?_ | refine cj_block ?_ | refine nj_then ?_))
    refine oj_ldA 2 (off := 0) (c := .v (.slice (some ⟨g1, 0, none⟩) s.L.length bc)) TT rfl rfl rfl rfl rfl rfl rfl rfl rfl rfl rfl trivial (oj_run TT rfl ?_)
    refine oj_indexAddr TT rfl rfl rfl rfl rfl rfl rfl rfl rfl ⟨by omega, by omega⟩ (oj_run TT rfl ?_)
    refine oj_ldA 4 (off := k * 11 + 2) (c := .v (.int .i64 y.lv)) TT rfl rfl rfl rfl rfl (had g1 k 2) rfl rfl rfl rfl (recXs_get hMk rfl) trivial (oj_run TT rfl ?_)
    have hsc := shut_c σk gO gR gL g1 bc y.lv (by omega) oo oc s.L s.op s.ord (by omega) (fun t ht => by have := hio t ht; omega) (by omega) hoc (by omega) (by omega)
    refine oj_callF [0, 1, 2, 3, 4] (A0 := anA gO gR gL g1 bc oo oc s) (Ar := []) rfl rfl rfl rfl rfl rfl rfl Tryd.call146 ⟨trivial, trivial, trivial, trivial, trivial⟩ hsc fun v σ2 A2 hle2 ⟨hv, hA⟩ => ?_
    subst hA
    refine ⟨.tup [], (by (repeat' (first | exact trivial | refine SV.lt_tup ?_))), hv.symm, ?_⟩
    obtain ⟨q1, q2, q3, q4⟩ := shutS_op y.lv s.L s.op s.ord
    have q5 := shutS_len y.lv s.L s.op s.ord
    rw [hlk2] at hnext
    generalize shutS y.lv s.L s.op s.ord = t at *
    have htk : t.L[k]? = some (t.L[k]'(by omega)) := List.getElem?_eq_getElem _
    have hss : setSt t.L k t.ord = t.L.set k ((t.L[k]'(by omega)).atSt t.ord) := by unfold setSt; rw [htk]
    generalize t.L[k]'(by omega) = z at *
    have hset : (recXs t.L).set (k * 11 + 0) (AT.v (.int .i64 t.ord)).val = recXs (t.L.set k (z.atSt t.ord)) := recXs_set (r' := z.atSt t.ord) (.v (.int .i64 t.ord)) htk (by omega) rfl
    have hsl : (t.L.set k (z.atSt t.ord)).length = t.L.length := List.length_set ..
    refine oj_run TT rfl ?_
    (repeat (first | refine cj_seq ?_ | (refine cj_region ?_; refine oj_run TT rfl ?_) | refine oj_then ?_))
    refine oj_ldA 2 (off := 0) (c := .v (.slice (some ⟨g1, 0, none⟩) t.L.length bc)) TT rfl rfl rfl rfl rfl rfl rfl rfl rfl rfl rfl trivial (oj_run TT rfl ?_)
    refine oj_ldA 1 (off := 0) (c := .v (.int .i64 t.ord)) TT rfl rfl rfl rfl rfl rfl rfl rfl rfl rfl rfl trivial (oj_run TT rfl ?_)
    refine oj_indexAddr TT rfl rfl rfl rfl rfl rfl rfl rfl rfl ⟨by omega, by omega⟩ (oj_run TT rfl ?_)
    refine oj_stA 4 (off := k * 11 + 0) (A' := anA gO gR gL g1 bc oo oc ⟨t.L.set k (z.atSt t.ord), t.op, t.ord⟩) TT rfl rfl rfl rfl (had g1 k 0) rfl rfl rfl rfl rfl (by show k * 11 + 0 < t.L.length * 11; omega) trivial rfl ?_ (oj_run TT rfl ?_)
    · show [_, _, _, _, _] = [_, _, _, _, _]
      unfold rE
      dsimp only
      rw [hset, hsl]
    rw [← hss] at hsl ⊢
    generalize setSt t.L k t.ord = M2 at *
    have hM2 : M2.length = t.L.length := hsl
    (repeat (first | refine cj_seq ?_ | (refine cj_region ?_; refine oj_run TT rfl ?_) | refine oj_then ?_))
    refine oj_ldA 1 (off := 0) (c := .v (.int .i64 t.ord)) TT rfl rfl rfl rfl rfl rfl rfl rfl rfl rfl rfl trivial (oj_run TT rfl ?_)
    refine oj_add rfl rfl rfl rfl rfl rfl (by omega) (oj_run TT rfl ?_)
    refine oj_stA 1 (off := 0) (A' := anA gO gR gL g1 bc oo oc ⟨M2, t.op, t.ord + 1⟩) TT rfl rfl rfl rfl rfl rfl rfl rfl rfl rfl (by show 0 < 1 * 1; omega) trivial rfl rfl (oj_run TT rfl ?_)
    (repeat (first | (refine cj_region ?_; refine oj_run TT rfl ?_) | refine oj_then ?_))
    refine oj_ldA 0 (off := 0) (c := .v (.slice oo t.op.length oc)) TT rfl rfl rfl rfl rfl rfl rfl rfl rfl rfl rfl trivial (oj_run TT rfl ?_)
    have hrl : t.op.reverse.length = t.op.length := List.length_reverse ..
    refine oj_append_lit TT 3 rfl rfl rfl rfl rfl rfl rfl rfl rfl (by show (_, _, _, _) = (_, _, _, _); unfold kdE; dsimp only; rw [hrl]) rfl rfl rfl rfl rfl rfl rfl rfl (by (repeat' (first | exact trivial | refine AllLt.of ?_ | constructor))) rfl (by omega) (by show (t.op.length + 1) * 8 ≤ _; omega) fun ao' cap' hcap' => oj_run TT rfl ?_
    have hkd : (⟨ao', t.op.length + 1, cap', (kdE oo oc t.op.reverse).e, (kdE oo oc t.op.reverse).sz, (kdE oo oc t.op.reverse).xs ++ [AT.val (.v (.int .i64 k))]⟩ : AE) = kdE ao' cap' (k :: t.op).reverse := by
      have e1 : (k :: t.op).reverse.length = t.op.length + 1 := by rw [List.length_reverse, List.length_cons]
      unfold kdE
      rw [e1, List.reverse_cons]
      dsimp only
      unfold intVs'
      rw [List.map_append]
      rfl
    refine oj_stA 0 (off := 0) (A' := anA gO gR gL g1 bc ao' cap' ⟨M2, k :: t.op, t.ord + 1⟩) TT rfl rfl rfl rfl rfl rfl rfl rfl rfl rfl (by show 0 < 1 * 1; omega) trivial rfl ?_ (oj_run TT rfl ?_)
    · show [_, _, _, _, _] = [_, _, _, _, _]
      rw [← hkd]
      rfl
    (repeat (first | (refine cj_region ?_; refine oj_run TT rfl ?_) | refine oj_nil ?_ | refine nj_then ?_ | refine nj_block ?_ | (refine oj_add rfl rfl rfl rfl rfl rfl (by omega) ?_; refine oj_run TT rfl ?_)))
    refine nj_again (⟨σ2, k + 1, ao', cap'⟩ : NwS) ⟨hkl, Snap.le_trans hσ hle2, by dsimp only; rw [hnext]; exact hcap'⟩ (by dsimp only; omega) rfl (by (repeat (first | exact trivial | refine And.intro rfl ?_))) (by (repeat (first | exact trivial | refine And.intro rfl ?_))) ?_ ⟨trivial, trivial, trivial, hfl 3, trivial, trivial, trivial⟩ trivial
    dsimp only
    rw [hnext]
  obtain ⟨σo, ko, oo, oc⟩ := o
  dsimp only at hσo hoc ⊢
  have hI := rinv_run L L.length
  have hren : renumG L = (shutS 0 (runR ⟨L, [], 0⟩ 0 L.length).L (runR ⟨L, [], 0⟩ 0 L.length).op (runR ⟨L, [], 0⟩ 0 L.length).ord).L := rfl
  have hrl := renum_len L
  have hrf := fit_er (renum_er L) hF
  have hrw : recsW (renumG L) = recsW L := recsW_er (renum_er L)
  generalize runR ⟨L, [], 0⟩ 0 L.length = s at *
  have hMl : s.L.length = L.length := by have := congrArg List.length hI.er; simpa using this
  have hio := hI.op
  have hord := hI.ord
  have hlen := hI.len
  have hsc := shut_c σo gO gR gL g1 bc 0 (by omega) oo oc s.L s.op s.ord (by omega) (fun t ht => by have := hio t ht; omega) (by omega) hoc (by omega) (by omega)
  (repeat (first | refine cj_seq ?_ | (refine cj_region ?_; refine oj_run TT rfl ?_)))
  refine oj_callF [0, 1, 2, 3, 4] (A0 := anA gO gR gL g1 bc oo oc s) (Ar := []) rfl rfl rfl rfl rfl rfl rfl Tryd.call146 ⟨trivial, trivial, trivial, trivial, trivial⟩ hsc fun v σ2 A2 hle2 ⟨hv, hA⟩ => ?_
  subst hA
  refine ⟨.tup [], (by (repeat' (first | exact trivial | refine SV.lt_tup ?_))), hv.symm, ?_⟩
  have q5 := shutS_len 0 s.L s.op s.ord
  generalize shutS 0 s.L s.op s.ord = t at *
  have htl : t.L = renumG L := hren.symm
  refine oj_run TT rfl ?_
  (repeat (first | refine cj_seq ?_ | (refine cj_region ?_; refine oj_run TT rfl ?_) | refine oj_then ?_))
  refine oj_ldA 2 (off := 0) (c := .v (.slice (some ⟨g1, 0, none⟩) t.L.length bc)) TT rfl rfl rfl rfl rfl rfl rfl rfl rfl rfl rfl trivial ?_
  refine oj_seal 4 rfl rfl rfl fun σ3 hle3 hS => ?_
  have hanw : anewG L = shredG (treeG (renumG L)) 8 := rfl
  rw [hanw]
  clear hren hanw
  have HT : SlAt σ3 (some ⟨g1, 0, none⟩) t.L.length bc 11 (recRows t.L) := rE_sealed hS (by omega)
  rw [htl] at HT ⊢
  generalize renumG L = M at *
  have hMM : M.length = L.length := by rw [← htl]; omega
  have htc := tree_c (enough M) σ3 M _ bc hrf (by omega) HT (by omega) (by unfold enough; omega)
  have htw : (treeG M).weight ≤ 100000 := Nat.le_trans (treeN_w _ M (by omega)) (by omega)
  refine oj_run TT rfl ?_
  refine oj_callS rfl rfl rfl rfl rfl Tryd.call147 (by (repeat' (first | exact trivial | constructor))) htc fun v σ4 hle4 ⟨r, hv, hrep⟩ => ⟨.agg r, hrep.clo, hv.symm, ?_⟩
  rw [show treeN (enough M) M = treeG M from rfl] at hrep
  generalize treeG M = gt at *
  obtain ⟨xla, xlc, xlrows, xma, xmc, xvrows, rfl, XV⟩ := hrep.open
  have hsg : shredG gt 8 = if sane gt ≠ 0 then ([], sane gt) else ((shredV 8 gt 0 false emptyS 0).1, 0) := by unfold shredG; rw [if_neg (by omega)]
  refine oj_run TT rfl ?_
  (repeat (first | refine cj_seq ?_ | (refine cj_region ?_; refine oj_run TT rfl ?_) | refine oj_then ?_))
  refine oj_callP rfl rfl rfl rfl rfl Tryd.call20 (by (repeat' (first | exact trivial | exact vCells_lt _ _ _ _ _ _ | constructor))) (Sane_c σ4 gt _ XV.rep (by omega)) fun v hv => ⟨.a (.v (.int .i64 (sane gt))), trivial, hv.symm, ?_⟩
  refine oj_run TT rfl ?_
  (repeat (first | refine cj_seq ?_ | (refine cj_region ?_; refine oj_run TT rfl ?_) | refine oj_then ?_))
  refine cj_if rfl (fun h => ?_) (fun h => ?_)
  · have h : sane gt ≠ 0 := by simpa using h
    rw [if_pos h] at hsg
    rw [hsg]
    (repeat (first | refine cj_seq ?_ | (refine cj_region ?_; refine oj_run TT rfl ?_) | refine oj_then ?_ | refine cj_ret ?_ | refine nj_then_ret ?_))
    refine nj_ret TT rfl fun β w' _ _ => ?_
    exact ⟨none, 0, rfl, SlAt.nil _ _ _ _⟩
  · (repeat (first | refine cj_seq ?_ | (refine cj_region ?_; refine oj_run TT rfl ?_) | refine cj_skip ?_ | refine nj_then ?_))
    refine oj_callS rfl rfl rfl rfl rfl Tryd.call21 ⟨vCells_lt _ _ _ _ _ _, trivial, trivial⟩ (Shred_s σ4 gt _ 8 XV.rep htw) fun v σ5 hle5 ⟨so, sc, hv, HS⟩ => ⟨.tup [.a (.v (.slice so (shredG gt 8).1.length sc)), .a (.v (.int .i64 (shredG gt 8).2))], (by (repeat' (first | exact trivial | refine SV.lt_tup ?_ | constructor))), hv.symm, ?_⟩
    refine oj_run TT rfl ?_
    (repeat (first | refine oj_then ?_ | refine cj_ret ?_))
    refine nj_ret TT rfl fun β w' _ _ => ?_
    exact ⟨so, sc, rfl, HS⟩
end Go.Sy
namespace Go.Sy
open Go.Proofs

/-! ### run -/

/-- What a change of records gives: the records, what it costs, the error. -/
structure GRes where
  l : List GRec
  laid : Int
  moved : Int
  e : Int
def spliced (L : List GRec) (fr to : Nat) (M : List GRec) : List GRec := L.take fr ++ (M ++ L.drop to)
def runG (L : List GRec) (fr to : Nat) (M : List GRec) (room : Int) : GRes :=
  if (anewG (spliced L fr to M)).2 ≠ 0 then ⟨[], 0, 0, (anewG (spliced L fr to M)).2⟩
  else if room < 2 * (M.length : Int) then ⟨(anewG (spliced L fr to M)).1, M.length, (L.length : Int) - ((to : Int) - fr), 0⟩ else ⟨spliced L fr to M, M.length, 0, 0⟩

def ord105_2 : List (Nat × Tag) := [(0,.pure),(1,.quiet),(2,.pure),(3,.quiet),(4,.pure),(5,.pure),(6,.pure),(7,.quiet),(8,.pure),(9,.quiet),(10,.pure),(11,.keep),(12,.sink),(13,.pure)]

/-- What a change's answer says. -/
def ResOk (σ : Snap) (R : GRes) (v : Value) : Prop := ∃ bo bc, v = .tuple #[.slice bo R.l.length bc, .agg #[.int .i64 R.laid, .int .i64 R.moved], .int .i64 R.e] ∧ SlAt σ bo R.l.length bc 11 (recRows R.l)

set_option maxRecDepth 100000 in
set_option maxHeartbeats 1000000 in
theorem run_c (σ : Snap) (g : GVal) (la : Option Addr) (lc : Nat) (lrows : List (List AT)) (ma : Option Addr) (mc : Nat) (vrows : List (List AT)) (V : VAt σ g la lc lrows ma mc vrows) (hw : g.weight ≤ 100000) (hs : sane g = 0)
    (L : List GRec) (ao : Option Addr) (cap : Nat) (H : SlAt σ ao L.length cap 11 (recRows L)) (hL : L.length ≤ 100000) (fr to : Nat) (hft : fr ≤ to) (htn : to ≤ L.length) (top : GRec) (htl : 0 ≤ top.lv ∧ top.lv ≤ 1000000) (room : Int) (f : FuncId) (caps : List PT) (hcap : LtAll (caps.map ptSV)) (hcall : ∀ args w, (callFunc f args).run Tryd.prog w = .ok (.enter f args) w)
    (ν : Int → Int) (hν : ∀ σ' : Snap, σ.le σ' → ∀ k : Int, 0 ≤ k → k < 2 * ((shredV 1 g 0 false emptyS 0).1.length : Nat) → PlainS Tryd.prog f (.a (.v (.int .i64 k)) :: .a (.v (.int .i64 ((shredV 1 g 0 false emptyS 0).1.length : Nat))) :: caps.map ptSV) σ' (fun v => v = .int .i64 (ν k)))
    (hF : RecsFit (spliced L fr to (laidG g top ν))) (hW : recsW (spliced L fr to (laidG g top ν)) ≤ 100000) (hlv : ∀ r ∈ spliced L fr to (laidG g top ν), 0 ≤ r.lv) :
    PureS Tryd.prog 105 [.agg (editCells ao L.length cap fr to top (vCells g la lc ma mc) room f caps)] σ (fun v σ' => ResOk σ' (runG L fr to (laidG g top ν) room) v) := by
  have hML : (laidG g top ν).length = (shredV 1 g 0 false emptyS 0).1.length := by unfold laidG; rw [nameHd_len, List.length_map]
  have hMp : 0 < (laidG g top ν).length := by rw [hML, shredV_eq]; simp
  have hMw : (laidG g top ν).length ≤ 100000 := by
    rw [hML]
    exact Nat.le_trans (shredV_len 1 g 0 false emptyS 0).1 hw
  have hlc := laid_c σ g la lc lrows ma mc vrows V hw hs ao L.length cap fr to top htl room f caps hcap hcall ν hν
  have hfn : ∀ m, (AT.fn (.func f) caps).lt m := fn_lt_caps hcap
  have hce : ∀ m, ∀ c ∈ editCells ao L.length cap fr to top (vCells g la lc ma mc) room f caps, c.lt m := by
    intro m c hc
    unfold editCells at hc
    simp only [List.mem_append, List.mem_cons, List.not_mem_nil, or_false] at hc
    rcases hc with (rfl | rfl | rfl) | hc | hc | rfl | rfl
    · trivial
    · trivial
    · trivial
    · exact recCells_lt m top c hc
    · exact vCells_lt _ _ _ _ _ _ c hc
    · trivial
    · exact hfn m
  generalize laidG g top ν = M at *
  have hrun : runG L fr to M room = if (anewG (spliced L fr to M)).2 ≠ 0 then ⟨[], 0, 0, (anewG (spliced L fr to M)).2⟩
    else if room < 2 * (M.length : Int) then ⟨(anewG (spliced L fr to M)).1, M.length, (L.length : Int) - ((to : Int) - fr), 0⟩ else ⟨spliced L fr to M, M.length, 0, 0⟩ := rfl
  refine enter_s Tryd.func105 rfl rfl ⟨hce 0, trivial⟩ fun w => ?_
  (repeat (first | refine cj_seq ?_ | (refine cj_region ?_; refine oj_run TT rfl ?_) | refine oj_then ?_))
  refine oj_callS rfl rfl rfl rfl rfl Tryd.call131 ⟨hce 0, trivial⟩ hlc fun v σ1 hle1 ⟨mo, mcp, hv, HM⟩ => ⟨.a (.v (.slice mo M.length mcp)), trivial, hv.symm, ?_⟩
  have H := H.mono hle1
  refine oj_run TT rfl ?_
  (repeat (first | refine cj_seq ?_ | refine oj_then ?_))
  refine cj_draw ord105_2 mixed (by kernel_rfl) (oj_run TT rfl ?_)
  refine oj_slice_to TT fr rfl rfl rfl rfl rfl rfl rfl rfl rfl rfl (Nat.le_trans (by omega) H.ncap) H.ncap (oj_run TT rfl ?_)
  refine oj_slice TT to L.length rfl rfl rfl rfl rfl rfl rfl rfl rfl rfl (.inr ⟨_, _, rfl, rfl⟩) (.inl ⟨rfl, rfl⟩) htn H.ncap H.ncap (oj_run TT rfl ?_)
  refine oj_own 2 3 1 rfl (by (repeat' (first | exact trivial | refine AllLt.of ?_ | constructor))) rfl (by decide) fun g3 => ?_
  have hl1 : (L.take fr).length = fr := by rw [List.length_take]; omega
  have hl2 : (L.drop to).length = L.length - to := List.length_drop ..
  have hH1 := H.front (k := fr) (by omega)
  have hH2 := H.sub (l := to) (k := L.length) htn (Nat.le_refl _)
  have e1 : (recRows L).take fr = recRows (L.take fr) := by unfold recRows; rw [List.map_take]
  have e2 : ((recRows L).take L.length).drop to = recRows (L.drop to) := by
    have : L.length = (recRows L).length := (recRows_len L).symm
    rw [this, List.take_length]
    unfold recRows
    rw [List.map_drop]
  rw [e1] at hH1
  rw [e2] at hH2
  generalize hao2 : (if cap = to then ao else ao.map (·.add (to * 11))) = ao2 at hH2
  have hall : allRecs [⟨ao, cap, L.take fr⟩, ⟨mo, mcp, M⟩, ⟨ao2, cap - to, L.drop to⟩] = spliced L fr to M := by
    unfold allRecs spliced
    simp
  have hsplen : (spliced L fr to M).length ≤ 1000000 := Nat.le_trans (recsW_len _) (by omega)
  refine oj_peekF (Φ := fun v A' => ∃ bo bc, v = .slice bo (spliced L fr to M).length bc ∧ (spliced L fr to M).length ≤ bc ∧ A' = [rE bo (spliced L fr to M).length bc (spliced L fr to M)]) rfl rfl rfl rfl rfl Tryd.call132 (by (repeat' (first | exact trivial | constructor))) (fun σ' h1 h2 => by
    have hP : SlAt σ' (some ⟨g3, 0, none⟩) 3 3 1 (rrRows [⟨ao, cap, L.take fr⟩, ⟨mo, mcp, M⟩, ⟨ao2, cap - to, L.drop to⟩]) := ArrSealed.sl (h2 0 _ rfl) (by
        unfold rrRows
        simp only [List.map_cons, List.map_nil]
        rw [hl1, hl2, ← hao2]
        rfl) (fun r hr => by
        unfold rrRows at hr
        obtain ⟨q, _, rfl⟩ := List.mem_map.1 hr
        exact ⟨rfl, by (repeat' (first | exact trivial | refine AllLt.of ?_ | constructor))⟩) rfl rfl (Nat.le_refl 3)
    have := Concat_c σ' [⟨ao, cap, L.take fr⟩, ⟨mo, mcp, M⟩, ⟨ao2, cap - to, L.drop to⟩] (by show 3 ≤ 1000; omega) (by rw [hall]; exact hsplen) (some ⟨g3, 0, none⟩) 3 hP (fun r hr => by
      simp only [List.mem_cons, List.not_mem_nil, or_false] at hr
      rcases hr with rfl | rfl | rfl
      · dsimp only
        rw [hl1]
        exact hH1.mono h1
      · exact HM.mono h1
      · dsimp only
        rw [hl2]
        exact hH2.mono h1)
    rw [hall] at this
    exact this) fun v A' ⟨bo, bc, hv, hbc, hA⟩ => ⟨.a (.v (.slice bo (spliced L fr to M).length bc)), trivial, hv.symm, ?_⟩
  subst hA
  refine oj_run TT rfl ?_
  (repeat (first | refine cj_seq ?_ | (refine cj_region ?_; refine oj_run TT rfl ?_) | refine oj_then ?_))
  refine oj_seal 1 rfl rfl rfl fun σ2 hle2 hS => ?_
  have HO := rE_sealed hS hbc
  have hspos : 0 < (spliced L fr to M).length := by unfold spliced; rw [List.length_append, List.length_append]; omega
  refine oj_callS rfl rfl rfl rfl rfl Tryd.call133 (by (repeat' (first | exact trivial | constructor))) (anew_c σ2 _ hF hspos hW hlv bo bc HO) fun v σ3 hle3 ⟨no, nc, hv, HN⟩ => ⟨.tup [.a (.v (.slice no (anewG (spliced L fr to M)).1.length nc)), .a (.v (.int .i64 (anewG (spliced L fr to M)).2))], (by (repeat' (first | exact trivial | refine SV.lt_tup ?_ | constructor))), hv.symm, ?_⟩
  have HO := HO.mono hle3
  generalize anewG (spliced L fr to M) = N at *
  generalize spliced L fr to M = O at *
  refine oj_run TT rfl ?_
  (repeat (first | refine cj_seq ?_ | (refine cj_region ?_; refine oj_run TT rfl ?_) | refine oj_then ?_ | refine cj_block ?_))
  refine cj_if rfl (fun h => ?_) (fun h => ?_)
  · have h : N.2 ≠ 0 := by simpa using h
    rw [if_pos h] at hrun
    rw [hrun]
    (repeat (first | refine cj_seq ?_ | (refine cj_region ?_; refine oj_run TT rfl ?_) | refine oj_then ?_ | refine cj_ret ?_ | refine nj_then_ret ?_ | refine nj_block_ret ?_))
    refine nj_ret TT rfl fun β w' _ _ => ?_
    exact ⟨none, 0, rfl, SlAt.nil _ _ _ _⟩
  have h : N.2 = 0 := by simpa using h
  rw [if_neg (by simp [h])] at hrun
  (repeat (first | refine cj_seq ?_ | (refine cj_region ?_; refine oj_run TT rfl ?_)))
  refine oj_mul rfl rfl rfl rfl rfl rfl (by omega) (oj_run TT rfl ?_)
  (repeat refine oj_then ?_)
  refine cj_if rfl (fun h2 => ?_) (fun h2 => ?_)
  · have h2 : decide (room < 2 * (M.length : Int)) = true := h2
    rw [if_pos (of_decide_eq_true h2)] at hrun
    rw [hrun]
    (repeat refine cj_seq ?_)
    refine cj_draw [(0,.pure),(1,.pure),(2,.pure),(3,.pure),(4,.quiet),(5,.pure),(6,.pure),(7,.quiet),(8,.pure),(9,.quiet),(10,.pure),(11,.pure),(12,.pure),(13,.pure),(14,.sink),(15,.pure)] mixed (by kernel_rfl) (oj_run TT rfl ?_)
    refine oj_minus rfl rfl rfl rfl rfl rfl (by omega) (oj_run TT rfl ?_)
    refine oj_minus rfl rfl rfl rfl rfl rfl (by omega) (oj_run TT rfl ?_)
    (repeat (first | refine oj_then ?_ | refine cj_ret ?_ | refine nj_then_ret ?_ | refine nj_block_ret ?_))
    refine nj_ret TT rfl fun β w' _ _ => ?_
    exact ⟨no, nc, rfl, HN⟩
  · have h2 : decide (room < 2 * (M.length : Int)) = false := h2
    rw [if_neg (of_decide_eq_false h2)] at hrun
    rw [hrun]
    (repeat (first | refine cj_seq ?_ | (refine cj_region ?_; refine oj_run TT rfl ?_) | refine oj_then ?_ | refine cj_skip ?_ | refine cj_ret ?_ | refine nj_then ?_ | refine nj_block ?_))
    refine nj_ret TT rfl fun β w' _ _ => ?_
    exact ⟨bo, bc, rfl, HO⟩
end Go.Sy
namespace Go.Sy
open Go.Proofs

/-! ### Insert -/

theorem sound_all {L : List GRec} (h : soundG L = true) : L.length ≤ 4096 ∧ nestedG L = true ∧ namedG L = true ∧ ((L.head?.map GRec.en).getD 0) ≤ 1099511627776 ∧ sane (buildG L).1 = 0 := by
  unfold soundG at h
  have h := of_decide_eq_true h
  unfold buildR at h
  split at h
  · exact absurd h (by decide)
  · rename_i h1
    split at h
    · exact absurd h (by decide)
    · rename_i h2
      refine ⟨?_, ?_, ?_, ?_, ?_⟩
      · exact Nat.not_lt.1 fun hc => h1 (.inl (by omega))
      · cases hn : nestedG L with
        | true => rfl
        | false => exact absurd (.inr (.inl hn)) h1
      · cases hn : namedG L with
        | true => rfl
        | false => exact absurd (.inr (.inr (.inl hn))) h1
      · exact Int.not_lt.1 fun hc => h1 (.inr (.inr (.inr (by omega))))
      · simpa using h2

theorem levels_bd : ∀ (L : List GRec) (m : Nat), levelsOk m L → ∀ r ∈ L, 0 ≤ r.lv ∧ r.lv ≤ m + L.length
  | [], _, _, r, hr => by cases hr
  | x :: l, m, ⟨h1, h2, h3⟩, r, hr => by
    rw [List.length_cons]
    rcases List.mem_cons.1 hr with rfl | hr
    · exact ⟨h1, by omega⟩
    · have := levels_bd l _ h3 r hr
      omega
theorem sound_levels {L : List GRec} (h : soundG L = true) : ∀ r ∈ L, 0 ≤ r.lv ∧ r.lv ≤ L.length := by
  have h1 := (sound_all h).2.1
  unfold nestedG at h1
  rw [Bool.and_eq_true] at h1
  have := levels_bd L 0 (nest_levels L 0 [] (-1) h1.1)
  intro r hr
  have := this r hr
  omega

mutual
theorem recsW_V (gap : Int) : ∀ (g : GVal) (lv : Int) (nm : Bool) (name : ByteArray) (now : Int), recsW (shredV gap g lv nm name now).1 ≤ g.weight + name.size
  | .mk k b n s l ks vs, lv, nm, name, now => by
    have h1 := recsW_L gap l (lv + 1) (now + gap)
    have h2 := recsW_M gap vs ks (lv + 1) (shredL gap l (lv + 1) (now + gap)).2
    simp only [shredV, recsW, recsW_append, recW, GVal.weight]
    omega
theorem recsW_L (gap : Int) : ∀ (gs : List GVal) (lv now : Int), recsW (shredL gap gs lv now).1 ≤ GVal.weights gs
  | [], _, _ => by simp [shredL, recsW, GVal.weights]
  | g :: gs, lv, now => by
    have h1 := recsW_V gap g lv false ⟨#[]⟩ now
    have h2 := recsW_L gap gs lv (shredV gap g lv false ⟨#[]⟩ now).2
    have h3 : (⟨#[]⟩ : ByteArray).size = 0 := rfl
    simp only [shredL, recsW_append, GVal.weights]
    omega
theorem recsW_M (gap : Int) : ∀ (gs : List GVal) (ks : List ByteArray) (lv now : Int), recsW (shredM gap gs ks lv now).1 ≤ GVal.weights gs + sizes ks
  | [], _, _, _ => by simp [shredM, recsW]
  | _ :: _, [], _, _ => by simp [shredM, recsW]
  | g :: gs, k :: ks, lv, now => by
    have h1 := recsW_V gap g lv true k now
    have h2 := recsW_M gap gs ks lv (shredV gap g lv true k now).2
    simp only [shredM, recsW_append, GVal.weights, sizes]
    omega
end
theorem recsW_lift (d : Int) (ν : Int → Int) : ∀ L : List GRec, recsW (L.map (lift d ν)) = recsW L
  | [] => rfl
  | r :: l => by rw [List.map_cons, recsW, recsW, recsW_lift d ν l]; rfl
theorem laid_w (g : GVal) (top : GRec) (ν : Int → Int) : recsW (laidG g top ν) ≤ g.weight + top.name.size := by
  have h1 := recsW_V 1 g 0 false emptyS 0
  have h0 : emptyS.size = 0 := rfl
  have h2 := recsW_lift top.lv ν (shredV 1 g 0 false emptyS 0).1
  unfold laidG
  have hsv := shredV_eq 1 g 0 false emptyS 0
  rw [hsv] at h1 h2 ⊢
  dsimp only at h1 h2 ⊢
  rw [List.map_cons] at h2 ⊢
  unfold nameHd
  rw [recsW] at h1 h2 ⊢
  rw [recsW] at h2
  have e1 : recW (reName top.nm top.name (lift top.lv ν ⟨0 + 1, (shredM 1 g.vs g.ks (0 + 1) (shredL 1 g.l (0 + 1) (0 + 1)).2).2 + 1, 0, g.kind, false, emptyS, g.b, g.n, g.s⟩)) = 1 + g.s.size + g.n.dg.size + top.name.size := rfl
  have e2 : recW (lift top.lv ν ⟨0 + 1, (shredM 1 g.vs g.ks (0 + 1) (shredL 1 g.l (0 + 1) (0 + 1)).2).2 + 1, 0, g.kind, false, emptyS, g.b, g.n, g.s⟩) = 1 + g.s.size + g.n.dg.size + emptyS.size := rfl
  have e3 : recW ⟨0 + 1, (shredM 1 g.vs g.ks (0 + 1) (shredL 1 g.l (0 + 1) (0 + 1)).2).2 + 1, 0, g.kind, false, emptyS, g.b, g.n, g.s⟩ = 1 + g.s.size + g.n.dg.size + emptyS.size := rfl
  omega
theorem laid_fit {σ : Snap} {g : GVal} {r : List AT} (hr : RepV σ g r) (top : GRec) (hn : top.name.size ≤ mostLen) (ν : Int → Int) : RecsFit (laidG g top ν) := by
  have h1 := shredV_fit 1 g r 0 false emptyS 0 hr (by decide)
  unfold laidG
  generalize (shredV 1 g 0 false emptyS 0).1 = L at *
  cases L with
  | nil => intro r hr; cases hr
  | cons x l =>
    intro r hr
    rw [List.map_cons] at hr
    rcases List.mem_cons.1 hr with rfl | hr
    · have := h1 x List.mem_cons_self
      exact ⟨this.1, this.2.1, hn⟩
    · obtain ⟨q, hq, rfl⟩ := List.mem_map.1 hr
      exact h1 q (List.mem_cons_of_mem _ hq)
theorem laid_lv {g : GVal} (hw : g.wf) (top : GRec) (h0 : 0 ≤ top.lv) (ν : Int → Int) : ∀ r ∈ laidG g top ν, 0 ≤ r.lv := by
  have h1 := (shred_lay (gap := 1) (by omega) hw 0 false emptyS 0).lvb
  unfold laidG
  generalize (shredV 1 g 0 false emptyS 0).1 = L at *
  cases L with
  | nil => intro r hr; cases hr
  | cons x l =>
    intro r hr
    rw [List.map_cons] at hr
    rcases List.mem_cons.1 hr with rfl | hr
    · have := h1 x List.mem_cons_self
      show 0 ≤ x.lv + top.lv
      omega
    · obtain ⟨q, hq, rfl⟩ := List.mem_map.1 hr
      have := h1 q (List.mem_cons_of_mem _ hq)
      show 0 ≤ q.lv + top.lv
      omega
theorem fit_append {A B : List GRec} (hA : RecsFit A) (hB : RecsFit B) : RecsFit (A ++ B) := fun r hr => by
  rcases List.mem_append.1 hr with h | h
  · exact hA r h
  · exact hB r h
theorem spliced_fit {L M : List GRec} (hL : RecsFit L) (hM : RecsFit M) (fr to : Nat) : RecsFit (spliced L fr to M) := fit_append (hL.take fr) (fit_append hM (hL.drop to))
theorem recsW_take_drop (L : List GRec) (a b : Nat) (h : a ≤ b) : recsW (L.take a) + recsW (L.drop b) ≤ recsW L := by
  have e : L = L.take a ++ ((L.drop a).take (b - a) ++ L.drop b) := by
    conv => lhs; rw [← List.take_append_drop a L]
    congr 1
    conv => lhs; rw [← List.take_append_drop (b - a) (L.drop a)]
    rw [List.drop_drop, show a + (b - a) = b by omega]
  conv => rhs; rw [e]
  rw [recsW_append, recsW_append]
  omega
theorem spliced_w (L M : List GRec) (fr to : Nat) (h : fr ≤ to) : recsW (spliced L fr to M) ≤ recsW L + recsW M := by
  unfold spliced
  rw [recsW_append, recsW_append]
  have := recsW_take_drop L fr to h
  omega
theorem spliced_mem {L M : List GRec} {fr to : Nat} {r : GRec} (h : r ∈ spliced L fr to M) : r ∈ L ∨ r ∈ M := by
  unfold spliced at h
  rcases List.mem_append.1 h with h | h
  · exact .inl (List.mem_of_mem_take h)
  · rcases List.mem_append.1 h with h | h
    · exact .inr h
    · exact .inl (List.mem_of_mem_drop h)

/-- The number of the n-th record's end that is laid into a gap. -/
def gapN (g : GGap) (m n : Int) : Int := g.lo + (g.hi - g.lo).tdiv (2 * m + 1) * (n + 1)
def topG (r : GRec) (nm : Bool) (key : ByteArray) : GRec := ⟨0, 0, r.lv + 1, 0, nm, key, false, dec0, emptyS⟩
def cntS (g : GVal) : Nat := (shredV 1 g 0 false emptyS 0).1.length
/-- A value laid among a record's kids. -/
def insertG (L : List GRec) (i k : Int) (key : ByteArray) (g : GVal) : GRes :=
  if placeE L i ≠ 0 then ⟨[], 0, 0, placeE L i⟩ else
  match L[i.toNat]? with
  | none => ⟨[], 0, 0, 1⟩
  | some r =>
    if r.kd ≠ 4 ∧ r.kd ≠ 5 then ⟨[], 0, 0, 8⟩ else
    match gapG L i.toNat k with
    | none => ⟨[], 0, 0, 1⟩
    | some gp =>
      if r.kd = 5 ∧ sane g = 0 then
        if fitsE L i.toNat key ≠ 0 then ⟨[], 0, 0, fitsE L i.toNat key⟩ else runG L gp.at_.toNat gp.at_.toNat (laidG g (topG r true key) (gapN gp (cntS g))) (gp.hi - gp.lo - 1)
      else if sane g ≠ 0 then ⟨[], 0, 0, sane g⟩ else runG L gp.at_.toNat gp.at_.toNat (laidG g (topG r false emptyS) (gapN gp (cntS g))) (gp.hi - gp.lo - 1)

theorem edit_lt {g : GVal} {la : Option Addr} {lc : Nat} {ma : Option Addr} {mc : Nat} (ao : Option Addr) (n cap : Nat) (fr to : Int) (top : GRec) (room : Int) (f : FuncId) {caps : List PT} (hcap : LtAll (caps.map ptSV)) (m : Nat) : ∀ c ∈ editCells ao n cap fr to top (vCells g la lc ma mc) room f caps, c.lt m := by
  intro c hc
  unfold editCells at hc
  simp only [List.mem_append, List.mem_cons, List.not_mem_nil, or_false] at hc
  rcases hc with (rfl | rfl | rfl) | hc | hc | rfl | rfl
  · trivial
  · trivial
  · trivial
  · exact recCells_lt m top c hc
  · exact vCells_lt _ _ _ _ _ _ c hc
  · trivial
  · exact fn_lt_caps hcap m

theorem bad_ok (σ : Snap) (e : Int) : ResOk σ ⟨[], 0, 0, e⟩ (.tuple #[.slice none 0 0, .agg #[.int .i64 0, .int .i64 0], .int .i64 e]) := ⟨none, 0, rfl, SlAt.nil _ _ _ _⟩

set_option maxRecDepth 100000 in
set_option maxHeartbeats 1000000 in
theorem Insert_c (σ : Snap) (L : List GRec) (S : SndL L) (ao : Option Addr) (cap : Nat) (H : SlAt σ ao L.length cap 11 (recRows L)) (i k : Int) (key : ByteArray) (hkey : key.size ≤ mostLen) (g : GVal) (r : List AT) (hr : RepV σ g r) (hW : recsW L + g.weight + key.size ≤ 100000) :
    PureS Tryd.prog 62 [.a (.v (.slice ao L.length cap)), .a (.v (.int .i64 i)), .a (.v (.int .i64 k)), .a (.v (.string key)), .agg r] σ (fun v σ' => ResOk σ' (insertG L i k key g) v) := by
  obtain ⟨la, lc, lrows, ma, mc, vrows, rfl, V⟩ := hr.open
  have hig : insertG L i k key g = if placeE L i ≠ 0 then ⟨[], 0, 0, placeE L i⟩ else
    match L[i.toNat]? with
    | none => ⟨[], 0, 0, 1⟩
    | some r =>
      if r.kd ≠ 4 ∧ r.kd ≠ 5 then ⟨[], 0, 0, 8⟩ else
      match gapG L i.toNat k with
      | none => ⟨[], 0, 0, 1⟩
      | some gp =>
        if r.kd = 5 ∧ sane g = 0 then
          if fitsE L i.toNat key ≠ 0 then ⟨[], 0, 0, fitsE L i.toNat key⟩ else runG L gp.at_.toNat gp.at_.toNat (laidG g (topG r true key) (gapN gp (cntS g))) (gp.hi - gp.lo - 1)
        else if sane g ≠ 0 then ⟨[], 0, 0, sane g⟩ else runG L gp.at_.toNat gp.at_.toNat (laidG g (topG r false emptyS) (gapN gp (cntS g))) (gp.hi - gp.lo - 1) := rfl
  refine enter_s Tryd.func62 rfl rfl (by (repeat' (first | exact trivial | exact vCells_lt _ _ _ _ _ _ | constructor))) fun w => ?_
  (repeat (first | refine cj_seq ?_ | (refine cj_region ?_; refine oj_run TT rfl ?_) | refine oj_then ?_))
  refine oj_callP rfl rfl rfl rfl rfl Tryd.call101 (by (repeat' (first | exact trivial | constructor))) (place12_c σ L S.ok ao cap H i) fun v hv => ⟨.a (.v (.int .i64 (placeE L i))), trivial, hv.symm, ?_⟩
  refine oj_run TT rfl ?_
  (repeat (first | refine cj_seq ?_ | (refine cj_region ?_; refine oj_run TT rfl ?_) | refine oj_then ?_))
  refine cj_if rfl (fun h => ?_) (fun h => ?_)
  · have h : placeE L i ≠ 0 := by simpa using h
    rw [if_pos h] at hig
    rw [hig]
    (repeat (first | refine cj_seq ?_ | (refine cj_region ?_; refine oj_run TT rfl ?_) | refine oj_then ?_ | refine cj_ret ?_ | refine nj_then_ret ?_))
    refine nj_ret TT rfl fun β w' _ _ => ?_
    exact bad_ok _ _
  have h : placeE L i = 0 := by simpa using h
  rw [if_neg (by simp [h])] at hig
  obtain ⟨hs, hi0, hil⟩ := place_ok h
  obtain ⟨i, rfl⟩ : ∃ j : Nat, i = j := ⟨i.toNat, by omega⟩
  rw [Int.toNat_natCast] at hig
  have hi : i < L.length := by omega
  have hLi : L[i]? = some L[i] := List.getElem?_eq_getElem hi
  rw [hLi] at hig
  dsimp only at hig
  obtain ⟨hk1, hk2⟩ := S.kids hs i hi
  have hrow := recRows_get hLi
  have hlv := sound_levels hs
  have hlvi := hlv L[i] (List.getElem_mem hi)
  have hSL := S.len
  generalize L[i] = x at *
  (repeat (first | refine cj_seq ?_ | (refine cj_region ?_; refine oj_run TT rfl ?_) | refine cj_skip ?_ | refine nj_then ?_))
  refine oj_idx TT rfl rfl rfl rfl rfl rfl rfl rfl rfl H (by omega) hrow (oj_run TT rfl ?_)
  refine oj_nil ?_
  refine nj_then ?_
  refine cj_seq ?_
  refine cj_seq ?_
  refine cj_cutN (fun (_ : Unit) => σ) (fun _ => [(0, .a (.v (.slice ao L.length cap))), (1, .a (.v (.int .i64 i))), (2, .a (.v (.int .i64 k))), (3, .a (.v (.string key))), (9, .a (.p 0 0)), (11, .a (.p 1 0)), (14, .a (.v (.int .i64 x.kd))), (37, .a (.b (!decide (x.kd = 4) && !decide (x.kd = 5))))])
    (fun _ => [(0, .loc 27, vCells g la lc ma mc), (1, .loc 98, [.v (.int .i64 0), .v (.int .i64 0)])]) (fun _ => []) 2 (fun _ => True) ?_ (fun _ _ => ?_)
  · refine cj_region ?_
    refine oj_run TT rfl ?_
    refine oj_split 34 rfl (fun h => ?_) (fun h => ?_)
    · have h : (!decide (x.kd = 4)) = true := h
      refine oj_run TT rfl ?_
      (repeat refine oj_nil ?_)
      refine nj_set 37 (.a (.b (!decide (x.kd = 4) && !decide (x.kd = 5)))) rfl trivial (fun β => by rw [h, Bool.true_and]) ?_
      refine nj_again () trivial Nat.zero_lt_one rfl (by (repeat (first | exact trivial | refine And.intro rfl ?_))) (by (repeat (first | exact trivial | refine And.intro rfl ?_))) rfl (by (repeat' (first | exact trivial | exact Nat.le_of_ble_eq_true rfl | constructor))) (by (repeat' (first | exact trivial | exact Nat.le_of_ble_eq_true rfl | exact vCells_lt _ _ _ _ _ _ | refine AllLt.of ?_ | constructor)))
    · have h : (!decide (x.kd = 4)) = false := h
      refine oj_run TT rfl ?_
      (repeat refine oj_nil ?_)
      refine nj_set 37 (.a (.b (!decide (x.kd = 4) && !decide (x.kd = 5)))) rfl trivial (fun β => by rw [h, Bool.false_and]; rfl) ?_
      refine nj_again () trivial Nat.zero_lt_one rfl (by (repeat (first | exact trivial | refine And.intro rfl ?_))) (by (repeat (first | exact trivial | refine And.intro rfl ?_))) rfl (by (repeat' (first | exact trivial | exact Nat.le_of_ble_eq_true rfl | constructor))) (by (repeat' (first | exact trivial | exact Nat.le_of_ble_eq_true rfl | exact vCells_lt _ _ _ _ _ _ | refine AllLt.of ?_ | constructor)))
  skip
  refine cj_if rfl (fun h => ?_) (fun h => ?_)
  · have h1 : (!decide (x.kd = 4) && !decide (x.kd = 5)) = true := h
    rw [Bool.and_eq_true] at h1
    rw [if_pos ⟨by simpa using h1.1, by simpa using h1.2⟩] at hig
    rw [hig]
    (repeat (first | refine cj_seq ?_ | (refine cj_region ?_; refine oj_run TT rfl ?_) | refine oj_then ?_ | refine cj_ret ?_ | refine nj_then_ret ?_))
    refine nj_ret TT rfl fun β w' _ _ => ?_
    exact bad_ok _ _
  have hkd : x.kd = 4 ∨ x.kd = 5 := by
    have h1 : (!decide (x.kd = 4) && !decide (x.kd = 5)) = false := h
    rw [Bool.and_eq_false_iff] at h1
    simpa using h1
  rw [if_neg (by omega)] at hig
  have hc := find_c σ L S.ok ao cap H i hi hs S.len hk1 hk2 k
  (repeat (first | refine cj_seq ?_ | (refine cj_region ?_; refine oj_run TT rfl ?_) | refine cj_skip ?_ | refine nj_then ?_))
  cases hg : gapG L i k with
  | none =>
    rw [hg] at hig hc
    dsimp only at hig
    rw [hig]
    refine oj_callS rfl rfl rfl rfl rfl Tryd.call102 (by (repeat' (first | exact trivial | constructor))) hc fun v σ1 hle1 hv => ⟨.tup [.agg (gapCells gap0), .a .ff], (by unfold gapCells; (repeat' (first | exact trivial | refine AllLt.of ?_ | refine SV.lt_tup ?_ | constructor))), hv.symm, ?_⟩
    refine oj_run TT rfl ?_
    (repeat (first | refine cj_seq ?_ | (refine cj_region ?_; refine oj_run TT rfl ?_) | refine oj_then ?_ | refine cj_if_t rfl ?_ | refine cj_ret ?_ | refine nj_then_ret ?_))
    refine nj_ret TT rfl fun β w' _ _ => ?_
    exact bad_ok _ _
  | some gp =>
    rw [hg] at hig hc
    dsimp only at hig
    obtain ⟨n1, n2, n3, n4, n5, n6⟩ := gap_num S hs hi hg
    obtain ⟨at_, hat⟩ : ∃ j : Nat, gp.at_ = j := ⟨gp.at_.toNat, by omega⟩
    rw [hat, Int.toNat_natCast] at hig
    have hatl : at_ ≤ L.length := by omega
    refine oj_callS rfl rfl rfl rfl rfl Tryd.call102 (by (repeat' (first | exact trivial | constructor))) hc fun v σ1 hle1 hv => ⟨.tup [.agg (gapCells gp), .a .tt], (by unfold gapCells; (repeat' (first | exact trivial | refine AllLt.of ?_ | refine SV.lt_tup ?_ | constructor))), hv.symm, ?_⟩
    have H := H.mono hle1
    have V := V.monoC hle1.cle
    refine oj_run TT rfl ?_
    (repeat (first | refine cj_seq ?_ | (refine cj_region ?_; refine oj_run TT rfl ?_) | refine oj_then ?_ | refine cj_if_f rfl ?_ | refine cj_skip ?_ | refine nj_then ?_))
    refine oj_callP rfl rfl rfl rfl rfl Tryd.call20 (by (repeat' (first | exact trivial | exact vCells_lt _ _ _ _ _ _ | constructor))) (Sane_c σ1 g _ V.rep (by omega)) fun v hv => ⟨.a (.v (.int .i64 (sane g))), trivial, hv.symm, ?_⟩
    refine oj_run TT rfl ?_
    (repeat (first | refine cj_seq ?_ | (refine cj_region ?_; refine oj_run TT rfl ?_) | refine oj_then ?_))
    refine oj_idx TT rfl rfl rfl rfl rfl rfl rfl rfl rfl H (by omega) hrow (oj_run TT rfl ?_)
    refine oj_add rfl rfl rfl rfl rfl rfl (by omega) (oj_run TT rfl ?_)
    refine oj_nil ?_
    refine nj_then ?_
    refine cj_seq ?_
    refine cj_cutN (fun (s : Snap × Bool × ByteArray × Int) => s.1) (fun s => [(0, .a (.v (.slice ao L.length cap))), (9, .a (.p 0 0)), (11, .a (.p 1 0)), (15, .a (.p 2 0)), (17, .a (.v (.int .i64 s.2.2.2))), (18, .a (.p 4 0))])
      (fun s => [(0, .loc 27, vCells g la lc ma mc), (1, .loc 98, [.v (.int .i64 0), .v (.int .i64 0)]), (2, .loc 153, gapCells gp), (4, .loc 36, recCells (topG x s.2.1 s.2.2.1))]) (fun _ => []) 5
      (fun s => σ1.le s.1 ∧ ((x.kd = 5 ∧ sane g = 0 ∧ s.2.1 = true ∧ s.2.2.1 = key ∧ s.2.2.2 = fitsE L i key) ∨ (¬ (x.kd = 5 ∧ sane g = 0) ∧ s.2.1 = false ∧ s.2.2.1 = emptyS ∧ s.2.2.2 = sane g))) ?_ (fun ⟨σ2, nm, nk, e⟩ ⟨hle2, hcase⟩ => ?_)
    · (repeat (first | refine cj_seq ?_ | (refine cj_region ?_; refine oj_run TT rfl ?_)))
      refine oj_split 60 rfl (fun h => ?_) (fun h => ?_)
      rotate_left
      · have h : decide (x.kd = 5) = false := h
        have h := of_decide_eq_false h
        refine oj_run TT rfl ?_
        (repeat (first | refine oj_then ?_ | refine cj_if_f rfl ?_ | refine cj_skip ?_))
        refine nj_rowset 4 (recCells (topG x false emptyS)) rfl (fun _ => rfl) (recCells_lt _ _) ?_
        refine nj_again (σ1, false, emptyS, sane g) ⟨Snap.le_refl _, .inr ⟨fun hc => h hc.1, rfl, rfl, rfl⟩⟩ Nat.zero_lt_one rfl (by (repeat (first | exact trivial | refine And.intro rfl ?_))) (by unfold gapCells; (repeat (first | exact trivial | refine And.intro rfl ?_))) rfl (by (repeat' (first | exact trivial | exact Nat.le_of_ble_eq_true rfl | constructor))) ⟨⟨by decide, vCells_lt _ _ _ _ _ _⟩, ⟨by decide, by (repeat' (first | exact trivial | refine AllLt.of ?_ | constructor))⟩, ⟨by decide, by unfold gapCells; (repeat' (first | exact trivial | refine AllLt.of ?_ | constructor))⟩, ⟨by decide, recCells_lt _ _⟩, trivial⟩
      · have h : decide (x.kd = 5) = true := h
        have h := of_decide_eq_true h
        refine oj_run TT rfl ?_
        (repeat refine oj_then ?_)
        refine cj_if rfl (fun h2 => ?_) (fun h2 => ?_)
        rotate_left
        · have h2 := of_decide_eq_false h2
          (repeat refine cj_skip ?_)
          refine nj_rowset 4 (recCells (topG x false emptyS)) rfl (fun _ => rfl) (recCells_lt _ _) ?_
          refine nj_again (σ1, false, emptyS, sane g) ⟨Snap.le_refl _, .inr ⟨fun hc => h2 hc.2, rfl, rfl, rfl⟩⟩ Nat.zero_lt_one rfl (by (repeat (first | exact trivial | refine And.intro rfl ?_))) (by unfold gapCells; (repeat (first | exact trivial | refine And.intro rfl ?_))) rfl (by (repeat' (first | exact trivial | exact Nat.le_of_ble_eq_true rfl | constructor))) ⟨⟨by decide, vCells_lt _ _ _ _ _ _⟩, ⟨by decide, by (repeat' (first | exact trivial | refine AllLt.of ?_ | constructor))⟩, ⟨by decide, by unfold gapCells; (repeat' (first | exact trivial | refine AllLt.of ?_ | constructor))⟩, ⟨by decide, recCells_lt _ _⟩, trivial⟩
        · have h2 := of_decide_eq_true h2
          (repeat (first | refine cj_seq ?_ | (refine cj_region ?_; refine oj_run TT rfl ?_) | refine oj_then ?_))
          refine oj_callS rfl rfl rfl rfl rfl Tryd.call103 (by (repeat' (first | exact trivial | constructor))) (fits12_c σ1 L S.ok ao cap H i hi hs S.len hk1 hk2 key hkey) fun v σ2 hle2 hv => ⟨.a (.v (.int .i64 (fitsE L i key))), trivial, hv.symm, ?_⟩
          refine oj_run TT rfl ?_
          (repeat refine oj_nil ?_)
          refine nj_rowset 4 (recCells (topG x true key)) rfl (fun _ => rfl) (recCells_lt _ _) ?_
          refine nj_again (σ2, true, key, fitsE L i key) ⟨hle2, .inl ⟨h, h2, rfl, rfl, rfl⟩⟩ Nat.zero_lt_one rfl (by (repeat (first | exact trivial | refine And.intro rfl ?_))) (by unfold gapCells; (repeat (first | exact trivial | refine And.intro rfl ?_))) rfl (by (repeat' (first | exact trivial | exact Nat.le_of_ble_eq_true rfl | constructor))) ⟨⟨by decide, vCells_lt _ _ _ _ _ _⟩, ⟨by decide, by (repeat' (first | exact trivial | refine AllLt.of ?_ | constructor))⟩, ⟨by decide, by unfold gapCells; (repeat' (first | exact trivial | refine AllLt.of ?_ | constructor))⟩, ⟨by decide, recCells_lt _ _⟩, trivial⟩
    dsimp only at hle2 hcase ⊢
    have hig2 : insertG L i k key g = if e ≠ 0 then ⟨[], 0, 0, e⟩ else runG L at_ at_ (laidG g (topG x nm nk) (gapN gp (cntS g))) (gp.hi - gp.lo - 1) := by
      rw [hig]
      rcases hcase with ⟨c1, c2, rfl, rfl, rfl⟩ | ⟨c1, rfl, rfl, rfl⟩
      · rw [if_pos ⟨c1, c2⟩]
      · rw [if_neg c1]
    have hes : e = 0 → sane g = 0 := fun he => by
      rcases hcase with ⟨c1, c2, -⟩ | ⟨-, -, -, c4⟩
      · exact c2
      · omega
    have hnk : nk.size ≤ key.size := by
      rcases hcase with ⟨-, -, -, rfl, -⟩ | ⟨-, -, rfl, -⟩
      · exact Nat.le_refl _
      · exact Nat.zero_le _
    clear hig hcase
    rw [hig2]
    have H := H.mono hle2
    have V := V.monoC hle2.cle
    (repeat (first | refine cj_seq ?_ | (refine cj_region ?_; refine oj_run TT rfl ?_) | refine oj_then ?_))
    refine cj_if rfl (fun h => ?_) (fun h => ?_)
    · have h : e ≠ 0 := by simpa using h
      rw [if_pos h]
      (repeat (first | refine cj_seq ?_ | (refine cj_region ?_; refine oj_run TT rfl ?_) | refine oj_then ?_ | refine cj_ret ?_ | refine nj_then_ret ?_))
      refine nj_ret TT rfl fun β w' _ _ => ?_
      exact bad_ok _ _
    have h : e = 0 := by simpa using h
    rw [if_neg (by simp [h])]
    have hsg := hes h
    refine cj_skip ?_
    refine nj_then ?_
    refine cj_own 2 1 3 rfl (by unfold gapCells; (repeat' (first | exact trivial | refine AllLt.of ?_ | constructor))) rfl (by decide) fun gb => ?_
    refine cj_seal 0 rfl rfl fun σ3 hle3 hS => ?_
    have hcell : ∀ (j : Nat) c, (gapCells gp)[j]? = some c → σ3.cell ⟨gb, j, none⟩ = some c.val := fun j c hj => by
      rcases hS with ⟨h, _⟩ | ⟨g', h1, h2⟩
      · cases h
      · obtain rfl : gb = g' := by simpa using h1
        exact h2 j _ (by rw [List.getElem?_map, hj]; rfl)
    have c0 := hcell 0 _ rfl
    have c1 := hcell 1 _ rfl
    have c2 := hcell 2 _ rfl
    rw [hat] at c0
    have H := H.mono hle3
    have V := V.monoC hle3.cle
    (repeat (first | refine cj_seq ?_ | (refine cj_region ?_; refine oj_run TT rfl ?_)))
    refine oj_ldS (c := .v (.int .i64 at_)) TT rfl rfl rfl rfl rfl rfl rfl rfl c0 trivial (oj_run TT rfl ?_)
    refine oj_ldS (c := .v (.int .i64 at_)) TT rfl rfl rfl rfl rfl rfl rfl rfl c0 trivial (oj_run TT rfl ?_)
    refine oj_ldS (c := .v (.int .i64 gp.hi)) TT rfl rfl rfl rfl rfl rfl rfl rfl c2 trivial (oj_run TT rfl ?_)
    refine oj_ldS (c := .v (.int .i64 gp.lo)) TT rfl rfl rfl rfl rfl rfl rfl rfl c1 trivial (oj_run TT rfl ?_)
    refine oj_minus rfl rfl rfl rfl rfl rfl (by omega) (oj_run TT rfl ?_)
    refine oj_minus rfl rfl rfl rfl rfl rfl (by omega) (oj_run TT rfl ?_)
    (repeat (first | refine cj_seq ?_ | (refine cj_region ?_; refine oj_run TT rfl ?_) | refine oj_then ?_))
    have hct : cntS g = (shredV 1 g 0 false emptyS 0).1.length := rfl
    have hcw : cntS g ≤ 100000 := by rw [hct]; have := (shredV_len 1 g 0 false emptyS 0).1; omega
    have hlw := laid_w g (topG x nm nk) (gapN gp (cntS g))
    have hsw := spliced_w L (laidG g (topG x nm nk) (gapN gp (cntS g))) at_ at_ (Nat.le_refl _)
    have htn : (topG x nm nk).name.size = nk.size := rfl
    have hrc := run_c σ3 g la lc lrows ma mc vrows V (by omega) hsg L ao cap H (by omega) at_ at_ (Nat.le_refl _) hatl (topG x nm nk) ⟨by show 0 ≤ x.lv + 1; omega, by show x.lv + 1 ≤ 1000000; omega⟩ (gp.hi - gp.lo - 1) 104 [ptrTo gb] ⟨trivial, trivial⟩ Tryd.call104
      (gapN gp (cntS g)) (fun σ' hle' q h0 h1 => number12_c σ' gp gb (fun j c hj => hle'.cell (hcell j c hj)) q _ ⟨n1, n2⟩ ⟨n3, n4⟩ (by omega) (by omega))
      (spliced_fit S.ok.fit (laid_fit V.rep (topG x nm nk) (by rw [htn]; omega) _) at_ at_) (by omega) (fun q hq => by
        rcases spliced_mem hq with hq | hq
        · exact (hlv q hq).1
        · exact laid_lv V.rep.wf (topG x nm nk) (by show 0 ≤ x.lv + 1; omega) _ q hq)
    have hlt := edit_lt (g := g) (la := la) (lc := lc) (ma := ma) (mc := mc) ao L.length cap (at_ : Int) (at_ : Int) (topG x nm nk) (gp.hi - gp.lo - 1) 104 (caps := [ptrTo gb]) ⟨trivial, trivial⟩ 0
    generalize runG L at_ at_ (laidG g (topG x nm nk) (gapN gp (cntS g))) (gp.hi - gp.lo - 1) = R at *
    refine oj_callS (ys := [.agg (editCells ao L.length cap (at_ : Int) (at_ : Int) (topG x nm nk) (vCells g la lc ma mc) (gp.hi - gp.lo - 1) 104 [ptrTo gb])]) rfl rfl rfl rfl rfl Tryd.call105 ⟨hlt, trivial⟩ hrc fun v σ4 hle4 ⟨bo, bc, hv, HR⟩ => ⟨.tup [.a (.v (.slice bo R.l.length bc)), .agg [.v (.int .i64 R.laid), .v (.int .i64 R.moved)], .a (.v (.int .i64 R.e))], (by (repeat' (first | exact trivial | refine AllLt.of ?_ | refine SV.lt_tup ?_ | constructor))), hv.symm, ?_⟩
    refine oj_run TT rfl ?_
    (repeat (first | refine oj_then ?_ | refine cj_ret ?_))
    refine nj_ret TT rfl fun β w' _ _ => ?_
    exact ⟨bo, bc, rfl, HR⟩
end Go.Sy
namespace Go.Sy
open Go.Proofs

/-! ### awake -/

def oneS : ByteArray := ⟨#[49]⟩
def oneG : GVal := .mk 2 false ⟨false, oneS, 0⟩ emptyS [] [] []
def arrG : GVal := .mk 4 false dec0 emptyS [oneG] [] []
def arrL : List GRec := [⟨10, 40, 0, 4, false, emptyS, false, dec0, emptyS⟩, ⟨20, 30, 1, 2, false, emptyS, false, ⟨false, oneS, 0⟩, emptyS⟩]
def arrM : List GRec := [⟨10, 40, 0, 4, false, emptyS, false, dec0, emptyS⟩, ⟨20, 30, 1, 2, false, emptyS, false, ⟨false, oneS, 0⟩, emptyS⟩, ⟨33, 36, 1, 2, false, emptyS, false, ⟨false, oneS, 0⟩, emptyS⟩]
theorem ar_shred : shredG arrG 10 = (arrL, 0) := by decide
theorem ar_ins : insertG arrL 0 1 emptyS oneG = ⟨arrM, 1, 0, 0⟩ := by
  kernel_rfl
theorem ar_room : roomG arrL 0 1 = 9 := by decide
theorem ar_ok : RecsOk arrL := ⟨by decide, fun r hr => by simp only [arrL, List.mem_cons, List.not_mem_nil, or_false] at hr; rcases hr with rfl | rfl <;> exact ⟨by decide, by decide, by decide⟩, fun _ => by decide⟩
theorem ar_snd : SndL arrL := ⟨ar_ok, by decide, fun _ => by decide, fun _ => by decide⟩

set_option maxRecDepth 100000 in
set_option maxHeartbeats 1000000 in
theorem awake12_c (σ : Snap) : PureS Tryd.prog 60 [] σ (fun v _ => v = .bool true) := by
  refine enter_s Tryd.func60 rfl rfl (by (repeat' exact trivial)) fun w => ?_
  have hrep0 : ∀ σ' : Snap, RepV σ' oneG (vCells oneG none 0 none 0) := fun σ' => by
    simp only [oneG, RepV]
    exact ⟨none, 0, [], none, 0, [], rfl, SlAt.nil _ _ _ _, rfl, rfl, SlAt.nil _ _ _ _, rfl, by decide, by decide, by decide, by decide, fun k h => (by cases h)⟩
  (repeat (first | refine cj_seq ?_ | (refine cj_region ?_; refine oj_run TT rfl ?_) | refine oj_then ?_))
  refine oj_own 1 1 8 rfl (by (repeat' (first | exact trivial | refine AllLt.of ?_ | constructor))) rfl (by decide) fun g1 => ?_
  refine oj_seal 0 rfl rfl rfl fun σ1 hle1 hS => ?_
  have H1 : SlAt σ1 (some ⟨g1, 0, none⟩) 1 1 8 [vCells oneG none 0 none 0] := hS.sl (rows := [vCells oneG none 0 none 0]) rfl (fun r hr => by rw [List.mem_singleton.1 hr]; exact ⟨rfl, vCells_lt _ _ _ _ _ _⟩) rfl rfl (Nat.le_refl _)
  have hrep : RepV σ1 arrG (vCells arrG (some ⟨g1, 0, none⟩) 1 none 0) := by
    simp only [arrG, RepV]
    exact ⟨some ⟨g1, 0, none⟩, 1, _, none, 0, [], rfl, H1, ⟨_, _, rfl, hrep0 σ1, rfl⟩, rfl, SlAt.nil _ _ _ _, rfl, by decide, by decide, by decide, by decide, fun k h => (by cases h)⟩
  refine oj_set 12 (.agg (vCells arrG (some ⟨g1, 0, none⟩) 1 none 0)) rfl (vCells_lt _ _ _ _ _ _) (fun _ => rfl) ?_
  refine oj_callS rfl rfl rfl rfl rfl Tryd.call21 ⟨vCells_lt _ _ _ _ _ _, trivial, trivial⟩ (Shred_s σ1 arrG _ 10 hrep (by decide)) fun v σ2 hle2 ⟨ao, cap, hv, H⟩ => ⟨.tup [.a (.v (.slice ao 2 cap)), .a (.v (.int .i64 0))], (by (repeat' (first | exact trivial | refine SV.lt_tup ?_ | constructor))), (by rw [hv, ar_shred]; rfl), ?_⟩
  rw [ar_shred] at H
  have H : SlAt σ2 ao 2 cap 11 (recRows arrL) := H
  refine oj_run TT rfl ?_
  (repeat (first | refine cj_seq ?_ | (refine cj_region ?_; refine oj_run TT rfl ?_) | refine oj_then ?_))
  refine oj_set 18 (.agg (vCells oneG none 0 none 0)) rfl (vCells_lt _ _ _ _ _ _) (fun _ => rfl) ?_
  have hins := Insert_c σ2 arrL ar_snd ao cap H 0 1 emptyS (by decide) oneG _ (hrep0 σ2) (by decide)
  rw [ar_ins] at hins
  refine oj_callS rfl rfl rfl rfl rfl Tryd.call62 ⟨trivial, trivial, trivial, trivial, vCells_lt _ _ _ _ _ _, trivial⟩ hins fun v σ3 hle3 ⟨bo, bc, hv, HM⟩ => ⟨.tup [.a (.v (.slice bo 3 bc)), .agg [.v (.int .i64 1), .v (.int .i64 0)], .a (.v (.int .i64 0))], (by (repeat' (first | exact trivial | refine AllLt.of ?_ | refine SV.lt_tup ?_ | constructor))), hv.symm, ?_⟩
  have H := H.mono hle3
  have HM : SlAt σ3 bo 3 bc 11 (recRows arrM) := HM
  refine oj_run TT rfl ?_
  (repeat (first | refine cj_seq ?_ | (refine cj_region ?_; refine oj_run TT rfl ?_) | refine oj_then ?_))
  refine oj_split 25 rfl (fun h => ?_) (fun h => absurd h (by decide))
  refine oj_run TT rfl ?_
  refine oj_split 29 rfl (fun h => ?_) (fun h => absurd h (by decide))
  refine oj_run TT rfl ?_
  refine oj_split 34 rfl (fun h => ?_) (fun h => absurd h (by decide))
  refine oj_run TT rfl ?_
  refine oj_idx TT rfl rfl rfl rfl rfl rfl rfl rfl rfl HM (by decide) (show (recRows arrM)[(2 : Int).toNat]? = some (recCells arrM[2]) from rfl) (oj_run TT rfl ?_)
  refine oj_split 41 rfl (fun h => ?_) (fun h => absurd h (by decide))
  refine oj_run TT rfl ?_
  refine oj_idx TT rfl rfl rfl rfl rfl rfl rfl rfl rfl HM (by decide) (show (recRows arrM)[(2 : Int).toNat]? = some (recCells arrM[2]) from rfl) (oj_run TT rfl ?_)
  refine oj_split 48 rfl (fun h => ?_) (fun h => absurd h (by decide))
  refine oj_run TT rfl ?_
  refine oj_split 53 rfl (fun h => ?_) (fun h => absurd h (by decide))
  refine oj_run TT rfl ?_
  refine oj_split 58 rfl (fun h => ?_) (fun h => absurd h (by decide))
  refine oj_run TT rfl ?_
  refine oj_callS rfl rfl rfl rfl rfl Tryd.call61 (by (repeat' (first | exact trivial | constructor))) (Room_c σ3 arrL ar_snd ao cap H 0 1) fun v σ4 hle4 hv => ⟨.a (.v (.int .i64 9)), trivial, (by rw [hv, ar_room]; rfl), ?_⟩
  refine oj_run TT rfl ?_
  (repeat (first | refine oj_then ?_ | refine cj_ret ?_))
  refine nj_ret TT rfl fun β w' _ _ => ?_
  rfl
end Go.Sy
/- Plain law: the gaps of a shred. No program in sight. -/
namespace Go.Sy

theorem cntI_take_succ {xs : List Itm} {m : Nat} {x : Itm} (h : xs[m]? = some x) : cntI (xs.take (m + 1)) = cntI (xs.take m) + cntV x.v := by
  have hm := (List.getElem?_eq_some_iff.1 h).1
  have hx := (List.getElem?_eq_some_iff.1 h).2
  unfold cntI
  rw [List.take_succ_eq_append_getElem hm, hx, valsI_append, cntL_append]
  rfl
theorem wI_take_succ {gap : Int} {xs : List Itm} {m : Nat} {x : Itm} (h : xs[m]? = some x) : wI gap (xs.take (m + 1)) = wI gap (xs.take m) + wV gap x.v := by
  have hm := (List.getElem?_eq_some_iff.1 h).1
  have hx := (List.getElem?_eq_some_iff.1 h).2
  unfold wI
  rw [List.take_succ_eq_append_getElem hm, hx, valsI_append, wL_append]
  show _ = _ + wV gap x.v
  congr 1
  show wV gap x.v + wL gap [] = _
  rw [wL]
  omega

theorem kid_pos {gap : Int} (hg : 0 < gap) {L : List GRec} {h : GVal} {p : Nat} {now : Int} {pre : List GStep} (hl : Loc gap L h p now pre) : (kidsG L p).length = (its h).length ∧ ∀ (m : Nat) (x : Itm), (its h)[m]? = some x → (kidsG L p)[m]? = some (p + 1 + cntI ((its h).take m)) := by
  have hk := hl.kids hg
  have hv := vals_its hl.wf
  have hlen : (its h).length = (h.l ++ h.vs).length := by rw [← hv]; simp [valsI]
  have hpl : ∀ (gs : List GVal) (p : Nat), (pos gs p).length = gs.length := by
    intro gs
    induction gs with
    | nil => intro _; rfl
    | cons g gs ih => intro p; rw [pos, List.length_cons, List.length_cons, ih]
  rw [hk]
  refine ⟨by rw [hpl, hlen], fun m x hx => ?_⟩
  have hm := (List.getElem?_eq_some_iff.1 hx).1
  rw [pos_get _ _ _ (by omega)]
  congr 2
  rw [← hv]
  unfold cntI valsI
  rw [List.map_take]

/-- THE GAPS OF A SHRED: behind each kid as much is free. -/
theorem gap_loc {gap : Int} (hg : 0 < gap) {L : List GRec} {h : GVal} {p : Nat} {now : Int} {pre : List GStep} (hl : Loc gap L h p now pre) {k : Nat} (hk : k ≤ (its h).length) :
    gapG L p k = some ⟨((p + 1 + cntI ((its h).take k) : Nat) : Int), now + gap + wI gap ((its h).take k), now + gap + wI gap ((its h).take k) + gap⟩ := by
  obtain ⟨hkl, hkp⟩ := kid_pos hg hl
  unfold gapG
  rw [hkl, if_neg (by omega), Int.toNat_natCast]
  unfold gapK
  rw [hkl]
  have hwe := wI_its (gap := gap) hl.wf
  obtain ⟨nm, name, hrec⟩ := hl.rec_
  have h0 : wI gap ([] : List Itm) = 0 := rfl
  have hc0 : cntI [] = 0 := rfl
  congr 1
  have hhi : (if k < (its h).length then stAt L ((kidsG L p).getD k 0) else enAt L p) = now + gap + wI gap ((its h).take k) + gap := by
    by_cases hlt : k < (its h).length
    · rw [if_pos hlt]
      have hx : (its h)[k]? = some (its h)[k] := List.getElem?_eq_getElem hlt
      rw [getD_get (hkp k _ hx)]
      obtain ⟨hlx, -⟩ := hl.kid hg hx
      obtain ⟨nm', name', hr⟩ := hlx.rec_
      rw [st_at hr]
    · rw [if_neg hlt, en_at hrec]
      have : (its h).take k = its h := List.take_of_length_le (by omega)
      rw [this]
      show now + wV gap h = _
      omega
  cases k with
  | zero =>
    rw [hhi, if_neg (by omega), if_neg (by omega), st_at hrec, List.take_zero, h0, hc0]
    show (⟨_, now + gap, _⟩ : GGap) = _
    congr 1 <;> omega
  | succ k =>
    have hx : (its h)[k]? = some ((its h)[k]'(by omega)) := List.getElem?_eq_getElem _
    obtain ⟨hlx, -⟩ := hl.kid hg hx
    obtain ⟨nm', name', hr⟩ := hlx.rec_
    have hla := hlx.last hg
    have hc := cntI_take_succ hx
    have hw := wI_take_succ (gap := gap) hx
    have hcp := cntV_pos ((its h)[k]'(by omega)).v
    rw [hhi, if_pos (by omega), if_pos (by omega), show k + 1 - 1 = k by omega, getD_get (hkp k _ hx), en_at hr, hla, hc, hw]
    show (⟨_, _ + wV gap _, _⟩ : GGap) = _
    congr 1 <;> omega
end Go.Sy
namespace Go.Sy
open Go.Proofs

/-! ### What a shred is for changes -/

theorem kidsF_bd (L : List GRec) (en : Int) : ∀ (n k : Nat), (∀ j ∈ kidsF L en n k, j < L.length) ∧ (kidsF L en n k).length ≤ n
  | 0, _ => ⟨fun j h => (by simp [kidsF] at h), Nat.le_refl _⟩
  | n + 1, k => by
    unfold kidsF
    split
    · rename_i hk
      split
      · obtain ⟨h1, h2⟩ := kidsF_bd L en n (runK L L[k].en (k + 1))
        refine ⟨fun j hj => ?_, by rw [List.length_cons]; omega⟩
        rcases List.mem_cons.1 hj with rfl | hj
        · exact hk
        · exact h1 j hj
      · exact ⟨fun j h => (by cases h), Nat.zero_le _⟩
    · exact ⟨fun j h => (by cases h), Nat.zero_le _⟩
theorem kidsG_bd (L : List GRec) (i : Nat) : (∀ j ∈ kidsG L i, j < L.length) ∧ (kidsG L i).length ≤ L.length := kidsF_bd L _ _ _

theorem shred_snd {σ : Snap} {g : GVal} {r : List AT} (hr : RepV σ g r) {gap : Int} (hg : 1 ≤ gap) (hg2 : gap ≤ 1000) (hw : g.weight ≤ 4000) (hs : sane g = 0) {L : List GRec} (hL : L = (shredV gap g 0 false emptyS 0).1) : SndL L := by
  obtain ⟨-, h2, -, -, R, -⟩ := shred_facts hr hg hg2 hw hs hL
  refine ⟨R, by omega, fun _ i _ => ⟨(kidsG_bd L i).1, by have := (kidsG_bd L i).2; omega⟩, fun _ q hq => ?_⟩
  have hnow := shredV_now (gap := gap) g 0 false emptyS 0 (by omega) hg2
  have hbd := (shredV_bd (gap := gap) (by omega) g 0 false emptyS 0).2
  subst hL
  have := hbd q hq
  omega

theorem Sub.regap {gap gap' : Int} {g : GVal} {p : Nat} {now : Int} {P : List GStep} {h : GVal} {q : Nat} {now' : Int} (hs : Sub gap g p now P h q now') : ∀ now0, ∃ now1, Sub gap' g p now0 P h q now1 := by
  induction hs with
  | refl g p now => exact fun now0 => ⟨now0, .refl g p now0⟩
  | @step g p now m x P h q now' hx hs ih =>
    intro now0
    obtain ⟨now1, h1⟩ := ih (now0 + gap' + wI gap' ((its g).take m))
    exact ⟨now1, .step hx h1⟩

end Go.Sy
/- Plain law: a value that is laid again and again ahead of all others. No program in sight. -/
namespace Go.Sy

/-! ### Lists that lie as a value's records -/

theorem LayI.lo_up {xs : List Itm} {lv lo hi : Int} {K : List GRec} (h : LayI xs lv lo K hi) {r : GRec} (hr : K.head? = some r) : LayI xs lv (r.st - 1) K hi := by
  cases h with
  | nil h => cases hr
  | cons a b =>
    cases a with
    | mk h1 h2 h3 h4 =>
      rw [List.cons_append, List.head?_cons, Option.some.injEq] at hr
      subst hr
      exact .cons (.mk (by dsimp only; omega) h2 h3 h4) b
theorem LayI.nil_of {xs : List Itm} {lv lo hi : Int} (h : LayI xs lv lo [] hi) : xs = [] := by
  cases xs with
  | nil => rfl
  | cons x xs =>
    generalize hK : ([] : List GRec) = K at h
    cases h with
    | cons a b => cases a with | mk h1 h2 h3 h4 => cases hK

/-- No text is longer than the value weighs. -/
theorem its_name_w {g : GVal} {x : Itm} (hx : x ∈ its g) : x.name.size ≤ g.weight := by
  rcases List.mem_append.1 hx with hm | hm
  · obtain ⟨y, _, rfl⟩ := List.mem_map.1 hm
    exact Nat.zero_le _
  · obtain ⟨m, hm'⟩ := List.mem_iff_getElem?.1 hm
    have h1 := size_mem (List.mem_of_getElem? (itsM_get _ _ _ _ hm').2.1)
    rw [g.weight_eq]
    omega
mutual
theorem LayV.fitc : ∀ {g : GVal} {lv : Int} {nm : Bool} {name : ByteArray} {lo hi : Int} {L : List GRec}, LayV g lv nm name lo L hi → ∀ {c : Nat}, g.wf → g.weight ≤ c → name.size ≤ c → ∀ r ∈ L, r.n.dg.size ≤ c ∧ r.s.size ≤ c ∧ r.name.size ≤ c
  | g, _, _, _, _, _, _, .mk h1 h2 h3 h4, c, hw, hg, hn => by
    intro r hr
    have he := g.weight_eq
    rcases List.mem_cons.1 hr with rfl | hr
    · exact ⟨by dsimp only; omega, by dsimp only; omega, hn⟩
    · exact h2.fitc (fun x hx => ⟨its_wf hw hx, by have := in_weight (its_mem hw hx); omega, by have := its_name_w hx; omega⟩) r hr
theorem LayI.fitc : ∀ {xs : List Itm} {lv lo hi : Int} {L : List GRec}, LayI xs lv lo L hi → ∀ {c : Nat}, (∀ x ∈ xs, x.v.wf ∧ x.v.weight ≤ c ∧ x.name.size ≤ c) → ∀ r ∈ L, r.n.dg.size ≤ c ∧ r.s.size ≤ c ∧ r.name.size ≤ c
  | _, _, _, _, _, .nil h, _, _ => fun r hr => by cases hr
  | x :: xs, _, _, _, _, .cons h1 h2, c, hx => by
    intro r hr
    have h0 := hx x List.mem_cons_self
    rcases List.mem_append.1 hr with hr | hr
    · exact h1.fitc h0.1 h0.2.1 h0.2.2 r hr
    · exact h2.fitc (fun y hy => hx y (List.mem_cons_of_mem _ hy)) r hr
end
theorem LayV.fit {g : GVal} {lo hi : Int} {L : List GRec} (h : LayV g 0 false emptyS lo L hi) (hw : g.wf) (hg : g.weight ≤ mostLen) : RecsFit L := h.fitc hw hg (Nat.zero_le _)
theorem lay_sound {g : GVal} {lo hi : Int} {L : List GRec} (h : LayV g 0 false emptyS lo L hi) (h0 : -1 ≤ lo) (hw : g.wf) (hs : sane g = 0) (hl : L.length ≤ 4096) (hen : hi ≤ 1099511627776) : soundG L = true := by
  unfold soundG
  rw [h.buildR h0 hw hs hl hen]
  rfl
theorem lay_snd {g : GVal} {lo hi : Int} {L : List GRec} (h : LayV g 0 false emptyS lo L hi) (h0 : -1 ≤ lo) (hw : g.wf) (hl : L.length ≤ 4096) (hen : hi ≤ 1099511627776) (hgw : g.weight ≤ 100000) : SndL L := by
  have hF := h.fit hw (by simp only [mostLen]; omega)
  have hbd := h.bd
  refine ⟨⟨by simp only [mostLen]; omega, hF, fun _ => ?_⟩, by omega, fun _ i _ => ⟨(kidsG_bd L i).1, by have := (kidsG_bd L i).2; omega⟩, fun _ r hr => ?_⟩
  · rw [h.built hw]
    show g.weight ≤ _
    omega
  · have := hbd r hr
    omega
theorem sound_place {L : List GRec} (h : soundG L = true) {i : Nat} (hi : i < L.length) : placeE L i = 0 := by
  unfold placeE
  rw [if_neg (by rw [h]; decide), if_neg (by omega)]

/-! ### A list of truths -/

def bG (b : Bool) : GVal := .mk 1 b dec0 emptyS [] [] []
def manyG (bs : List Bool) : GVal := .mk 4 false dec0 emptyS (bs.map bG) [] []

end Go.Sy
/- Plain laws: records that are laid among a value's. No program in sight. -/
namespace Go.Sy

/-! ### Levels and names -/

def upLv (d : Int) (r : GRec) : GRec := ⟨r.st, r.en, r.lv + d, r.kd, r.nm, r.name, r.b, r.n, r.s⟩

mutual
theorem LayV.lift : ∀ {g : GVal} {lv : Int} {nm : Bool} {name : ByteArray} {lo hi : Int} {L : List GRec}, LayV g lv nm name lo L hi → ∀ d : Int, LayV g (lv + d) nm name lo (L.map (upLv d)) hi
  | _, lv, _, _, _, _, _, .mk h1 h2 h3 h4, d => by
    have h := h2.lift d
    rw [show lv + 1 + d = lv + d + 1 by omega] at h
    exact .mk h1 h h3 h4
theorem LayI.lift : ∀ {xs : List Itm} {lv lo hi : Int} {L : List GRec}, LayI xs lv lo L hi → ∀ d : Int, LayI xs (lv + d) lo (L.map (upLv d)) hi
  | _, _, _, _, _, .nil h, d => .nil h
  | _, _, _, _, _, .cons h1 h2, d => by
    rw [List.map_append]
    exact .cons (h1.lift d) (h2.lift d)
end
theorem LayV.renamed {g : GVal} {lv : Int} {nm : Bool} {name : ByteArray} {lo hi : Int} {L : List GRec} (h : LayV g lv nm name lo L hi) (nm' : Bool) (name' : ByteArray) : LayV g lv nm' name' lo (nameHd nm' name' L) hi := by
  cases h with
  | mk h1 h2 h3 h4 => exact .mk h1 h2 h3 h4

theorem wV1 {g : GVal} (hw : g.wf) : wV 1 g = 2 * (cntV g : Int) := by
  have h1 := (shredV_len 1 g 0 false emptyS 0).2
  have h2 := (shredV_sk 1 g 0 false emptyS 0 hw).2
  have h3 := shredV_cnt 1 g 0 false emptyS 0 hw
  rw [h3] at h1
  omega
theorem wVg {g : GVal} (hw : g.wf) (gap : Int) : wV gap g = 2 * gap * (cntV g : Int) := by
  have h1 := (shredV_len gap g 0 false emptyS 0).2
  have h2 := (shredV_sk gap g 0 false emptyS 0 hw).2
  have h3 := shredV_cnt gap g 0 false emptyS 0 hw
  rw [h3] at h1
  omega
theorem cntS_eq {g : GVal} (hw : g.wf) : cntS g = cntV g := shredV_cnt 1 g 0 false emptyS 0 hw

/-- WHAT IS LAID LIES THERE, whatever numbers it has, as long as these go up. -/
theorem laid_lay {g : GVal} (hw : g.wf) (top : GRec) (ν φ : Int → Int) (hφ : Incr φ) (he : ∀ n : Int, 1 ≤ n → n ≤ 2 * (cntV g : Int) → ν (n - 1) = φ n) :
    LayV g top.lv top.nm top.name (φ 0) (laidG g top ν) (φ (2 * (cntV g : Int))) := by
  have h := shred_lay (gap := 1) (by omega) hw 0 false emptyS 0
  have hb := h.bd
  have h1 := h.map hφ (Int.le_refl _)
  have h2 := (h1.lift top.lv).renamed top.nm top.name
  rw [List.map_map, Int.zero_add, Int.zero_add, wV1 hw] at h2
  unfold laidG
  have hm : (shredV 1 g 0 false emptyS 0).1.map (lift top.lv ν) = (shredV 1 g 0 false emptyS 0).1.map (upLv top.lv ∘ stE φ) := by
    refine List.map_congr_left fun r hr => ?_
    have hr := hb r hr
    rw [wV1 hw] at hr
    unfold lift upLv stE
    dsimp only [Function.comp]
    rw [he r.st (by omega) (by omega), he r.en (by omega) (by omega)]
  rw [hm]
  exact h2

/-- What is laid is the value's records, but for numbers. -/
theorem laid_er {g : GVal} (hw : g.wf) (top : GRec) (ν : Int → Int) (gap now : Int) : (laidG g top ν).map er = (shredV gap g top.lv top.nm top.name now).1.map er := by
  have h2 := (laid_lay hw top (fun n => n + 1) (fun n => n) (fun a b _ h => h) (fun n _ _ => by omega)).er_eq hw gap now
  rw [← h2]
  unfold laidG
  have : ∀ (nm : Bool) (name : ByteArray) (l : List GRec) (f f' : GRec → GRec), (∀ r, er (f r) = er (f' r)) → (nameHd nm name (l.map f)).map er = (nameHd nm name (l.map f')).map er := by
    intro nm name l f f' hf
    cases l with
    | nil => rfl
    | cons r l =>
      show er (Go.Sy.reName nm name (f r)) :: (l.map f).map er = er (Go.Sy.reName nm name (f' r)) :: (l.map f').map er
      have e1 : ∀ q : GRec, er (Go.Sy.reName nm name q) = Go.Sy.reName nm name (er q) := fun q => rfl
      rw [e1, e1, hf r, List.map_map, List.map_map]
      congr 1
      exact List.map_congr_left fun q _ => hf q
  exact this _ _ _ _ _ fun r => rfl
theorem laid_len {g : GVal} (hw : g.wf) (top : GRec) (ν : Int → Int) : (laidG g top ν).length = cntV g := by
  unfold laidG
  rw [nameHd_len, List.length_map]
  exact shredV_cnt 1 g 0 false emptyS 0 hw

/-! ### Sane values -/

mutual
/-- May a value, so many deep, be, but for how many there are? -/
def okAtV : GVal → Int → Prop
  | .mk k b n s l ks vs, deep => fieldsG (.mk k b n s l ks vs) = true ∧ twiceG ks = false ∧ ¬ (4 ≤ k ∧ 64 ≤ deep) ∧ okAtL l (deep + 1) ∧ okAtL vs (deep + 1)
def okAtL : List GVal → Int → Prop
  | [], _ => True
  | g :: gs, deep => okAtV g deep ∧ okAtL gs deep
end
theorem okAtV_eq (g : GVal) (deep : Int) : okAtV g deep ↔ fieldsG g = true ∧ twiceG g.ks = false ∧ ¬ (4 ≤ g.kind ∧ 64 ≤ deep) ∧ okAtL g.l (deep + 1) ∧ okAtL g.vs (deep + 1) := by
  cases g
  simp only [okAtV, GVal.ks, GVal.kind, GVal.l, GVal.vs]
theorem okAtL_mem : ∀ {gs : List GVal} {deep : Int}, okAtL gs deep ↔ ∀ g ∈ gs, okAtV g deep
  | [], _ => ⟨fun _ g h => (by cases h), fun _ => trivial⟩
  | g :: gs, deep => by
    simp only [okAtL, List.mem_cons, forall_eq_or_imp, okAtL_mem (gs := gs)]

mutual
theorem sane_ok : ∀ (g : GVal) (deep c : Int), (saneG g deep c).1 = 0 → okAtV g deep ∧ (saneG g deep c).2 = c + cntV g ∧ c + cntV g ≤ 4096
  | .mk k b n s l ks vs, deep, c, h => by
    simp only [saneG] at h ⊢
    split at h
    · simp at h
    rename_i h1
    split at h
    · simp at h
    rename_i h2
    split at h
    · simp at h
    rename_i h3
    split at h
    · simp at h
    rename_i h4
    rw [if_neg h1, if_neg h2, if_neg h3, if_neg h4]
    have hl : (saneL l deep (c + 1)).1 = 0 := by
      by_cases h0 : (saneL l deep (c + 1)).1 = 0
      · exact h0
      · rw [if_pos h0] at h; exact h
    rw [if_neg (by simp [hl])] at h ⊢
    obtain ⟨a1, a2, a3⟩ := saneL_ok l deep (c + 1) (by omega) hl
    rw [a2] at h ⊢
    obtain ⟨b1, b2, b3⟩ := saneL_ok vs deep _ a3 h
    simp only [okAtV, cntV]
    refine ⟨⟨by simpa using h1, by simpa using h2, h3, a1, b1⟩, by rw [b2]; omega, by omega⟩
theorem saneL_ok : ∀ (gs : List GVal) (deep c : Int), c ≤ 4096 → (saneL gs deep c).1 = 0 → okAtL gs (deep + 1) ∧ (saneL gs deep c).2 = c + cntL gs ∧ c + cntL gs ≤ 4096
  | [], _, c, hc, _ => ⟨trivial, by simp [saneL, cntL], by simp [cntL]; omega⟩
  | g :: gs, deep, c, hc, h => by
    simp only [saneL] at h ⊢
    have hg : (saneG g (deep + 1) c).1 = 0 := by
      by_cases h0 : (saneG g (deep + 1) c).1 = 0
      · exact h0
      · rw [if_pos h0] at h; exact h
    rw [if_neg (by simp [hg])] at h ⊢
    obtain ⟨a1, a2, a3⟩ := sane_ok g (deep + 1) c hg
    rw [a2] at h ⊢
    obtain ⟨b1, b2, b3⟩ := saneL_ok gs deep _ a3 h
    simp only [okAtL, cntL]
    exact ⟨⟨a1, b1⟩, by rw [b2]; omega, by omega⟩
end
mutual
theorem ok_sane : ∀ (g : GVal) (deep c : Int), okAtV g deep → c + cntV g ≤ 4096 → saneG g deep c = (0, c + cntV g)
  | .mk k b n s l ks vs, deep, c, h, hc => by
    simp only [okAtV, cntV] at h hc
    obtain ⟨h1, h2, h3, h4, h5⟩ := h
    simp only [saneG]
    rw [if_neg (by rw [h1]; decide), if_neg (by rw [h2]; decide), if_neg h3, if_neg (by omega), okL_sane l deep (c + 1) h4 (by omega)]
    rw [if_neg (fun h => h rfl), okL_sane vs deep _ h5 (by omega)]
    simp only [cntV]
    congr 1
    omega
theorem okL_sane : ∀ (gs : List GVal) (deep c : Int), okAtL gs (deep + 1) → c + cntL gs ≤ 4096 → saneL gs deep c = (0, c + cntL gs)
  | [], _, c, _, _ => by simp [saneL, cntL]
  | g :: gs, deep, c, h, hc => by
    simp only [okAtL, cntL] at h hc
    rw [saneL, ok_sane g (deep + 1) c h.1 (by omega), if_neg (fun h => h rfl), okL_sane gs deep _ h.2 (by omega)]
    simp only [cntL]
    congr 1
    omega
end
theorem sane_iff {g : GVal} : sane g = 0 ↔ okAtV g 0 ∧ cntV g ≤ 4096 := by
  unfold sane
  constructor
  · intro h
    obtain ⟨h1, -, h3⟩ := sane_ok g 0 0 h
    exact ⟨h1, by omega⟩
  · intro ⟨h1, h2⟩
    rw [ok_sane g 0 0 h1 (by omega)]

/-! ### A value with another one laid in it -/

def insIt (h : GVal) (k : Nat) (key : ByteArray) (x : GVal) : GVal :=
  if h.kind = 4 then .mk h.kind h.b h.n h.s (h.l.take k ++ x :: h.l.drop k) [] [] else .mk h.kind h.b h.n h.s [] (h.ks.take k ++ key :: h.ks.drop k) (h.vs.take k ++ x :: h.vs.drop k)
theorem insIt_kind (h : GVal) (k : Nat) (key : ByteArray) (x : GVal) : (insIt h k key x).kind = h.kind ∧ (insIt h k key x).b = h.b ∧ (insIt h k key x).n = h.n ∧ (insIt h k key x).s = h.s := by
  unfold insIt
  split <;> exact ⟨rfl, rfl, rfl, rfl⟩
theorem itsM_ins : ∀ (vs : List GVal) (ks : List ByteArray) (k : Nat) (key : ByteArray) (x : GVal), ks.length = vs.length → itsM (vs.take k ++ x :: vs.drop k) (ks.take k ++ key :: ks.drop k) = (itsM vs ks).take k ++ ⟨true, key, x⟩ :: (itsM vs ks).drop k
  | [], [], k, key, x, _ => by simp [itsM]
  | v :: vs, q :: ks, 0, key, x, _ => by simp [itsM]
  | v :: vs, q :: ks, k + 1, key, x, h => by
    simp only [List.take_succ_cons, List.drop_succ_cons, List.cons_append, itsM]
    rw [itsM_ins vs ks k key x (by simpa using h)]
  | [], _ :: _, _, _, _, h => by simp at h
  | _ :: _, [], _, _, _, h => by simp at h
theorem kinds_4 {h : GVal} (hd : kinds h) (hw : h.wf) (hk : h.kind = 4) : h.ks = [] ∧ h.vs = [] := by
  obtain ⟨-, k5, -, -⟩ := (kinds_eq h).1 hd
  have h0 : h.ks = [] := by
    cases hks : h.ks with
    | nil => rfl
    | cons a l =>
      have := k5 (by rw [hks]; simp)
      omega
  have := ((wf_eq h).1 hw).1
  rw [h0] at this
  exact ⟨h0, List.eq_nil_of_length_eq_zero this.symm⟩
theorem kinds_5 {h : GVal} (hd : kinds h) (hk : h.kind = 5) : h.l = [] := by
  obtain ⟨k4, -, -, -⟩ := (kinds_eq h).1 hd
  cases hl : h.l with
  | nil => rfl
  | cons a l =>
    have := k4 (by rw [hl]; simp)
    omega
theorem its_ins {h : GVal} (hw : h.wf) (hd : kinds h) (hk : h.kind = 4 ∨ h.kind = 5) (k : Nat) (key : ByteArray) (x : GVal) :
    its (insIt h k key x) = (its h).take k ++ ⟨decide (h.kind = 5), if h.kind = 5 then key else emptyS, x⟩ :: (its h).drop k := by
  unfold insIt
  by_cases h4 : h.kind = 4
  · obtain ⟨e1, e2⟩ := kinds_4 hd hw h4
    rw [if_pos h4, if_neg (by omega), decide_eq_false (by omega)]
    unfold its
    rw [e1, e2]
    show itsL (h.l.take k ++ x :: h.l.drop k) ++ [] = (itsL h.l ++ []).take k ++ _ :: (itsL h.l ++ []).drop k
    rw [List.append_nil, List.append_nil]
    unfold itsL
    rw [List.map_append, List.map_cons, List.map_take, List.map_drop]
  · have h5 : h.kind = 5 := by omega
    rw [if_neg h4, if_pos h5, decide_eq_true h5]
    unfold its
    rw [kinds_5 hd h5]
    exact itsM_ins _ _ _ _ _ ((wf_eq h).1 hw).1
theorem insIt_wf {h x : GVal} (hw : h.wf) (hx : x.wf) (k : Nat) (key : ByteArray) : (insIt h k key x).wf := by
  obtain ⟨h1, h2, h3⟩ := (wf_eq h).1 hw
  have split : ∀ l : List GVal, GVal.wfs l → GVal.wfs (l.take k ++ x :: l.drop k) := fun l hl => by
    rw [← List.take_append_drop k l, wfs_append] at hl
    rw [wfs_append]
    exact ⟨hl.1, hx, hl.2⟩
  unfold insIt
  split
  · rw [wf_eq]
    exact ⟨rfl, split _ h2, trivial⟩
  · rw [wf_eq]
    refine ⟨?_, trivial, split _ h3⟩
    show (h.ks.take k ++ key :: h.ks.drop k).length = (h.vs.take k ++ x :: h.vs.drop k).length
    simp only [List.length_append, List.length_cons, List.length_take, List.length_drop, h1]
theorem insIt_weight (h x : GVal) (k : Nat) (key : ByteArray) : (insIt h k key x).weight ≤ h.weight + x.weight + key.size := by
  have hs : ∀ l : List GVal, GVal.weights (l.take k ++ x :: l.drop k) = GVal.weights l + x.weight := fun l => by
    have := weights_append (l.take k) (l.drop k)
    rw [List.take_append_drop] at this
    rw [weights_append, GVal.weights]
    omega
  have hz : ∀ l : List ByteArray, sizes (l.take k ++ key :: l.drop k) = sizes l + key.size := fun l => by
    have := sizes_append (l.take k) (l.drop k)
    rw [List.take_append_drop] at this
    rw [sizes_append, sizes]
    omega
  have e0 := GVal.weight_eq h
  unfold insIt
  split
  · have e1 := GVal.weight_eq (.mk h.kind h.b h.n h.s (h.l.take k ++ x :: h.l.drop k) [] [])
    simp only [GVal.s, GVal.n, GVal.l, GVal.ks, GVal.vs, hs, sizes, GVal.weights] at e0 e1 ⊢
    omega
  · have e1 := GVal.weight_eq (.mk h.kind h.b h.n h.s [] (h.ks.take k ++ key :: h.ks.drop k) (h.vs.take k ++ x :: h.vs.drop k))
    simp only [GVal.s, GVal.n, GVal.l, GVal.ks, GVal.vs, hs, hz, GVal.weights] at e0 e1 ⊢
    omega

theorem setIt_weight {g x : GVal} {m : Nat} {y : Itm} (v : GVal) (h : (its g)[m]? = some y) (hx : y.v = x) : (setIt g m v).weight + x.weight = g.weight + v.weight := by
  have hs : ∀ (l : List GVal) (i : Nat), l[i]? = some x → GVal.weights (l.set i v) + x.weight = GVal.weights l + v.weight := by
    intro l
    induction l with
    | nil => intro i hi; simp at hi
    | cons z l ih =>
      intro i hi
      cases i with
      | zero =>
        simp only [List.getElem?_cons_zero, Option.some.injEq] at hi
        subst hi
        simp only [List.set_cons_zero, GVal.weights]
        omega
      | succ i =>
        have := ih i (by simpa using hi)
        simp only [List.set_cons_succ, GVal.weights]
        omega
  have e0 := GVal.weight_eq g
  unfold setIt
  rcases its_split h with ⟨-, h2, h3⟩ | ⟨-, h2, -, h4⟩
  · rw [if_pos h2]
    have e1 := GVal.weight_eq (.mk g.kind g.b g.n g.s (g.l.set m v) g.ks g.vs)
    have := hs g.l m (by rw [h3, hx])
    simp only [GVal.s, GVal.n, GVal.l, GVal.ks, GVal.vs] at e0 e1 this ⊢
    omega
  · rw [if_neg (by omega)]
    have e1 := GVal.weight_eq (.mk g.kind g.b g.n g.s g.l g.ks (g.vs.set (m - g.l.length) v))
    have := hs g.vs (m - g.l.length) (by rw [h4, hx])
    simp only [GVal.s, GVal.n, GVal.l, GVal.ks, GVal.vs] at e0 e1 this ⊢
    omega
theorem Swap.weight {g g' : GVal} {P : List GStep} {h h' : GVal} (hs : Swap g g' P h h') : g'.weight + h.weight = g.weight + h'.weight := by
  induction hs with
  | refl => omega
  | @step g v' m x P h h' hx hs ih =>
    have := setIt_weight v' hx rfl
    omega

/-- One value's records, with another's among them. -/
theorem ins_lay {h h' : GVal} {k : Nat} {x : Itm} (hits : its h' = (its h).take k ++ x :: (its h).drop k) (hk : h'.kind = h.kind ∧ h'.b = h.b ∧ h'.n = h.n ∧ h'.s = h.s)
    {lv st en lo m1 m2 m3 hi : Int} {nm : Bool} {name : ByteArray} {A X B : List GRec} (h1 : lo < st) (hA : LayI ((its h).take k) (lv + 1) st A m1) (hX : LayV x.v (lv + 1) x.nm x.name m1 X m2) (hB : LayI ((its h).drop k) (lv + 1) m2 B m3) (h3 : m3 < en) (h4 : en ≤ hi) :
    LayV h' lv nm name lo (⟨st, en, lv, h.kind, nm, name, h.b, h.n, h.s⟩ :: (A ++ (X ++ B))) hi := by
  obtain ⟨e1, e2, e3, e4⟩ := hk
  have hI := hA.append (.cons hX hB)
  rw [← hits] at hI
  have := LayV.mk (nm := nm) (name := name) h1 hI h3 h4
  rw [e1, e2, e3, e4] at this
  exact this
/-- A shred in two halves, behind its k-th kid. -/
theorem shred_half {gap : Int} {h : GVal} (hw : h.wf) (k : Nat) (lv : Int) (nm : Bool) (name : ByteArray) (now : Int) :
    (shredV gap h lv nm name now).1 = ⟨now + gap, now + wV gap h, lv, h.kind, nm, name, h.b, h.n, h.s⟩ :: ((shredI gap ((its h).take k) (lv + 1) (now + gap)).1 ++ (shredI gap ((its h).drop k) (lv + 1) (now + gap + wI gap ((its h).take k))).1) ∧
    (shredI gap ((its h).take k) (lv + 1) (now + gap)).1.length = cntI ((its h).take k) ∧ GVal.wfs (valsI ((its h).take k)) ∧ GVal.wfs (valsI ((its h).drop k)) ∧ wV gap h = gap + (wI gap ((its h).take k) + wI gap ((its h).drop k)) + gap := by
  have hwi := wfs_its hw
  have hsp := (List.take_append_drop k (its h)).symm
  have hwt : GVal.wfs (valsI ((its h).take k)) ∧ GVal.wfs (valsI ((its h).drop k)) := by
    rw [hsp, valsI_append, wfs_append] at hwi
    exact hwi
  have hsk := shredI_sk gap ((its h).take k) (lv + 1) (now + gap) hwt.1
  refine ⟨?_, ?_, hwt.1, hwt.2, ?_⟩
  · rw [shredV_its gap h lv nm name now hw]
    congr 1
    conv => lhs; rw [hsp]
    rw [shredI_append, hsk.2]
    rfl
  · have := congrArg List.length hsk.1
    rw [List.length_map, skL_len] at this
    exact this
  · rw [wI_its (gap := gap) hw]
    conv => lhs; rw [hsp]
    unfold wI
    rw [valsI_append, wL_append]
end Go.Sy
/- Plain law: what is laid among a shred's records is there. No program in sight. -/
namespace Go.Sy

theorem Swap.det {g g1 : GVal} {P : List GStep} {h h' : GVal} (hs : Swap g g1 P h h') : g.wf → keysOk g → ∀ {g2 h2 : GVal}, Swap g g2 P h2 h' → g1 = g2 := by
  induction hs with
  | refl h h' =>
    intro _ _ g2 h2 h
    cases h
    rfl
  | @step g v' m x P h h' hx hs ih =>
    intro hw hk g2 h2 ht
    generalize hQ : stepOf m x :: P = Q at ht
    cases ht with
    | refl => cases hQ
    | @step _ w' n y Q' _ _ hy ht =>
      obtain ⟨e1, e2⟩ := List.cons.inj hQ
      have hmn := stepOf_inj hk hx hy e1
      subst hmn
      obtain rfl : x = y := by rw [hx] at hy; exact Option.some.inj hy
      subst e2
      have hm := List.mem_of_getElem? hx
      rw [ih (its_wf hw hm) (its_keys hw hk hm) ht]

theorem er_parts {A B A' B' : List GRec} (h : (A ++ B).map er = (A' ++ B').map er) (hl : A.length = A'.length) : A.map er = A'.map er ∧ B.map er = B'.map er := by
  rw [List.map_append, List.map_append] at h
  exact List.append_inj h (by rw [List.length_map, List.length_map, hl])
theorem shredV_er {g : GVal} (hw : g.wf) (gap gap' : Int) (hg : 0 < gap) (lv : Int) (nm : Bool) (name : ByteArray) (now now' : Int) : (shredV gap g lv nm name now).1.map er = (shredV gap' g lv nm name now').1.map er :=
  (shred_lay hg hw lv nm name now).er_eq hw gap' now'

/-- What lies in a place gives way; the records are a value's again, whatever their numbers, and lie so, if these fit. -/
theorem swap_all {gap : Int} (hg : 0 < gap) {g : GVal} (hw : g.wf) (hk : keysOk g) {P : List GStep} {h : GVal} {q : Nat} {now' : Int} (hs : Sub gap g 0 0 P h q now') {h' : GVal} (hw' : h'.wf) :
    ∃ g', Swap g g' P h h' ∧ ∃ pre post nm' name', (shredV gap g 0 false emptyS 0).1 = pre ++ ((shredV gap h P.length nm' name' now').1 ++ post) ∧ q = pre.length ∧
      (∀ H' : List GRec, LayV h' P.length nm' name' now' H' (now' + wV gap h) → LayV g' 0 false emptyS 0 (pre ++ (H' ++ post)) (wV gap g)) ∧
      (∀ H' : List GRec, H'.map er = (shredV 1 h' P.length nm' name' 0).1.map er → (pre ++ (H' ++ post)).map er = (shredV 1 g' 0 false emptyS 0).1.map er) := by
  obtain ⟨g', hsw, hd⟩ := hs.swap hg h' hw
  obtain ⟨pre, post, nm', name', h1, h2, -, h4⟩ := hd 0 false emptyS
  rw [Int.zero_add, Int.zero_add] at h4
  rw [Int.zero_add] at h1
  rw [Nat.zero_add] at h2
  refine ⟨g', hsw, pre, post, nm', name', h1, h2, h4, fun H' hH => ?_⟩
  have hc' := cntV_pos h'
  have hc := cntV_pos h
  obtain ⟨now2, hs2⟩ := Sub.regap (gap' := (cntV h' : Int)) hs 0
  obtain ⟨g2, hsw2, hd2⟩ := hs2.swap (by omega) h' hw
  obtain ⟨pre2, post2, nm2, name2, k1, k2, -, k4⟩ := hd2 0 false emptyS
  rw [Int.zero_add, Int.zero_add] at k4
  rw [Int.zero_add] at k1
  rw [Nat.zero_add] at k2
  obtain rfl := hsw.det hw hk hsw2
  have hwh := (sub_bd hg hs hw).1
  have hee := shredV_er hw gap (cntV h' : Int) hg 0 false emptyS 0 0
  rw [h1, k1] at hee
  obtain ⟨e1, e2⟩ := er_parts hee (by omega)
  have hl1 := shredV_cnt gap h P.length nm' name' now' hwh
  have hl2 := shredV_cnt (cntV h' : Int) h P.length nm2 name2 now2 hwh
  obtain ⟨e3, e4⟩ := er_parts e2 (by rw [hl1, hl2])
  rw [shredV_its _ _ _ _ _ _ hwh, shredV_its _ _ _ _ _ _ hwh, List.map_cons, List.map_cons] at e3
  have e5 := (List.cons.inj e3).1
  have e6 := congrArg GRec.nm e5
  have e7 := congrArg GRec.name e5
  have e6 : nm' = nm2 := e6
  have e7 : name' = name2 := e7
  subst e6 e7
  have hlay := shred_lay (gap := 1) (by omega) hw' P.length nm' name' now2
  have hwle : wV 1 h' ≤ wV (cntV h' : Int) h := by
    rw [wV1 hw', wVg hwh]
    have e : (2 * (cntV h' : Int)) * 1 ≤ 2 * (cntV h' : Int) * (cntV h : Int) := Int.mul_le_mul_of_nonneg_left (by omega) (by omega)
    omega
  have hG := k4 _ (hlay.up (Int.le_refl _) (by omega))
  rw [← hG.er_eq (hsw.wf hw hw') 1 0]
  simp only [List.map_append]
  rw [e1, e4, hH, shredV_er hw' 1 1 (by omega) P.length nm' name' 0 now2]

/-- Numbers go up from record to record. -/
theorem LayI.sorted_aux {A B : List GRec} {m : Int} (hA : A.Pairwise fun r s => r.st < s.st) (hB : B.Pairwise fun r s => r.st < s.st) (h1 : ∀ r ∈ A, r.st ≤ m) (h2 : ∀ r ∈ B, m < r.st) : (A ++ B).Pairwise fun r s : GRec => r.st < s.st :=
  List.pairwise_append.2 ⟨hA, hB, fun r hr s hs => by have := h1 r hr; have := h2 s hs; omega⟩
mutual
theorem LayV.sorted : ∀ {g : GVal} {lv : Int} {nm : Bool} {name : ByteArray} {lo hi : Int} {L : List GRec}, LayV g lv nm name lo L hi → L.Pairwise fun r s => r.st < s.st
  | _, _, _, _, _, _, _, .mk h1 h2 h3 h4 => List.pairwise_cons.2 ⟨fun r hr => (h2.bd r hr).1, h2.sorted⟩
theorem LayI.sorted : ∀ {xs : List Itm} {lv lo hi : Int} {L : List GRec}, LayI xs lv lo L hi → L.Pairwise fun r s => r.st < s.st
  | _, _, _, _, _, .nil h => List.Pairwise.nil
  | _, _, _, _, _, .cons (mid := mid) h1 h2 => LayI.sorted_aux (m := mid) h1.sorted h2.sorted (fun r hr => by have := h1.bd r hr; omega) (fun r hr => by have := h2.bd r hr; omega)
end

/-- Numbers that are laid into a gap go up. -/
theorem gapN_incr (lo step : Int) (h : 1 ≤ step) : Incr fun n => lo + step * n := fun a b ha hab => by
  dsimp only
  have : step * a < step * b := Int.mul_lt_mul_of_pos_left hab (by omega)
  omega

structure InsOk (gap : Int) (g : GVal) (L : List GRec) (a : Nat) (k : Int) (key : ByteArray) (x : GVal) (R : GRes) (P : List GStep) (h g' : GVal) (kk : Nat) : Prop where
  ek : k = kk
  ekk : kk ≤ (its h).length
  kind : h.kind = 4 ∨ h.kind = 5
  swap : Swap g g' P h (insIt h kk key x)
  wf : g'.wf
  sane : Go.Sy.sane g' = 0
  laid : R.laid = cntV x
  room : roomG L a k = gap - 1
  res : (gap - 1 < 2 * (cntV x : Int) ∧ R.moved = L.length ∧ R.l = (shredV 8 g' 0 false emptyS 0).1) ∨
    (2 * (cntV x : Int) ≤ gap - 1 ∧ R.moved = 0 ∧ LayV g' 0 false emptyS 0 R.l (wV gap g) ∧ ∃ (at_ : Nat) (M : List GRec) , a < at_ ∧ at_ ≤ L.length ∧ M.length = cntV x ∧ R.l = L.take at_ ++ (M ++ L.drop at_) ∧ lastG R.l at_ = at_ + cntV x - 1)

theorem insert_law {g : GVal} (hw : g.wf) (hk : keysOk g) (hd : kinds g) (hs : Go.Sy.sane g = 0) {gap : Int} (hg : 1 ≤ gap) (hg2 : gap ≤ 1000) {L : List GRec} (hL : L = (shredV gap g 0 false emptyS 0).1) (hsnd : soundG L = true) {a : Nat} (ha : a < L.length) (k : Int) (key : ByteArray) {x : GVal} (hx : x.wf)
    {P : List GStep} {h : GVal} {now : Int} (hsub : Sub gap g 0 0 P h a now) (hloc : Loc gap L h a now P) :
    ((insertG L a k key x).e ≠ 0 → (insertG L a k key x).l = []) ∧ ((insertG L a k key x).e = 0 → ∃ g' kk, InsOk gap g L a k key x (insertG L a k key x) P h g' kk) := by
  have hpl : placeE L a = 0 := sound_place hsnd ha
  obtain ⟨nm, name, hrec⟩ := hloc.rec_
  obtain ⟨hkl, -⟩ := kid_pos (by omega) hloc
  have hwh := hloc.wf
  have hdh : kinds h := by
    have : ∀ {g : GVal} {p : Nat} {now : Int} {P : List GStep} {h : GVal} {q : Nat} {now' : Int}, Sub gap g p now P h q now' → g.wf → kinds g → kinds h := by
      intro g p now P h q now' hs
      induction hs with
      | refl => exact fun _ h => h
      | @step g p now m x P h q now' hx hs ih => exact fun hw hd => ih (its_wf hw (List.mem_of_getElem? hx)) (its_kinds hw hd (List.mem_of_getElem? hx))
    exact this hsub hw hd
  generalize hRdef : insertG L a k key x = R
  have hig : insertG L a k key x =
      if h.kind ≠ 4 ∧ h.kind ≠ 5 then ⟨[], 0, 0, 8⟩ else
      match gapG L a k with
      | none => ⟨[], 0, 0, 1⟩
      | some gp =>
        if h.kind = 5 ∧ sane x = 0 then
          if fitsE L a key ≠ 0 then ⟨[], 0, 0, fitsE L a key⟩ else runG L gp.at_.toNat gp.at_.toNat (laidG x ⟨0, 0, (P.length : Int) + 1, 0, true, key, false, dec0, emptyS⟩ (gapN gp (cntS x))) (gp.hi - gp.lo - 1)
        else if sane x ≠ 0 then ⟨[], 0, 0, sane x⟩ else runG L gp.at_.toNat gp.at_.toNat (laidG x ⟨0, 0, (P.length : Int) + 1, 0, false, emptyS, false, dec0, emptyS⟩ (gapN gp (cntS x))) (gp.hi - gp.lo - 1) := by
    unfold insertG
    rw [if_neg (by rw [hpl]; decide), Int.toNat_natCast, hrec]
    rfl
  rw [hRdef] at hig
  by_cases hkd : h.kind ≠ 4 ∧ h.kind ≠ 5
  · rw [if_pos hkd] at hig
    rw [hig]
    exact ⟨fun _ => rfl, fun h => absurd h (by decide)⟩
  rw [if_neg hkd] at hig
  have hkd : h.kind = 4 ∨ h.kind = 5 := by omega
  by_cases hkr : k < 0 ∨ ((its h).length : Int) < k
  · have : gapG L a k = none := by unfold gapG; rw [hkl, if_pos hkr]
    rw [this] at hig
    dsimp only at hig
    rw [hig]
    exact ⟨fun _ => rfl, fun h => absurd h (by decide)⟩
  obtain ⟨kk, rfl⟩ : ∃ j : Nat, k = j := ⟨k.toNat, by omega⟩
  have hkk : kk ≤ (its h).length := by omega
  rw [gap_loc (by omega) hloc hkk] at hig
  dsimp only at hig
  have hroom : roomG L a kk = gap - 1 := by
    unfold roomG
    rw [if_neg (by rw [hpl]; decide), Int.toNat_natCast, gap_loc (by omega) hloc hkk]
    dsimp only
    omega
  -- what is laid, named or not
  have hcase : (R.e ≠ 0 ∧ R.l = []) ∨ R = runG L (a + 1 + cntI ((its h).take kk)) (a + 1 + cntI ((its h).take kk)) (laidG x ⟨0, 0, (P.length : Int) + 1, 0, decide (h.kind = 5), if h.kind = 5 then key else emptyS, false, dec0, emptyS⟩ (gapN ⟨((a + 1 + cntI ((its h).take kk) : Nat) : Int), now + gap + wI gap ((its h).take kk), now + gap + wI gap ((its h).take kk) + gap⟩ (cntS x))) (gap - 1) := by
    rw [Int.toNat_natCast, show now + gap + wI gap ((its h).take kk) + gap - (now + gap + wI gap ((its h).take kk)) - 1 = gap - 1 by omega] at hig
    by_cases h5 : h.kind = 5
    · rw [if_pos h5, decide_eq_true h5]
      by_cases hsx : sane x = 0
      · rw [if_pos ⟨h5, hsx⟩] at hig
        by_cases hf : fitsE L a key ≠ 0
        · rw [if_pos hf] at hig
          rw [hig]
          exact .inl ⟨hf, rfl⟩
        · rw [if_neg hf] at hig
          exact .inr hig
      · rw [if_neg (fun hc => hsx hc.2), if_pos hsx] at hig
        rw [hig]
        exact .inl ⟨hsx, rfl⟩
    · rw [if_neg h5, decide_eq_false h5]
      rw [if_neg (fun hc => h5 hc.1)] at hig
      by_cases hsx : sane x ≠ 0
      · rw [if_pos hsx] at hig
        rw [hig]
        exact .inl ⟨hsx, rfl⟩
      · rw [if_neg hsx] at hig
        exact .inr hig
  rcases hcase with ⟨c1, c2⟩ | hR
  · exact ⟨fun _ => c2, fun h0 => absurd h0 c1⟩
  generalize hlaid : laidG x ⟨0, 0, (P.length : Int) + 1, 0, decide (h.kind = 5), if h.kind = 5 then key else emptyS, false, dec0, emptyS⟩ (gapN ⟨((a + 1 + cntI ((its h).take kk) : Nat) : Int), now + gap + wI gap ((its h).take kk), now + gap + wI gap ((its h).take kk) + gap⟩ (cntS x)) = M at hR
  have hMl : M.length = cntV x := by rw [← hlaid]; exact laid_len hx _ _
  -- the records, in parts
  obtain ⟨s1, s2, s3, s4, s5⟩ := shred_half (gap := gap) hwh kk P.length nm name now
  have hwi := insIt_wf hwh hx kk key
  obtain ⟨g', hsw, pre, post, nm', name', p1, p2, p3, p4⟩ := swap_all (by omega) hw hk hsub hwi
  have hits := its_ins hwh hdh hkd kk key x
  have hki := insIt_kind h kk key x
  obtain ⟨s1', s2', -, -, -⟩ := shred_half (gap := gap) hwh kk P.length nm' name' now
  generalize hA : (shredI gap ((its h).take kk) ((P.length : Int) + 1) (now + gap)).1 = A at *
  generalize hB : (shredI gap ((its h).drop kk) ((P.length : Int) + 1) (now + gap + wI gap ((its h).take kk))).1 = B at *
  have hsp : spliced L (a + 1 + cntI ((its h).take kk)) (a + 1 + cntI ((its h).take kk)) M = pre ++ ((⟨now + gap, now + wV gap h, P.length, h.kind, nm', name', h.b, h.n, h.s⟩ :: (A ++ (M ++ B))) ++ post) := by
    have e : L = (pre ++ ⟨now + gap, now + wV gap h, P.length, h.kind, nm', name', h.b, h.n, h.s⟩ :: A) ++ (B ++ post) := by
      rw [hL, p1, s1']
      simp only [List.cons_append, List.append_assoc]
    have el : (pre ++ ⟨now + gap, now + wV gap h, P.length, h.kind, nm', name', h.b, h.n, h.s⟩ :: A).length = a + 1 + cntI ((its h).take kk) := by
      rw [List.length_append, List.length_cons, s2, p2]
      omega
    unfold spliced
    rw [e, ← el, List.take_left, List.drop_left]
    simp only [List.cons_append, List.append_assoc]
  -- alike but for numbers
  have her : (spliced L (a + 1 + cntI ((its h).take kk)) (a + 1 + cntI ((its h).take kk)) M).map er = (shredV 1 g' 0 false emptyS 0).1.map er := by
    rw [hsp]
    refine p4 _ ?_
    rw [shredV_its 1 _ _ _ _ _ hwi, hits, shredI_append, shredI]
    dsimp only
    rw [List.map_cons, List.map_cons, List.map_append, List.map_append, List.map_append, List.map_append, hki.1, hki.2.1, hki.2.2.1, hki.2.2.2]
    have eA : A.map er = (shredI 1 ((its h).take kk) ((P.length : Int) + 1) (0 + 1)).1.map er := by
      rw [← hA]
      exact (shredI_lay' (gap := gap) (by omega) s3 _ _).er_eq s3 1 _
    have eB : ∀ n, B.map er = (shredI 1 ((its h).drop kk) ((P.length : Int) + 1) n).1.map er := fun n => by
      rw [← hB]
      exact (shredI_lay' (gap := gap) (by omega) s4 _ _).er_eq s4 1 n
    have eM : ∀ n, M.map er = (shredV 1 x ((P.length : Int) + 1) (decide (h.kind = 5)) (if h.kind = 5 then key else emptyS) n).1.map er := fun n => by
      rw [← hlaid]
      exact laid_er hx _ _ 1 n
    rw [eA, eB, eM]
    rfl
  have hwg' := hsw.wf hw hwi
  have hanew : anewG (spliced L (a + 1 + cntI ((its h).take kk)) (a + 1 + cntI ((its h).take kk)) M) = shredG g' 8 := by
    unfold anewG
    rw [tree_renum hwg' her]
  have hLl := congrArg List.length hsp
  unfold runG at hR
  rw [hanew] at hR
  by_cases hsg : sane g' ≠ 0
  · have : (shredG g' 8).2 = sane g' := by unfold shredG; rw [if_neg (by omega), if_pos hsg]
    rw [this, if_pos hsg] at hR
    rw [hR]
    exact ⟨fun _ => rfl, fun h0 => absurd h0 hsg⟩
  have hsg : sane g' = 0 := by omega
  rw [shredG_ok (by omega) (by omega) hsg] at hR
  dsimp only at hR
  rw [if_neg (by decide), hMl] at hR
  by_cases hc : gap - 1 < 2 * (cntV x : Int)
  · rw [if_pos hc] at hR
    rw [hR]
    refine ⟨fun h0 => absurd rfl h0, fun _ => ⟨g', kk, rfl, hkk, hkd, hsw, hwg', hsg, rfl, hroom, .inl ⟨hc, ?_, rfl⟩⟩⟩
    dsimp only
    omega
  rw [if_neg hc] at hR
  rw [hR]
  refine ⟨fun h0 => absurd rfl h0, fun _ => ⟨g', kk, rfl, hkk, hkd, hsw, hwg', hsg, rfl, hroom, .inr ⟨by omega, rfl, ?_⟩⟩⟩
  -- there is room
  have hcx := cntV_pos x
  have hstep : 1 ≤ gap.tdiv (2 * (cntV x : Int) + 1) ∧ gap.tdiv (2 * (cntV x : Int) + 1) * (2 * (cntV x : Int) + 1) ≤ gap := by
    rw [Int.tdiv_eq_ediv_of_nonneg (by omega)]
    refine ⟨?_, Int.ediv_mul_le gap (by omega)⟩
    exact Int.le_ediv_of_mul_le (by omega) (by omega)
  have hMlay : LayV x ((P.length : Int) + 1) (decide (h.kind = 5)) (if h.kind = 5 then key else emptyS) (now + gap + wI gap ((its h).take kk)) M (now + gap + wI gap ((its h).take kk) + gap - 1) := by
    have h0 := laid_lay hx ⟨0, 0, (P.length : Int) + 1, 0, decide (h.kind = 5), if h.kind = 5 then key else emptyS, false, dec0, emptyS⟩ (gapN ⟨((a + 1 + cntI ((its h).take kk) : Nat) : Int), now + gap + wI gap ((its h).take kk), now + gap + wI gap ((its h).take kk) + gap⟩ (cntS x))
      (fun n => now + gap + wI gap ((its h).take kk) + gap.tdiv (2 * (cntV x : Int) + 1) * n) (gapN_incr _ _ hstep.1) (fun n _ _ => by
        unfold gapN
        dsimp only
        rw [cntS_eq hx, show now + gap + wI gap ((its h).take kk) + gap - (now + gap + wI gap ((its h).take kk)) = gap by omega, show n - 1 + 1 = n by omega])
    rw [hlaid] at h0
    refine h0.up (by omega) ?_
    have : gap.tdiv (2 * (cntV x : Int) + 1) * (2 * (cntV x : Int)) + gap.tdiv (2 * (cntV x : Int) + 1) = gap.tdiv (2 * (cntV x : Int) + 1) * (2 * (cntV x : Int) + 1) := by rw [Int.mul_add, Int.mul_one]
    omega
  have hAlay := shredI_lay' (gap := gap) (by omega) s3 ((P.length : Int) + 1) (now + gap)
  have hBlay := shredI_lay' (gap := gap) (by omega) s4 ((P.length : Int) + 1) (now + gap + wI gap ((its h).take kk))
  rw [hA] at hAlay
  rw [hB] at hBlay
  have hBlay2 : ∃ m3, m3 < now + wV gap h ∧ LayI ((its h).drop kk) ((P.length : Int) + 1) (now + gap + wI gap ((its h).take kk) + gap - 1) B m3 := by
    cases hBd : B with
    | nil =>
      rw [hBd] at hBlay
      rw [hBlay.nil_of]
      have := wI_nn (gap := gap) (by omega) ((its h).drop kk)
      exact ⟨now + wV gap h - 1, by omega, .nil (by omega)⟩
    | cons r B' =>
      rw [← hBd]
      have hst : r.st = now + gap + wI gap ((its h).take kk) + gap := by
        cases hxs : (its h).drop kk with
        | nil =>
          rw [hxs] at hB
          rw [← hB] at hBd
          cases hBd
        | cons y ys =>
          rw [hxs] at hB
          have hy : y.v.wf := by
            have := s4
            rw [hxs] at this
            exact this.1
          rw [shredI, shredV_its _ _ _ _ _ _ hy, hBd] at hB
          have := (List.cons.inj hB).1
          rw [← this]
      refine ⟨_, ?_, (hBlay.lo_up (r := r) (by rw [hBd]; rfl)).up (by omega) (Int.le_refl _)⟩
      omega
  obtain ⟨m3, hm3, hBlay2⟩ := hBlay2
  have hIns := ins_lay (h := h) (h' := insIt h kk key x) (nm := nm') (name := name') (lo := now) (hi := now + wV gap h) hits hki (by omega) hAlay hMlay hBlay2 hm3 (Int.le_refl _)
  have hG := p3 _ hIns
  rw [← hsp] at hG
  have hatl : a + 1 + cntI ((its h).take kk) ≤ L.length := by
    have e : L = (pre ++ ⟨now + gap, now + wV gap h, P.length, h.kind, nm', name', h.b, h.n, h.s⟩ :: A) ++ (B ++ post) := by
      rw [hL, p1, s1']
      simp only [List.cons_append, List.append_assoc]
    rw [e]
    simp only [List.length_append, List.length_cons]
    rw [s2, p2]
    omega
  refine ⟨hG, a + 1 + cntI ((its h).take kk), M, by omega, hatl, hMl, rfl, ?_⟩
  -- the last of what was laid
  have hbB := hBlay2.bd
  have hrun : ∀ (r : GRec) (M' : List GRec), M = r :: M' → lastG (spliced L (a + 1 + cntI ((its h).take kk)) (a + 1 + cntI ((its h).take kk)) M) (a + 1 + cntI ((its h).take kk)) = ((a + 1 + cntI ((its h).take kk) : Nat) : Int) + cntV x - 1 := by
    intro r M' hM
    have hMs := hMlay
    rw [hM] at hMs
    have hsrt := hG.sorted
    have hbd := hG.bd
    unfold spliced at hsrt hbd ⊢
    have htl : (L.take (a + 1 + cntI ((its h).take kk))).length = a + 1 + cntI ((its h).take kk) := List.length_take_of_le hatl
    generalize L.take (a + 1 + cntI ((its h).take kk)) = T at *
    have hD : ∀ q, (L.drop (a + 1 + cntI ((its h).take kk))).head? = some q → now + gap + wI gap ((its h).take kk) + gap - 1 < q.st := by
      intro q hq
      have e : L = (pre ++ ⟨now + gap, now + wV gap h, P.length, h.kind, nm', name', h.b, h.n, h.s⟩ :: A) ++ (B ++ post) := by
        rw [hL, p1, s1']
        simp only [List.cons_append, List.append_assoc]
      have el : (pre ++ ⟨now + gap, now + wV gap h, P.length, h.kind, nm', name', h.b, h.n, h.s⟩ :: A).length = a + 1 + cntI ((its h).take kk) := by
        rw [List.length_append, List.length_cons, s2, p2]
        omega
      rw [e, ← el, List.drop_left] at hq
      cases hB2 : B with
      | cons r2 B2 =>
        rw [hB2, List.cons_append, List.head?_cons, Option.some.injEq] at hq
        subst hq
        have := hbB r2 (by rw [hB2]; exact List.mem_cons_self)
        omega
      | nil =>
        rw [hB2, List.nil_append] at hq
        obtain ⟨nm3, name3, rest, r1, r2⟩ := hloc.at_
        have r2 := r2 (se q)
        rw [hL, p1, p2, List.drop_left] at r1
        have hl1 := shredV_cnt gap h P.length nm' name' now hwh
        have hl2 := shredV_cnt gap h P.length nm3 name3 now hwh
        have := (List.append_inj r1 (by rw [hl1, hl2])).2
        rw [← this, List.head?_map, hq] at r2
        have := r2 rfl
        have e9 : (se q).1 = q.st := rfl
        have := wI_nn (gap := gap) (by omega) ((its h).drop kk)
        omega
    unfold lastG runK
    rw [List.getElem?_append_right (by omega), htl, Nat.sub_self, hM, List.cons_append]
    dsimp only [List.getElem?_cons_zero, Option.map_some, Option.getD_some]
    rw [show a + 1 + cntI ((its h).take kk) + 1 = (T ++ [r]).length by rw [List.length_append, htl]; rfl]
    rw [show T ++ r :: (M' ++ L.drop (a + 1 + cntI ((its h).take kk))) = (T ++ [r]) ++ (M' ++ L.drop (a + 1 + cntI ((its h).take kk))) by simp, List.drop_left]
    have hrb : r.en ≤ now + gap + wI gap ((its h).take kk) + gap - 1 ∧ ∀ q ∈ M', q.st < r.en := by
      cases hMs with
      | mk c1 c2 c3 c4 => exact ⟨c4, fun q hq => by have := c2.bd q hq; dsimp only; omega⟩
    rw [runL_blk M' _ hrb.2 (fun q hq => by have := hD q hq; omega)]
    have : M'.length + 1 = cntV x := by rw [← hMl, hM]; rfl
    rw [List.length_append, htl]
    simp only [List.length_singleton]
    omega
  cases hMd : M with
  | nil => rw [hMd] at hMl; simp at hMl; omega
  | cons r M' =>
    have := hrun r M' hMd
    rw [← hMd]
    exact this
end Go.Sy
/- Plain laws: records met again in others, one behind the other; what is taken away, or laid in its place. No program in sight. -/
namespace Go.Sy

/-! ### Records met again -/

/-- How many of L are met in M, one behind the other, by their numbers. -/
def metF : List GRec → List GRec → Nat
  | _, [] => 0
  | [], _ :: _ => 0
  | r :: l, s :: m => if s.st = r.st ∧ s.en = r.en then metF l m + 1 else metF (r :: l) m
theorem metF_same : ∀ (a l m : List GRec), metF (a ++ l) (a ++ m) = a.length + metF l m
  | [], l, m => by simp
  | r :: a, l, m => by
    rw [List.cons_append, List.cons_append, metF, if_pos ⟨rfl, rfl⟩, metF_same a l m, List.length_cons]
    omega
theorem metF_skip : ∀ (x l m : List GRec), (∀ r, l.head? = some r → ∀ s ∈ x, s.st ≠ r.st) → metF l (x ++ m) = metF l m
  | [], _, _, _ => rfl
  | s :: x, [], m, h => by cases m <;> simp [metF]
  | s :: x, r :: l, m, h => by
    rw [List.cons_append, metF, if_neg (fun hc => h r rfl s List.mem_cons_self hc.1)]
    exact metF_skip x (r :: l) m fun q hq t ht => h q hq t (List.mem_cons_of_mem _ ht)
theorem metF_self (l : List GRec) : metF l l = l.length := by
  have := metF_same l [] []
  simpa [metF] using this
/-- What is laid among records lets all be met. -/
theorem metF_laid {A M B : List GRec} (h : (A ++ (M ++ B)).Pairwise fun r s => r.st < s.st) : metF (A ++ B) (A ++ (M ++ B)) = (A ++ B).length := by
  rw [metF_same, metF_skip, metF_self, List.length_append]
  intro r hr s hs
  have h1 := (List.pairwise_append.1 h).2.1
  have h2 := (List.pairwise_append.1 h1).2.2 s hs r (by cases B with | nil => cases hr | cons y l => simp only [List.head?_cons, Option.some.injEq] at hr; subst hr; exact List.mem_cons_self)
  omega

/-! ### Above what stands in a place -/

theorem Sub.parent {gap : Int} {g : GVal} {p : Nat} {now : Int} {P : List GStep} {h : GVal} {q : Nat} {now' : Int} (hs : Sub gap g p now P h q now') : P ≠ [] →
    ∃ P' hp qp nowp m x, P = P' ++ [stepOf m x] ∧ Sub gap g p now P' hp qp nowp ∧ (its hp)[m]? = some x ∧ x.v = h ∧ q = qp + 1 + cntI ((its hp).take m) ∧ now' = nowp + gap + wI gap ((its hp).take m) := by
  induction hs with
  | refl => exact fun h => absurd rfl h
  | @step g p now m x P h q now' hx hs ih =>
    intro _
    by_cases hP : P = []
    · subst hP
      generalize hy : x.v = y at hs
      cases hs
      exact ⟨[], g, p, now, m, x, rfl, .refl _ _ _, hx, hy, rfl, rfl⟩
    · obtain ⟨P', hp, qp, nowp, m', x', e1, e2, e3, e4, e5, e6⟩ := ih hP
      exact ⟨stepOf m x :: P', hp, qp, nowp, m', x', by rw [e1]; rfl, .step hx e2, e3, e4, e5, e6⟩

theorem Swap.ok {g g' : GVal} {P : List GStep} {h h' : GVal} (hs : Swap g g' P h h') : ∀ {d : Int}, okAtV g d → (okAtV h (d + P.length) → okAtV h' (d + P.length)) → okAtV g' d := by
  induction hs with
  | refl h h' =>
    intro d h1 h2
    rw [List.length_nil] at h2
    have e : d + ((0 : Nat) : Int) = d := by omega
    rw [e] at h2
    exact h2 h1
  | @step g v' m x P h h' hx hs ih =>
    intro d h1 h2
    obtain ⟨a1, a2, a3, a4, a5⟩ := (okAtV_eq g d).1 h1
    have hx1 : okAtV x.v (d + 1) := by
      rcases its_split hx with ⟨-, -, h3⟩ | ⟨-, -, -, h4⟩
      · exact okAtL_mem.1 a4 _ (List.mem_of_getElem? h3)
      · exact okAtL_mem.1 a5 _ (List.mem_of_getElem? h4)
    have hv := ih hx1 (by rw [List.length_cons] at h2; rw [show d + 1 + (P.length : Int) = d + ((P.length + 1 : Nat) : Int) by omega]; exact h2)
    rw [okAtV_eq]
    have hset : ∀ (l : List GVal) (i : Nat), okAtL l (d + 1) → okAtL (l.set i v') (d + 1) := fun l i hl => by
      rw [okAtL_mem] at hl ⊢
      intro y hy
      rcases List.mem_or_eq_of_mem_set hy with hy | rfl
      · exact hl y hy
      · exact hv
    have hff : fieldsG (setIt g m v') = fieldsG g := by
      have e1 : (setIt g m v').l.length = g.l.length := by
        unfold setIt
        split
        · exact List.length_set
        · rfl
      have e2 : (setIt g m v').ks = g.ks := by unfold setIt; split <;> rfl
      obtain ⟨e3, e4, e5, e6⟩ := setIt_kind g m v'
      unfold fieldsG
      rw [e1, e2, e3, e4, e5, e6]
    have hks : (setIt g m v').ks = g.ks := by unfold setIt; split <;> rfl
    rw [hff, hks, (setIt_kind g m v').1]
    refine ⟨a1, a2, a3, ?_, ?_⟩
    · unfold setIt
      split
      · exact hset _ _ a4
      · exact a4
    · unfold setIt
      split
      · exact a5
      · exact hset _ _ a5
theorem cntL_set : ∀ (l : List GVal) (i : Nat) (x v : GVal), l[i]? = some x → cntL (l.set i v) + cntV x = cntL l + cntV v
  | [], i, x, v, h => by simp at h
  | y :: l, 0, x, v, h => by
    simp only [List.getElem?_cons_zero, Option.some.injEq] at h
    subst h
    simp only [List.set_cons_zero, cntL]
    omega
  | y :: l, i + 1, x, v, h => by
    have := cntL_set l i x v (by simpa using h)
    simp only [List.set_cons_succ, cntL]
    omega
theorem Swap.cnt {g g' : GVal} {P : List GStep} {h h' : GVal} (hs : Swap g g' P h h') : cntV g' + cntV h = cntV g + cntV h' := by
  induction hs with
  | refl => omega
  | @step g v' m x P h h' hx hs ih =>
    have : cntV (setIt g m v') + cntV x.v = cntV g + cntV v' := by
      have e0 := cntV_eq g
      unfold setIt
      rcases its_split hx with ⟨-, h2, h3⟩ | ⟨-, h2, -, h4⟩
      · rw [if_pos h2]
        have e1 := cntV_eq (.mk g.kind g.b g.n g.s (g.l.set m v') g.ks g.vs)
        have := cntL_set g.l m x.v v' h3
        simp only [GVal.l, GVal.vs] at e0 e1 this ⊢
        omega
      · rw [if_neg (by omega)]
        have e1 := cntV_eq (.mk g.kind g.b g.n g.s g.l g.ks (g.vs.set (m - g.l.length) v'))
        have := cntL_set g.vs (m - g.l.length) x.v v' h4
        simp only [GVal.l, GVal.vs] at e0 e1 this ⊢
        omega
    omega

/-! ### What is taken away -/

def delIt (g : GVal) (m : Nat) : GVal := if m < g.l.length then .mk g.kind g.b g.n g.s (g.l.eraseIdx m) g.ks g.vs else .mk g.kind g.b g.n g.s g.l (g.ks.eraseIdx (m - g.l.length)) (g.vs.eraseIdx (m - g.l.length))
theorem delIt_kind (g : GVal) (m : Nat) : (delIt g m).kind = g.kind ∧ (delIt g m).b = g.b ∧ (delIt g m).n = g.n ∧ (delIt g m).s = g.s := by
  unfold delIt
  split <;> exact ⟨rfl, rfl, rfl, rfl⟩
theorem itsM_del : ∀ (vs : List GVal) (ks : List ByteArray) (m : Nat), ks.length = vs.length → itsM (vs.eraseIdx m) (ks.eraseIdx m) = (itsM vs ks).eraseIdx m
  | [], [], m, _ => by simp [itsM]
  | v :: vs, k :: ks, 0, _ => by simp [itsM]
  | v :: vs, k :: ks, m + 1, h => by
    simp only [List.eraseIdx_cons_succ, itsM]
    rw [itsM_del vs ks m (by simpa using h)]
  | [], _ :: _, _, h => by simp at h
  | _ :: _, [], _, h => by simp at h
theorem its_del {g : GVal} (hw : g.wf) (m : Nat) : its (delIt g m) = (its g).eraseIdx m := by
  have hl : (itsL g.l).length = g.l.length := by simp [itsL]
  unfold delIt its
  split
  · rename_i h
    rw [List.eraseIdx_append_of_lt_length (by omega)]
    show itsL (g.l.eraseIdx m) ++ _ = _
    congr 1
    unfold itsL
    rw [List.eraseIdx_eq_take_drop_succ, List.eraseIdx_eq_take_drop_succ, List.map_append, List.map_take, List.map_drop]
  · rename_i h
    rw [List.eraseIdx_append_of_length_le (by omega), hl]
    show itsL g.l ++ itsM (g.vs.eraseIdx _) (g.ks.eraseIdx _) = _
    rw [itsM_del _ _ _ ((wf_eq g).1 hw).1]
theorem wfs_del {l : List GVal} (h : GVal.wfs l) (m : Nat) : GVal.wfs (l.eraseIdx m) := by
  rw [List.eraseIdx_eq_take_drop_succ, wfs_append]
  have h1 := h
  rw [← List.take_append_drop m l, wfs_append] at h1
  have h2 := h
  rw [← List.take_append_drop (m + 1) l, wfs_append] at h2
  exact ⟨h1.1, h2.2⟩
theorem delIt_wf {g : GVal} (hw : g.wf) (m : Nat) : (delIt g m).wf := by
  obtain ⟨h1, h2, h3⟩ := (wf_eq g).1 hw
  unfold delIt
  split
  · rw [wf_eq]
    exact ⟨h1, wfs_del h2 m, h3⟩
  · rw [wf_eq]
    refine ⟨?_, h2, wfs_del h3 _⟩
    show (g.ks.eraseIdx _).length = (g.vs.eraseIdx _).length
    rw [List.length_eraseIdx, List.length_eraseIdx, h1]

theorem nodup_twice : ∀ (ks met : List ByteArray), (∀ k ∈ ks, k ∉ met) → ks.Nodup → twiceFrom met ks = false
  | [], _, _, _ => rfl
  | k :: ks, met, h1, h2 => by
    obtain ⟨h3, h4⟩ := List.nodup_cons.1 h2
    rw [twiceFrom, if_neg (fun hc => h1 k List.mem_cons_self (hasKey_iff.1 hc))]
    refine nodup_twice ks _ (fun x hx hm => ?_) h4
    rcases List.mem_append.1 hm with hm | hm
    · exact h1 x (List.mem_cons_of_mem _ hx) hm
    · rw [List.mem_singleton] at hm
      subst hm
      exact h3 hx
theorem delIt_ok {g : GVal} {m : Nat} {d : Int} (h : okAtV g d) : okAtV (delIt g m) d := by
  obtain ⟨a1, a2, a3, a4, a5⟩ := (okAtV_eq g d).1 h
  rw [okAtV_eq, (delIt_kind g m).1]
  have hset : ∀ (l : List GVal) (i : Nat), okAtL l (d + 1) → okAtL (l.eraseIdx i) (d + 1) := fun l i hl => by
    rw [okAtL_mem] at hl ⊢
    exact fun y hy => hl y (List.mem_of_mem_eraseIdx hy)
  have hlen : ∀ {α : Type} (l : List α) (i : Nat), l.length = 0 → (l.eraseIdx i).length = 0 := fun l i hl => by
    have := List.length_eraseIdx_le l i
    omega
  have hall : ∀ (l : List ByteArray) (i : Nat), l.all keyOk = true → (l.eraseIdx i).all keyOk = true := fun l i hl => by
    rw [List.all_eq_true] at hl ⊢
    exact fun y hy => hl y (List.mem_of_mem_eraseIdx hy)
  have hff : fieldsG (delIt g m) = true := by
    have h0 := a1
    unfold fieldsG at h0 ⊢
    rw [(delIt_kind g m).1, (delIt_kind g m).2.1, (delIt_kind g m).2.2.1, (delIt_kind g m).2.2.2]
    dsimp only at h0 ⊢
    have hl : g.l.length = 0 → (delIt g m).l.length = 0 := fun hz => by
      unfold delIt
      split
      · exact hlen _ _ hz
      · exact hz
    have hk : g.ks.length = 0 → (delIt g m).ks.length = 0 := fun hz => by
      unfold delIt
      split
      · exact hz
      · exact hlen _ _ hz
    have ha : g.ks.all keyOk = true → (delIt g m).ks.all keyOk = true := fun hz => by
      unfold delIt
      split
      · exact hz
      · exact hall _ _ hz
    split at h0
    · rename_i hc
      rw [if_pos hc]
      simp only [Bool.and_eq_true, decide_eq_true_eq] at h0 ⊢
      exact ⟨⟨h0.1.1, hl h0.1.2⟩, hk h0.2⟩
    rename_i hc
    rw [if_neg hc]
    split at h0
    · rename_i hc
      rw [if_pos hc]
      simp only [Bool.and_eq_true, decide_eq_true_eq] at h0 ⊢
      exact ⟨⟨h0.1.1, hl h0.1.2⟩, hk h0.2⟩
    rename_i hc
    rw [if_neg hc]
    split at h0
    · rename_i hc
      rw [if_pos hc]
      simp only [Bool.and_eq_true, decide_eq_true_eq] at h0 ⊢
      exact ⟨⟨h0.1.1, hl h0.1.2⟩, hk h0.2⟩
    rename_i hc
    rw [if_neg hc]
    split at h0
    · rename_i hc
      rw [if_pos hc]
      simp only [Bool.and_eq_true, decide_eq_true_eq] at h0 ⊢
      exact ⟨⟨h0.1.1, hl h0.1.2⟩, hk h0.2⟩
    rename_i hc
    rw [if_neg hc]
    split at h0
    · rename_i hc
      rw [if_pos hc]
      simp only [Bool.and_eq_true, decide_eq_true_eq] at h0 ⊢
      exact ⟨h0.1, hk h0.2⟩
    rename_i hc
    rw [if_neg hc]
    split at h0
    · rename_i hc
      rw [if_pos hc]
      simp only [Bool.and_eq_true, decide_eq_true_eq] at h0 ⊢
      exact ⟨⟨⟨⟨ha h0.1.1.1.1, h0.1.1.1.2⟩, h0.1.1.2⟩, h0.1.2⟩, hl h0.2⟩
    · cases h0
  have htw : twiceG (delIt g m).ks = false := by
    have := (twice_nodup g.ks [] a2).2
    refine nodup_twice _ _ (fun _ _ h => (by cases h)) ?_
    unfold delIt
    split
    · exact this
    · exact this.sublist (List.eraseIdx_sublist _ _)
  refine ⟨hff, htw, a3, ?_, ?_⟩
  · unfold delIt
    split
    · exact hset _ _ a4
    · exact a4
  · unfold delIt
    split
    · exact a5
    · exact hset _ _ a5
theorem cntI_del {xs : List Itm} {m : Nat} {x : Itm} (h : xs[m]? = some x) : cntI (xs.eraseIdx m) + cntV x.v = cntI xs := by
  rw [cntI_split h, List.eraseIdx_eq_take_drop_succ]
  unfold cntI
  rw [valsI_append, cntL_append]
  omega
end Go.Sy
