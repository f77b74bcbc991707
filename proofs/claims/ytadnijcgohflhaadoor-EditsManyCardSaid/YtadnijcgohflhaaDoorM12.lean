/- Parts of the proof of CEditsMany: F45, F46, F47, F48, F49, F50, F51, Ll, F52, F53. No conditions. -/
import Derived.Test.YtadnijcgohflhaaDoorM11
namespace Go.Sy
open Go.Proofs

/-! ### tree -/

structure TrS where
  σ : Snap
  m : Nat
  k : Nat
  ls : List GVal
  lr : List (List AT)
  la : Option Addr
  lc : Nat
  ks : List ByteArray
  vs : List GVal
  vr : List (List AT)
  ma : Option Addr
  mc : Nat
def TrS.bu (s : TrS) : BuS := ⟨s.σ, s.m, s.k, s.ls, s.lr, s.la, s.lc, s.ks, s.vs, s.vr, s.ma, s.mc⟩
def trA (s : TrS) : List AE := [⟨s.la, s.ls.length, s.lc, 27, 8, s.lr.flatten.map AT.val⟩, ⟨s.ma, s.ks.length, s.mc, 125, 9, (keyRows s.ks s.vr).flatten.map AT.val⟩]

theorem RecsFit.drop {L : List GRec} (h : RecsFit L) (k : Nat) : RecsFit (L.drop k) := fun r hr => h r (List.mem_of_mem_drop hr)
theorem RecsFit.take {L : List GRec} (h : RecsFit L) (k : Nat) : RecsFit (L.take k) := fun r hr => h r (List.mem_of_mem_take hr)

set_option maxRecDepth 100000 in
set_option maxHeartbeats 1000000 in
theorem tree_c : ∀ (n : Nat) (σ : Snap) (L : List GRec) (ao : Option Addr) (cap : Nat), RecsFit L → L.length ≤ 100000 → SlAt σ ao L.length cap 11 (recRows L) → 0 < L.length → 2 * L.length ≤ n →
    PureS Tryd.prog 147 [.a (.v (.slice ao L.length cap))] σ (fun v σ' => ∃ r, v = (SV.agg r).den β0 ∧ RepV σ' (treeN n L) r) := by
  intro n
  induction n using Nat.strongRecOn with | _ n ih => ?_
  intro σ L ao cap hF hL H hpos hn
  obtain ⟨n, rfl⟩ : ∃ m, n = m + 1 := ⟨n - 1, by omega⟩
  have hdc : L = L[0] :: L.drop 1 := by
    have := List.drop_eq_getElem_cons hpos
    rw [List.drop_zero] at this
    exact this
  have hrow : (recRows L)[0]? = some (recCells L[0]) := recRows_get (List.getElem?_eq_getElem hpos)
  have hfit := hF _ (List.getElem_mem hpos)
  have hcap := H.ncap
  have htr : treeN (n + 1) L = .mk L[0].kd L[0].b L[0].n L[0].s (forestN n (L.drop 1)).ls (forestN n (L.drop 1)).ks (forestN n (L.drop 1)).vs := by
    conv => lhs; rw [hdc]
    rw [treeN]
  rw [htr]
  generalize hx : L[0] = x at *
  refine enter_s Tryd.func147 rfl rfl (by (repeat' (first | exact trivial | constructor))) fun w => ?_
  (repeat (first | refine cj_seq ?_ | (refine cj_region ?_; refine oj_run TT rfl ?_) | refine oj_then ?_))
  refine oj_idx TT rfl rfl rfl rfl rfl rfl rfl rfl rfl H (by omega) hrow (oj_run TT rfl ?_)
  (repeat (first | refine cj_seq ?_ | (refine cj_region ?_; refine oj_run TT rfl ?_) | refine oj_then ?_ | refine cj_block ?_))
  refine cj_nilarr 27 8 (cj_nilarr 125 9 ?_)
  refine cj_cutB (fun (s : TrS) => s.σ) (fun _ => [(2, .a (.p 0 0)), (4, .a (.p 3 0))])
    (fun s => [(0, .loc 27, zeroV), (3, .loc 27, buCells x s.bu)]) trA 4
    (fun s => σ.le s.σ ∧ s.ls = (forestN n (L.drop 1)).ls ∧ s.ks = (forestN n (L.drop 1)).ks ∧ s.vs = (forestN n (L.drop 1)).vs ∧
      RepL s.σ s.ls s.lr ∧ RepL s.σ s.vs s.vr ∧ s.ks.length = s.vs.length ∧ s.ls.length + s.ks.length ≤ L.length ∧ (∀ y ∈ s.ks, y.size ≤ mostLen) ∧ s.ls.length ≤ s.lc ∧ s.ks.length ≤ s.mc) ?_
    (fun s ⟨hs, e1, e2, e3, hR1, hR2, hkv, hlen, hky, hc1, hc2⟩ => ?_)
  · refine cj_loop (fun (s : TrS) => s.σ) (fun s => [(0, .a (.v (.slice ao L.length cap))), (2, .a (.p 0 0)), (4, .a (.p 3 0)), (5, .a (.v (.int .i64 (s.k : Nat))))])
      (fun s => [(0, .loc 27, zeroV), (3, .loc 27, buCells x s.bu)]) trA 4
      (fun s => σ.le s.σ ∧ s.ls ++ (forestN s.m (L.drop s.k)).ls = (forestN n (L.drop 1)).ls ∧ s.ks ++ (forestN s.m (L.drop s.k)).ks = (forestN n (L.drop 1)).ks ∧ s.vs ++ (forestN s.m (L.drop s.k)).vs = (forestN n (L.drop 1)).vs ∧
        s.m ≤ n ∧ 2 * (L.drop s.k).length + 1 ≤ s.m ∧
        RepL s.σ s.ls s.lr ∧ RepL s.σ s.vs s.vr ∧ s.ks.length = s.vs.length ∧ 0 < s.k ∧ s.k ≤ L.length ∧ s.ls.length + s.ks.length + (L.length - s.k) ≤ L.length ∧ (∀ y ∈ s.ks, y.size ≤ mostLen) ∧ s.ls.length ≤ s.lc ∧ s.ks.length ≤ s.mc)
      (fun s => L.length - s.k) ⟨σ, n, 1, [], [], none, 0, [], [], [], none, 0⟩ ⟨Snap.le_refl _, rfl, rfl, rfl, Nat.le_refl _, by dsimp only; rw [List.length_drop]; omega, rfl, rfl, rfl, by dsimp only; omega, by dsimp only; omega, by dsimp only [List.length_nil]; omega, fun y h => (by cases h), Nat.le_refl _, Nat.le_refl _⟩
      rfl (by (repeat (first | exact trivial | refine And.intro rfl ?_))) (by (repeat (first | exact trivial | refine And.intro rfl ?_))) rfl (by (repeat' (first | exact trivial | exact Nat.le_of_ble_eq_true rfl | constructor))) (by (repeat' (first | exact trivial | exact Nat.le_of_ble_eq_true rfl | refine AllLt.of ?_ | constructor))) fun ⟨s, m, k1, ls, lr, la, lc, ks, vs, vr, ma, mc⟩ ⟨hs, e1, e2, e3, hm, hm2, hR1, hR2, hkv, hk1, hk2, hlen, hky, hc1, hc2⟩ => ?_
    dsimp only at hs e1 e2 e3 hm hm2 hR1 hR2 hkv hk1 hk2 hlen hky hc1 hc2 ⊢
    obtain ⟨m, rfl⟩ : ∃ m', m = m' + 1 := ⟨m - 1, by omega⟩
    (repeat (first | refine cj_seq ?_ | (refine cj_region ?_; refine oj_run TT rfl ?_) | refine oj_then ?_))
    refine cj_if rfl (fun h => ?_) (fun h => ?_)
    rotate_left
    · have hk0 : k1 = L.length := by have := of_decide_eq_false h; omega
      subst hk0
      rw [List.drop_length, forestN] at e1 e2 e3
      simp only [List.append_nil] at e1 e2 e3
      (repeat (first | refine cj_exit ?_ | refine nj_then_exit ?_ | refine nj_block_out ?_))
      refine nj_again ⟨s, m, L.length, ls, lr, la, lc, ks, vs, vr, ma, mc⟩ ⟨hs, e1, e2, e3, hR1, hR2, hkv, by dsimp only; omega, hky, hc1, hc2⟩ Nat.zero_lt_one rfl (by (repeat (first | exact trivial | refine And.intro rfl ?_))) (by (repeat (first | exact trivial | refine And.intro rfl ?_))) rfl (by (repeat' (first | exact trivial | exact Nat.le_of_ble_eq_true rfl | constructor))) (by (repeat' (first | exact trivial | exact Nat.le_of_ble_eq_true rfl | refine AllLt.of ?_ | constructor)))
    have hkl : k1 < L.length := by have := of_decide_eq_true h; omega
    have hd1 : L.drop k1 = L[k1] :: L.drop (k1 + 1) := List.drop_eq_getElem_cons hkl
    have hLk : L[k1]? = some L[k1] := List.getElem?_eq_getElem hkl
    have hrow1 : (recRows L)[k1]? = some (recCells L[k1]) := recRows_get hLk
    have hfit1 := hF _ (List.getElem_mem hkl)
    have Hs := H.mono hs
    generalize hy : L[k1] = y at *
    rw [hd1, forestN] at e1 e2 e3
    have hrl := runL_le y.en (L.drop (k1 + 1))
    rw [List.length_drop] at hrl
    (repeat (first | refine cj_seq ?_ | (refine cj_region ?_; refine oj_run TT rfl ?_) | refine oj_then ?_ | refine cj_skip ?_ | refine cj_block ?_ | refine nj_then ?_ | (refine oj_add rfl rfl rfl rfl rfl rfl (by omega) ?_; refine oj_run TT rfl ?_)))
    refine cj_cutB (α := Unit) (fun _ => s) (fun _ => [(0, .a (.v (.slice ao L.length cap))), (2, .a (.p 0 0)), (4, .a (.p 3 0)), (5, .a (.v (.int .i64 k1))), (6, .a (.v (.int .i64 (k1 + 1 + runL y.en (L.drop (k1 + 1)) : Nat))))])
      (fun _ => [(0, .loc 27, zeroV), (3, .loc 27, [.v (.int .i64 x.kd), .b x.b, .b x.n.neg, .v (.string x.n.dg), .v (.int .i64 x.n.ex), .v (.string x.s), .v (.slice la ls.length lc), .v (.slice ma ks.length mc)])]) (fun _ => [⟨la, ls.length, lc, 27, 8, lr.flatten.map AT.val⟩, ⟨ma, ks.length, mc, 125, 9, (keyRows ks vr).flatten.map AT.val⟩]) 4 (fun _ => True) ?_ (fun _ _ => ?_)
    · refine cj_loop (fun _ => s) (fun (j : Nat) => [(0, .a (.v (.slice ao L.length cap))), (2, .a (.p 0 0)), (4, .a (.p 3 0)), (5, .a (.v (.int .i64 k1))), (6, .a (.v (.int .i64 (j : Nat))))])
        (fun _ => [(0, .loc 27, zeroV), (3, .loc 27, [.v (.int .i64 x.kd), .b x.b, .b x.n.neg, .v (.string x.n.dg), .v (.int .i64 x.n.ex), .v (.string x.s), .v (.slice la ls.length lc), .v (.slice ma ks.length mc)])]) (fun _ => [⟨la, ls.length, lc, 27, 8, lr.flatten.map AT.val⟩, ⟨ma, ks.length, mc, 125, 9, (keyRows ks vr).flatten.map AT.val⟩]) 4
        (fun j => j ≤ L.length ∧ runK L y.en j = runK L y.en (k1 + 1)) (fun j => L.length - j) (k1 + 1) ⟨hkl, rfl⟩ rfl (by (repeat (first | exact trivial | refine And.intro rfl ?_))) (by (repeat (first | exact trivial | refine And.intro rfl ?_))) rfl (by (repeat' (first | exact trivial | exact Nat.le_of_ble_eq_true rfl | constructor))) (by (repeat' (first | exact trivial | exact Nat.le_of_ble_eq_true rfl | refine AllLt.of ?_ | constructor))) fun j ⟨hj, hp⟩ => ?_
      have hrk : runK L y.en (k1 + 1) = k1 + 1 + runL y.en (L.drop (k1 + 1)) := rfl
      (repeat refine cj_seq ?_)
      refine cj_draw [(0,.pure),(1,.pure),(2,.pure),(3,.pure),(4,.pure),(5,.pure),(6,.pure),(7,.pure),(8,.pure),(9,.quiet),(10,.pure),(11,.pure),(12,.pure),(13,.pure),(14,.quiet),(15,.pure),(16,.pure)] mixed (by kernel_rfl) (oj_run TT rfl ?_)
      refine oj_split 30 rfl (fun h => ?_) (fun h => ?_)
      rotate_left
      · have hj0 : j = L.length := by have := of_decide_eq_false h; omega
        subst hj0
        rw [runK_end] at hp
        refine oj_run TT rfl ?_
        (repeat (first | refine oj_then ?_ | refine cj_if_f rfl ?_ | refine cj_exit ?_ | refine nj_then_exit ?_ | refine nj_block_out ?_))
        rw [← hrk, ← hp]
        refine nj_again () trivial Nat.zero_lt_one rfl (by (repeat (first | exact trivial | refine And.intro rfl ?_))) (by (repeat (first | exact trivial | refine And.intro rfl ?_))) rfl (by (repeat' (first | exact trivial | exact Nat.le_of_ble_eq_true rfl | constructor))) (by (repeat' (first | exact trivial | exact Nat.le_of_ble_eq_true rfl | refine AllLt.of ?_ | constructor)))
      have hjl : j < L.length := by have := of_decide_eq_true h; omega
      have hrowj := recRows_get (List.getElem?_eq_getElem hjl)
      rw [runK_step L y.en hjl] at hp
      generalize L[j] = z at *
      refine oj_run TT rfl ?_
      refine oj_idx TT rfl rfl rfl rfl rfl rfl rfl rfl rfl Hs (by omega) hrowj (oj_run TT rfl ?_)
      refine oj_idx TT rfl rfl rfl rfl rfl rfl rfl rfl rfl Hs (by omega) hrow1 (oj_run TT rfl ?_)
      (repeat refine oj_then ?_)
      refine cj_if rfl (fun h => ?_) (fun h => ?_)
      · rw [if_pos (of_decide_eq_true h)] at hp
        (repeat (first | (refine cj_region ?_; refine oj_run TT rfl ?_) | refine oj_nil ?_ | refine cj_skip ?_ | refine cj_block ?_ | refine nj_then ?_ | refine nj_block ?_ | (refine oj_add rfl rfl rfl rfl rfl rfl (by omega) ?_; refine oj_run TT rfl ?_)))
        refine nj_again (j + 1) ⟨hjl, hp⟩ (by omega) rfl (by (repeat (first | exact trivial | refine And.intro rfl ?_))) (by (repeat (first | exact trivial | refine And.intro rfl ?_))) rfl (by (repeat' (first | exact trivial | exact Nat.le_of_ble_eq_true rfl | constructor))) (by (repeat' (first | exact trivial | exact Nat.le_of_ble_eq_true rfl | refine AllLt.of ?_ | constructor)))
      · rw [if_neg (of_decide_eq_false h)] at hp
        (repeat (first | refine cj_exit ?_ | refine nj_then_exit ?_ | refine nj_block_out ?_))
        rw [← hrk, ← hp]
        refine nj_again () trivial Nat.zero_lt_one rfl (by (repeat (first | exact trivial | refine And.intro rfl ?_))) (by (repeat (first | exact trivial | refine And.intro rfl ?_))) rfl (by (repeat' (first | exact trivial | exact Nat.le_of_ble_eq_true rfl | constructor))) (by (repeat' (first | exact trivial | exact Nat.le_of_ble_eq_true rfl | refine AllLt.of ?_ | constructor)))
    generalize hq : runL y.en (L.drop (k1 + 1)) = q at *
    have hsub := Hs.sub (l := k1) (k := k1 + 1 + q) (by omega) (by omega)
    have hrs : ((recRows L).take (k1 + 1 + q)).drop k1 = recRows (y :: (L.drop (k1 + 1)).take q) := by
      have : y :: (L.drop (k1 + 1)).take q = (L.drop k1).take (q + 1) := by rw [hd1, List.take_succ_cons]
      rw [this]
      unfold recRows
      rw [List.drop_take, ← List.map_drop, ← List.map_take]
      congr 2
      omega
    have hsl : (y :: (L.drop (k1 + 1)).take q).length = k1 + 1 + q - k1 := by
      rw [List.length_cons, List.length_take, List.length_drop]
      omega
    rw [hrs, ← hsl] at hsub
    have hsf : RecsFit (y :: (L.drop (k1 + 1)).take q) := fun r hr => by
      rcases List.mem_cons.1 hr with rfl | hr
      · exact hfit1
      · exact hF r (List.mem_of_mem_drop (List.mem_of_mem_take hr))
    have hdl1 : (L.drop k1).length = L.length - k1 := List.length_drop
    (repeat (first | refine cj_seq ?_ | (refine cj_region ?_; refine oj_run TT rfl ?_)))
    refine oj_slice TT k1 (k1 + 1 + q) rfl rfl rfl rfl rfl rfl rfl rfl rfl rfl (.inr ⟨_, _, rfl, rfl⟩) (.inr ⟨_, _, rfl, rfl⟩) (by omega) (by omega) hcap (oj_run TT rfl ?_)
    rw [← hsl]
    refine oj_callS rfl rfl rfl rfl rfl Tryd.call147 (by (repeat' (first | exact trivial | constructor))) (ih m (by omega) s _ _ _ hsf (by omega) hsub (by rw [List.length_cons]; omega) (by omega)) fun v σ2 hle2 ⟨rr, hv, hrep⟩ => ⟨.agg rr, hrep.clo, hv.symm, ?_⟩
    generalize treeN m (y :: (L.drop (k1 + 1)).take q) = gx at *
    obtain ⟨xla, xlc, xlrows, xma, xmc, xvrows, rfl, XV⟩ := hrep.open
    have hs2 := Snap.le_trans hs hle2
    have Hs2 := H.mono hs2
    have hR1' := hR1.mono hle2
    have hR2' := hR2.mono hle2
    have hlr := hR1.len
    have hvr := hR2.len
    have hdd : (L.drop (k1 + 1)).drop q = L.drop (k1 + 1 + q) := by rw [List.drop_drop]
    rw [hdd] at e1 e2 e3
    refine oj_run TT rfl ?_
    (repeat (first | refine cj_seq ?_ | (refine cj_region ?_; refine oj_run TT rfl ?_) | refine oj_then ?_))
    refine oj_idx TT rfl rfl rfl rfl rfl rfl rfl rfl rfl Hs2 (by omega) hrow1 (oj_run TT rfl ?_)
    (repeat refine oj_then ?_)
    refine cj_if rfl (fun h => ?_) (fun h => ?_)
    · simp only [if_pos (show y.nm = true from h)] at e1 e2 e3
      skip
      refine cj_draw [(0,.pure),(1,.quiet),(2,.pure),(3,.pure),(4,.pure),(5,.pure),(6,.quiet),(7,.quiet),(8,.pure),(9,.keep),(10,.sink),(11,.pure),(12,.sink)] mixed (by kernel_rfl) (oj_run TT rfl ?_)
      refine oj_idx TT rfl rfl rfl rfl rfl rfl rfl rfl rfl Hs2 (by omega) hrow1 (oj_run TT rfl ?_)
      refine oj_append_lit TT 1 rfl rfl rfl rfl rfl rfl rfl rfl rfl rfl rfl rfl rfl rfl rfl rfl rfl rfl (by (repeat' (first | exact trivial | refine AllLt.of ?_ | constructor))) rfl (by omega) (by show (ks.length + 1) * 128 ≤ _; omega) fun ao' cap' hcap' => oj_run TT rfl ?_
      (repeat (first | (refine cj_region ?_; refine oj_run TT rfl ?_) | refine oj_then ?_ | refine oj_nil ?_ | refine nj_block ?_))
      refine nj_again ⟨σ2, m, k1 + 1 + q, ls, lr, la, lc, ks ++ [y.name], vs ++ [gx], vr ++ [vCells gx xla xlc xma xmc], ao', cap'⟩
        ⟨hs2, e1, by rw [List.append_assoc]; exact e2, by rw [List.append_assoc]; exact e3, by dsimp only; omega, by dsimp only; rw [List.length_drop]; omega, hR1', RepL.append hR2' ⟨_, _, rfl, hrep, rfl⟩, by simp [hkv], by dsimp only; omega, by dsimp only; omega, by dsimp only; rw [List.length_append, List.length_singleton]; omega,
          fun z hz => by
            rcases List.mem_append.1 hz with hz | hz
            · exact hky z hz
            · rw [List.mem_singleton.1 hz]; exact hfit1.2.2, hc1, by dsimp only; rw [List.length_append]; exact hcap'⟩ (by dsimp only; omega) rfl (by (repeat (first | exact trivial | refine And.intro rfl ?_))) ?_ ?_ (by (repeat' (first | exact trivial | exact Nat.le_of_ble_eq_true rfl | constructor))) (by (repeat' (first | exact trivial | exact Nat.le_of_ble_eq_true rfl | refine AllLt.of ?_ | constructor)))
      · refine ⟨rfl, ?_, trivial⟩
        show some _ = some _
        unfold buCells TrS.bu
        rw [List.length_append]
        rfl
      · unfold trA
        dsimp only
        rw [keyRows_snoc _ _ _ _ (by omega), List.length_append]
        simp only [List.flatten_append, List.map_append, List.flatten_cons, List.flatten_nil, List.append_nil]
        rfl
    · simp only [if_neg (show ¬ y.nm = true by simp [show y.nm = false from h])] at e1 e2 e3
      (repeat (refine cj_region ?_; refine oj_run TT rfl ?_))
      refine oj_append_lit TT 0 rfl rfl rfl rfl rfl rfl rfl rfl rfl rfl rfl rfl rfl rfl rfl rfl rfl rfl (by (repeat' exact vCells_lt _ _ _ _ _ _)) rfl (by omega) (by show (ls.length + 1) * 112 ≤ _; omega) fun ao' cap' hcap' => oj_run TT rfl ?_
      (repeat (first | (refine cj_region ?_; refine oj_run TT rfl ?_) | refine oj_then ?_ | refine oj_nil ?_ | refine nj_block ?_))
      refine nj_again ⟨σ2, m, k1 + 1 + q, ls ++ [gx], lr ++ [vCells gx xla xlc xma xmc], ao', cap', ks, vs, vr, ma, mc⟩
        ⟨hs2, by rw [List.append_assoc]; exact e1, e2, e3, by dsimp only; omega, by dsimp only; rw [List.length_drop]; omega, RepL.append hR1' ⟨_, _, rfl, hrep, rfl⟩, hR2', hkv, by dsimp only; omega, by dsimp only; omega, by dsimp only; rw [List.length_append, List.length_singleton]; omega,
          hky, by dsimp only; rw [List.length_append]; exact hcap', hc2⟩ (by dsimp only; omega) rfl (by (repeat (first | exact trivial | refine And.intro rfl ?_))) ?_ ?_ (by (repeat' (first | exact trivial | exact Nat.le_of_ble_eq_true rfl | constructor))) (by (repeat' (first | exact trivial | exact Nat.le_of_ble_eq_true rfl | refine AllLt.of ?_ | constructor)))
      · refine ⟨rfl, ?_, trivial⟩
        show some _ = some _
        unfold buCells TrS.bu
        rw [List.length_append]
        rfl
      · unfold trA
        dsimp only
        rw [List.length_append]
        simp only [List.flatten_append, List.map_append, List.flatten_cons, List.flatten_nil, List.append_nil]
        rfl
  obtain ⟨s, m, k1, ls, lr, la, lc, ks, vs, vr, ma, mc⟩ := s
  dsimp only at hs e1 e2 e3 hR1 hR2 hkv hlen hky hc1 hc2 ⊢
  rw [← e1, ← e2, ← e3]
  clear e1 e2 e3
  have hlr := hR1.len
  have hvr := hR2.len
  (repeat (first | refine cj_seq ?_ | (refine cj_region ?_; refine oj_run TT rfl ?_) | refine oj_then ?_ | refine cj_ret ?_))
  refine nj_seal 0 rfl rfl fun σ1 hle1 hS1 => ?_
  refine nj_seal 0 rfl rfl fun σ2 hle2 hS2 => ?_
  refine nj_ret TT rfl fun β w' _ _ => ?_
  have S1 := (hS1.sl (rows := lr) (sz := 8) rfl (fun r hr => ⟨(hR1.rows r hr).1, (hR1.rows r hr).2.1⟩) hlr rfl hc1).mono hle2
  have S2 := hS2.sl (rows := keyRows ks vr) (sz := 9) (n := ks.length) rfl (fun r hr => ?_) (keyRows_len (by omega)) rfl hc2
  · refine ⟨buCells x ⟨s, m, k1, ls, lr, la, lc, ks, vs, vr, ma, mc⟩, rfl, ?_⟩
    simp only [RepV]
    exact ⟨la, lc, lr, ma, mc, vr, rfl, S1, (hR1.mono hle1).mono hle2, hkv, S2, (hR2.mono hle1).mono hle2, hfit.1, hfit.2.1, by simp only [mostLen]; omega, by simp only [mostLen]; omega, hky⟩
  · obtain ⟨j, hj⟩ := List.getElem?_of_mem hr
    have hjl := (List.getElem?_eq_some_iff.1 hj).1
    rw [keyRows_len (by omega)] at hjl
    have hg := keyRows_get (List.getElem?_eq_getElem hjl) (List.getElem?_eq_getElem (l := vr) (i := j) (by omega))
    rw [hg] at hj
    injection hj with hj
    subst hj
    have := hR2.rows _ (List.getElem_mem (l := vr) (n := j) (by omega))
    exact ⟨by simp [keyRow, this.1], keyRow_lt this.2.1⟩
end Go.Sy
namespace Go.Sy
open Go.Proofs

/-! ### anew -/

/-- What the closure of anew sees: the open ones, the next number, the records. -/
def anA (gO gR gL g1 : Nat) (cap : Nat) (oo : Option Addr) (oc : Nat) (s : RnS) : List AE :=
  [boxE gO 43 (.slice oo s.op.length oc), boxE gR 3 (.int .i64 s.ord), boxE gL 32 (.slice (some ⟨g1, 0, none⟩) s.L.length cap), kdE oo oc s.op.reverse, rE (some ⟨g1, 0, none⟩) s.L.length cap s.L]

structure ShE where
  s : RnS
  oo : Option Addr
  oc : Nat

theorem intVs'_get {o : List Nat} {i : Nat} {k : Nat} (h : o[i]? = some k) : (intVs' o)[i]? = some (AT.v (.int .i64 k)).val := by unfold intVs'; rw [List.getElem?_map, h]; rfl

set_option maxRecDepth 100000 in
set_option maxHeartbeats 1000000 in
theorem shut_c (σ : Snap) (gO gR gL g1 cap : Nat) (lv : Int) (h0 : 0 ≤ lv) (oo : Option Addr) (oc : Nat) (L : List GRec) (op : List Nat) (ord : Int) (hL : L.length ≤ 1000000) (hop : ∀ t ∈ op, t < L.length) (hol : op.length ≤ 1000000) (hoc : op.length ≤ oc) (ho : 0 ≤ ord) (hob : ord + op.length ≤ 1000000000) :
    FnS Tryd.prog 146 (.a (.v (.int .i64 lv)) :: [ptrTo gO, ptrTo gR, ptrTo gL].map ptSV) σ (anA gO gR gL g1 cap oo oc ⟨L, op, ord⟩) (fun v _ A' => v = .tuple #[] ∧ A' = anA gO gR gL g1 cap oo oc (shutS lv L op ord)) := by
  refine enter_f Tryd.func146 rfl rfl ⟨trivial, trivial, trivial, trivial, trivial⟩ fun w => ?_
  (repeat refine cj_block ?_)
  refine cj_loop (fun (_ : RnS) => σ) (fun _ => [(0, .a (.v (.int .i64 lv))), (1, .a (.v (.pointer (some ⟨gO, 0, none⟩)))), (2, .a (.v (.pointer (some ⟨gR, 0, none⟩)))), (3, .a (.v (.pointer (some ⟨gL, 0, none⟩))))]) (fun _ => []) (fun s => anA gO gR gL g1 cap oo oc s) 0
    (fun s => shutS lv s.L s.op s.ord = shutS lv L op ord ∧ s.L.length = L.length ∧ (∀ t ∈ s.op, t < L.length) ∧ s.op.length ≤ op.length ∧ 0 ≤ s.ord ∧ s.ord + s.op.length ≤ 1000000000) (fun s => s.op.length) ⟨L, op, ord⟩ ⟨rfl, rfl, hop, Nat.le_refl _, ho, hob⟩ rfl (by (repeat (first | exact trivial | refine And.intro rfl ?_))) (by (repeat (first | exact trivial | refine And.intro rfl ?_))) rfl (by (repeat' (first | exact trivial | constructor))) (by (repeat' exact trivial)) fun ⟨M, oq, od⟩ ⟨hp, hMl, hoq, hql, hod, hodb⟩ => ?_
  dsimp only at hp hMl hoq hql hod hodb ⊢
  (repeat (first | refine cj_seq ?_ | (refine cj_region ?_; refine oj_run TT rfl ?_)))
  refine oj_ldA 0 (off := 0) (c := .v (.slice oo oq.length oc)) TT rfl rfl rfl rfl rfl rfl rfl rfl rfl rfl rfl trivial (oj_run TT rfl ?_)
  (repeat refine oj_then ?_)
  refine cj_if rfl (fun h => ?_) (fun h => ?_)
  rotate_left
  · have h := of_decide_eq_false h
    have hq := shutS_same (lv := lv) M oq od (by omega)
    rw [hq] at hp
    (repeat (first | refine cj_exit ?_ | refine nj_then_exit ?_ | refine nj_block_out ?_))
    refine nj_fend TT rfl fun β w' _ _ => ?_
    rw [← hp]
    exact ⟨rfl, rfl⟩
  have h := of_decide_eq_true h
  cases oq with
  | nil => simp at h; omega
  | cons t oq =>
    rw [List.length_cons] at h hql hodb
    rw [shutS, if_pos (by omega)] at hp
    have ht : t < M.length := by have := hoq t List.mem_cons_self; omega
    have hMt : M[t]? = some M[t] := List.getElem?_eq_getElem ht
    have hse : setEn M t od = M.set t (M[t].atEn od) := by unfold setEn; rw [hMt]
    generalize M[t] = r at *
    (repeat (first | refine cj_seq ?_ | refine cj_skip ?_ | refine cj_block ?_ | refine nj_then ?_))
    refine cj_arrAt 3 (E := kdE oo oc (t :: oq).reverse) rfl (by show 0 < (t :: oq).reverse.length; simp) fun go hgo => ?_
    have hgo : oo = some ⟨go, 0, none⟩ := hgo
    subst hgo
    have hrev : (t :: oq).reverse[oq.length]? = some t := by
      rw [List.reverse_cons, List.getElem?_append_right (by rw [List.length_reverse]; exact Nat.le_refl _), List.length_reverse, Nat.sub_self]
      rfl
    have hlr : (t :: oq).reverse.length = oq.length + 1 := by rw [List.length_reverse, List.length_cons]
    have had : ∀ (g k j : Nat), some (SV.a (AT.v (.pointer (some (Addr.add (Addr.add ⟨g, 0, none⟩ ((k : Int).toNat * 11)) j))))) = some (SV.a (AT.v (.pointer (some ⟨g, k * 11 + j, none⟩)))) := fun g k j => by rw [add0, Addr.add_lit]; rfl
    have had1 : ∀ q : Nat, some (SV.a (AT.v (.pointer (some (Addr.add ⟨go, 0, none⟩ ((q : Int).toNat * 1)))))) = some (SV.a (AT.v (.pointer (some ⟨go, q, none⟩)))) := fun q => by
      rw [Int.toNat_natCast, add0, Nat.mul_one]
    rw [List.length_cons]
    refine cj_draw [(0,.quiet),(1,.quiet),(2,.quiet),(3,.pure),(4,.pure),(5,.pure),(6,.quiet),(7,.quiet),(8,.pure),(9,.pure),(10,.sink)] mixed (by kernel_rfl) (oj_run TT rfl ?_)
    refine oj_ldA 2 (off := 0) (c := .v (.slice (some ⟨g1, 0, none⟩) M.length cap)) TT rfl rfl rfl rfl rfl rfl rfl rfl rfl rfl rfl trivial (oj_run TT rfl ?_)
    refine oj_ldA 0 (off := 0) (c := .v (.slice (some ⟨go, 0, none⟩) (oq.length + 1) oc)) TT rfl rfl rfl rfl rfl rfl rfl rfl rfl rfl rfl trivial (oj_run TT rfl ?_)
    refine oj_ldA 0 (off := 0) (c := .v (.slice (some ⟨go, 0, none⟩) (oq.length + 1) oc)) TT rfl rfl rfl rfl rfl rfl rfl rfl rfl rfl rfl trivial (oj_run TT rfl ?_)
    refine oj_minus rfl rfl rfl rfl rfl rfl (by omega) (oj_run TT rfl ?_)
    rw [show ((oq.length + 1 : Nat) : Int) - 1 = ((oq.length : Nat) : Int) by omega]
    refine oj_run TT rfl ?_
    refine oj_indexAddr TT rfl rfl rfl rfl rfl rfl rfl rfl rfl ⟨by omega, by omega⟩ (oj_run TT rfl ?_)
    refine oj_ldA 3 (off := oq.length) (c := .v (.int .i64 t)) TT rfl rfl rfl rfl rfl (had1 _) rfl rfl rfl rfl (intVs'_get hrev) trivial (oj_run TT rfl ?_)
    refine oj_ldA 1 (off := 0) (c := .v (.int .i64 od)) TT rfl rfl rfl rfl rfl rfl rfl rfl rfl rfl rfl trivial (oj_run TT rfl ?_)
    refine oj_indexAddr TT rfl rfl rfl rfl rfl rfl rfl rfl rfl ⟨by omega, by omega⟩ (oj_run TT rfl ?_)
    have hset : (recXs M).set (t * 11 + 1) (AT.v (.int .i64 od)).val = recXs (M.set t (r.atEn od)) := recXs_set (r' := r.atEn od) (.v (.int .i64 od)) hMt (by omega) rfl
    have hsl : (M.set t (r.atEn od)).length = M.length := List.length_set ..
    refine oj_stA 4 (off := t * 11 + 1) (A' := anA gO gR gL g1 cap (some ⟨go, 0, none⟩) oc ⟨M.set t (r.atEn od), t :: oq, od⟩) TT rfl rfl rfl rfl (had g1 t 1) rfl rfl rfl rfl rfl (by show t * 11 + 1 < M.length * 11; omega) trivial rfl ?_ (oj_run TT rfl ?_)
    · show [_, _, _, _, _] = [_, _, _, _, _]
      unfold rE
      dsimp only
      rw [hset, hsl]
    rw [← hse] at hsl ⊢
    generalize setEn M t od = M2 at *
    have hM2 : M2.length = M.length := hsl
    (repeat (first | refine cj_seq ?_ | (refine cj_region ?_; refine oj_run TT rfl ?_) | refine oj_then ?_))
    refine oj_ldA 1 (off := 0) (c := .v (.int .i64 od)) TT rfl rfl rfl rfl rfl rfl rfl rfl rfl rfl rfl trivial (oj_run TT rfl ?_)
    refine oj_add rfl rfl rfl rfl rfl rfl (by omega) (oj_run TT rfl ?_)
    refine oj_stA 1 (off := 0) (A' := anA gO gR gL g1 cap (some ⟨go, 0, none⟩) oc ⟨M2, t :: oq, od + 1⟩) TT rfl rfl rfl rfl rfl rfl rfl rfl rfl rfl (by show 0 < 1 * 1; omega) trivial rfl rfl (oj_run TT rfl ?_)
    (repeat (first | (refine cj_region ?_; refine oj_run TT rfl ?_) | refine oj_then ?_))
    refine oj_ldA 0 (off := 0) (c := .v (.slice (some ⟨go, 0, none⟩) (oq.length + 1) oc)) TT rfl rfl rfl rfl rfl rfl rfl rfl rfl rfl rfl trivial (oj_run TT rfl ?_)
    refine oj_ldA 0 (off := 0) (c := .v (.slice (some ⟨go, 0, none⟩) (oq.length + 1) oc)) TT rfl rfl rfl rfl rfl rfl rfl rfl rfl rfl rfl trivial (oj_run TT rfl ?_)
    refine oj_minus rfl rfl rfl rfl rfl rfl (by omega) (oj_run TT rfl ?_)
    rw [show ((oq.length + 1 : Nat) : Int) - 1 = ((oq.length : Nat) : Int) by omega]
    refine oj_run TT rfl ?_
    refine oj_slice_to TT oq.length rfl rfl rfl rfl rfl rfl rfl rfl rfl rfl (by omega) (by omega) ?_
    have hcut : (kdE (some ⟨go, 0, none⟩) oc (t :: oq).reverse).cut oq.length = kdE (some ⟨go, 0, none⟩) oc oq.reverse := by
      unfold AE.cut kdE
      dsimp only
      rw [Nat.mul_one, List.length_reverse]
      congr 1
      unfold intVs'
      rw [← List.map_take, List.reverse_cons, List.take_left' (by rw [List.length_reverse])]
    refine oj_cutArr 3 oq.length rfl rfl (by show oq.length ≤ (t :: oq).reverse.length; omega) (congrArg (fun E => [_, _, _, E, _]) hcut) (oj_run TT rfl ?_)
    refine oj_stA 0 (off := 0) (A' := anA gO gR gL g1 cap (some ⟨go, 0, none⟩) oc ⟨M2, oq, od + 1⟩) TT rfl rfl rfl rfl rfl rfl rfl rfl rfl rfl (by show 0 < 1 * 1; omega) trivial rfl rfl (oj_run TT rfl ?_)
    (repeat (first | refine oj_nil ?_ | refine nj_block ?_))
    refine nj_again (⟨M2, oq, od + 1⟩ : RnS) ⟨hp, by dsimp only; omega, fun q hq => hoq q (List.mem_cons_of_mem _ hq), by dsimp only; omega, by dsimp only; omega, by dsimp only; omega⟩ (by simp) rfl (by (repeat (first | exact trivial | refine And.intro rfl ?_))) (by (repeat (first | exact trivial | refine And.intro rfl ?_))) rfl (by (repeat' (first | exact trivial | constructor))) (by (repeat' exact trivial))
end Go.Sy
namespace Go.Sy
open Go.Proofs

/-! ### What stays while records are numbered anew -/

theorem er_atEn (r : GRec) (x : Int) : er (r.atEn x) = er r := rfl
theorem er_atSt (r : GRec) (x : Int) : er (r.atSt x) = er r := rfl
theorem set_er {L : List GRec} {i : Nat} {r r' : GRec} (h : L[i]? = some r) (he : er r' = er r) : (L.set i r').map er = L.map er := by
  apply List.ext_getElem?
  intro j
  rw [List.getElem?_map, List.getElem?_map, List.getElem?_set]
  by_cases hij : i = j
  · subst hij
    rw [if_pos rfl, if_pos (List.getElem?_eq_some_iff.1 h).1, h, Option.map_some, Option.map_some, he]
  · rw [if_neg hij]
theorem setEn_er (L : List GRec) (i : Nat) (x : Int) : (setEn L i x).map er = L.map er := by
  unfold setEn
  split
  · rename_i r h
    exact set_er h rfl
  · rfl
theorem setSt_er (L : List GRec) (i : Nat) (x : Int) : (setSt L i x).map er = L.map er := by
  unfold setSt
  split
  · rename_i r h
    exact set_er h rfl
  · rfl
theorem shutS_er : ∀ (lv : Int) (L : List GRec) (op : List Nat) (ord : Int), (shutS lv L op ord).L.map er = L.map er
  | _, L, [], _ => rfl
  | lv, L, t :: op, ord => by
    rw [shutS]
    split
    · rw [shutS_er lv, setEn_er]
    · rfl
theorem shutS_op : ∀ (lv : Int) (L : List GRec) (op : List Nat) (ord : Int), (∀ t ∈ (shutS lv L op ord).op, t ∈ op) ∧ (shutS lv L op ord).op.length ≤ op.length ∧ ord ≤ (shutS lv L op ord).ord ∧ (shutS lv L op ord).ord + (shutS lv L op ord).op.length = ord + op.length
  | _, L, [], ord => ⟨fun _ h => h, Nat.le_refl _, Int.le_refl _, rfl⟩
  | lv, L, t :: op, ord => by
    rw [shutS]
    split
    · obtain ⟨h1, h2, h3, h4⟩ := shutS_op lv (setEn L t ord) op (ord + 1)
      refine ⟨fun q hq => List.mem_cons_of_mem _ (h1 q hq), by rw [List.length_cons]; omega, by omega, ?_⟩
      rw [h4, List.length_cons]
      omega
    · exact ⟨fun _ h => h, Nat.le_refl _, Int.le_refl _, rfl⟩

/-- What stands after the first k. -/
structure RInv (L : List GRec) (k : Nat) (s : RnS) : Prop where
  er : s.L.map er = L.map er
  op : ∀ t ∈ s.op, t < k
  ord : 0 ≤ s.ord ∧ s.ord + s.op.length = 2 * (k : Int)
  len : s.op.length ≤ k

theorem rinv_step {L : List GRec} {k : Nat} {s : RnS} (h : RInv L k s) : RInv L (k + 1) (stepR s k) := by
  obtain ⟨h1, h2, h3, h4⟩ := shutS_op (lvAt s.L k) s.L s.op s.ord
  have h5 := shutS_er (lvAt s.L k) s.L s.op s.ord
  have := h.ord
  have := h.len
  unfold stepR
  refine ⟨?_, fun t ht => ?_, ⟨?_, ?_⟩, ?_⟩
  · dsimp only
    rw [setSt_er, h5, h.er]
  · dsimp only at ht
    rcases List.mem_cons.1 ht with rfl | ht
    · omega
    · have := h.op t (h1 t ht)
      omega
  · dsimp only
    omega
  · dsimp only
    rw [List.length_cons]
    omega
  · dsimp only
    rw [List.length_cons]
    omega
theorem rinv_run (L : List GRec) : ∀ k, RInv L k (runR ⟨L, [], 0⟩ 0 k)
  | 0 => ⟨rfl, fun t h => (by cases h), ⟨Int.le_refl _, rfl⟩, Nat.le_refl _⟩
  | k + 1 => by
    rw [runR_add, runR_one, Nat.zero_add]
    exact rinv_step (rinv_run L k)
theorem renum_er (L : List GRec) : (renumG L).map er = L.map er := by
  unfold renumG
  dsimp only
  rw [shutS_er, (rinv_run L L.length).er]
theorem renum_len (L : List GRec) : (renumG L).length = L.length := by
  have := congrArg List.length (renum_er L)
  simpa using this
theorem fit_er {L M : List GRec} (h : L.map er = M.map er) (hF : RecsFit M) : RecsFit L := by
  intro r hr
  have : er r ∈ M.map er := by rw [← h]; exact List.mem_map.2 ⟨r, hr, rfl⟩
  obtain ⟨q, hq, e⟩ := List.mem_map.1 this
  have h1 := congrArg GRec.n e
  have h2 := congrArg GRec.s e
  have h3 := congrArg GRec.name e
  have h1 : q.n = r.n := h1
  have h2 : q.s = r.s := h2
  have h3 : q.name = r.name := h3
  rw [← h1, ← h2, ← h3]
  exact hF q hq
theorem recsW_map_er : ∀ L : List GRec, recsW (L.map er) = recsW L
  | [] => rfl
  | r :: l => by rw [List.map_cons, recsW, recsW, recsW_map_er l]; rfl
theorem recsW_er {L M : List GRec} (h : L.map er = M.map er) : recsW L = recsW M := by rw [← recsW_map_er L, h, recsW_map_er]

/-! ### anew -/

/-- All records, numbered anew, or why they may not be. -/
def anewG (L : List GRec) : List GRec × Int := shredG (treeG (renumG L)) 8

structure NwS where
  σ : Snap
  k : Nat
  oo : Option Addr
  oc : Nat

set_option maxRecDepth 100000 in
set_option maxHeartbeats 1000000 in
theorem anew_c (σ : Snap) (L : List GRec) (hF : RecsFit L) (hpos : 0 < L.length) (hw : recsW L ≤ 100000) (hlv : ∀ r ∈ L, 0 ≤ r.lv) (ao : Option Addr) (cap : Nat) (H : SlAt σ ao L.length cap 11 (recRows L)) :
    PureS Tryd.prog 133 [.a (.v (.slice ao L.length cap))] σ (fun v σ' => ∃ bo bc, v = .tuple #[.slice bo (anewG L).1.length bc, .int .i64 (anewG L).2] ∧ SlAt σ' bo (anewG L).1.length bc 11 (recRows (anewG L).1)) := by
  have hL : L.length ≤ 100000 := Nat.le_trans (recsW_len L) hw
  refine enter_s Tryd.func133 rfl rfl (by (repeat' (first | exact trivial | constructor))) fun w => ?_
  (repeat (first | refine cj_seq ?_ | (refine cj_region ?_; refine oj_run TT rfl ?_) | refine oj_then ?_))
  refine oj_callF [] (A0 := []) (Ar := []) rfl rfl rfl rfl rfl rfl rfl Tryd.call107 (by (repeat' (first | exact trivial | constructor))) (CloneRec_c σ L (by omega) hpos ao cap H) fun v σ1 A1 hle1 ⟨bo, bc, hv, hbc, hA⟩ => ⟨.a (.v (.slice bo L.length bc)), trivial, hv.symm, ?_⟩
  subst hA
  refine oj_run TT rfl ?_
  (repeat (first | refine cj_seq ?_ | (refine cj_region ?_; refine oj_run TT rfl ?_) | refine oj_then ?_ | refine cj_block ?_))
  refine cj_arrAt 0 (E := rE bo L.length bc L) rfl hpos fun g1 hg1 => ?_
  have hg1 : bo = some ⟨g1, 0, none⟩ := hg1
  subst hg1
  refine cj_own 2 1 1 rfl (by (repeat' (first | exact trivial | refine AllLt.of ?_ | constructor))) rfl (by decide) fun gO => ?_
  refine cj_own 1 1 1 rfl (by (repeat' (first | exact trivial | refine AllLt.of ?_ | constructor))) rfl (by decide) fun gR => ?_
  refine cj_own 0 1 1 rfl (by (repeat' (first | exact trivial | refine AllLt.of ?_ | constructor))) rfl (by decide) fun gL => ?_
  refine cj_nilarr 3 1 ?_
  refine cj_re [1, 2, 3, 4, 0] (A' := anA gO gR gL g1 bc none 0 ⟨L, [], 0⟩) rfl rfl ?_
  have hfl : ∀ m, (SV.a (.fn (.func 146) [ptrTo gO, ptrTo gR, ptrTo gL])).lt m := fun m x hx => by
    simp only [List.mem_cons, List.not_mem_nil, or_false] at hx
    rcases hx with rfl | rfl | rfl <;> trivial
  have had : ∀ (g k j : Nat), some (SV.a (AT.v (.pointer (some (Addr.add (Addr.add ⟨g, 0, none⟩ ((k : Int).toNat * 11)) j))))) = some (SV.a (AT.v (.pointer (some ⟨g, k * 11 + j, none⟩)))) := fun g k j => by rw [add0, Addr.add_lit]; rfl
  refine cj_cutB (fun (o : NwS) => o.σ) (fun _ => [(1, .a (.v (.pointer (some ⟨gL, 0, none⟩)))), (6, .a (.fn (.func 146) [ptrTo gO, ptrTo gR, ptrTo gL]))]) (fun _ => []) (fun o => anA gO gR gL g1 bc o.oo o.oc (runR ⟨L, [], 0⟩ 0 L.length)) 3
    (fun o => σ1.le o.σ ∧ (runR ⟨L, [], 0⟩ 0 L.length).op.length ≤ o.oc) ?_ (fun o ⟨hσo, hoc⟩ => ?_)
  · refine cj_loop (fun (s : NwS) => s.σ) (fun s => [(1, .a (.v (.pointer (some ⟨gL, 0, none⟩)))), (4, .a (.v (.pointer (some ⟨gR, 0, none⟩)))), (5, .a (.v (.pointer (some ⟨gO, 0, none⟩)))), (6, .a (.fn (.func 146) [ptrTo gO, ptrTo gR, ptrTo gL])), (14, .a (.v (.int .i64 L.length))), (15, .a (.v (.int .i64 (s.k : Nat))))]) (fun _ => []) (fun s => anA gO gR gL g1 bc s.oo s.oc (runR ⟨L, [], 0⟩ 0 s.k)) 3
      (fun s => s.k ≤ L.length ∧ σ1.le s.σ ∧ (runR ⟨L, [], 0⟩ 0 s.k).op.length ≤ s.oc) (fun s => L.length - s.k) ⟨σ1, 0, none, 0⟩ ⟨Nat.zero_le _, Snap.le_refl _, Nat.le_refl _⟩ rfl (by (repeat (first | exact trivial | refine And.intro rfl ?_))) (by (repeat (first | exact trivial | refine And.intro rfl ?_))) rfl ⟨trivial, trivial, trivial, hfl 3, trivial, trivial, trivial⟩ trivial fun ⟨σk, k, oo, oc⟩ ⟨hk, hσ, hoc⟩ => ?_
    dsimp only at hk hσ hoc ⊢
    (repeat (first | refine cj_seq ?_ | (refine cj_region ?_; refine oj_run TT rfl ?_) | refine oj_then ?_))
    refine cj_if rfl (fun h => ?_) (fun h => ?_)
    rotate_left
    · have hk0 : k = L.length := by have := of_decide_eq_false h; omega
      subst hk0
      (repeat (first | refine cj_exit ?_ | refine nj_then_exit ?_ | refine nj_block_out ?_))
      refine nj_again (⟨σk, L.length, oo, oc⟩ : NwS) ⟨hσ, hoc⟩ Nat.zero_lt_one rfl (by (repeat (first | exact trivial | refine And.intro rfl ?_))) (by (repeat (first | exact trivial | refine And.intro rfl ?_))) rfl ⟨trivial, hfl 3, trivial⟩ trivial
    have hkl : k < L.length := by have := of_decide_eq_true h; omega
    have hI := rinv_run L k
    have hnext : runR ⟨L, [], 0⟩ 0 (k + 1) = stepR (runR ⟨L, [], 0⟩ 0 k) k := by rw [runR_add, runR_one, Nat.zero_add]
    generalize runR ⟨L, [], 0⟩ 0 k = s at *
    have hMl : s.L.length = L.length := by have := congrArg List.length hI.er; simpa using this
    have hlk : lvAt s.L k = L[k].lv := by
      rw [er_lv hI.er k]
      unfold lvAt
      rw [List.getElem?_eq_getElem hkl]
      rfl
    have hlk0 := hlv L[k] (List.getElem_mem hkl)
    have hMk : s.L[k]? = some (s.L[k]'(by omega)) := List.getElem?_eq_getElem _
    have hlk2 : lvAt s.L k = (s.L[k]'(by omega)).lv := by unfold lvAt; rw [hMk]; rfl
    have hst : stepR s k = ⟨setSt (shutS (lvAt s.L k) s.L s.op s.ord).L k (shutS (lvAt s.L k) s.L s.op s.ord).ord, k :: (shutS (lvAt s.L k) s.L s.op s.ord).op, (shutS (lvAt s.L k) s.L s.op s.ord).ord + 1⟩ := rfl
    rw [hst] at hnext
    clear hst
    generalize s.L[k]'(by omega) = y at *
    have hio := hI.op
    have hord := hI.ord
    have hlen := hI.len
    (repeat (first | refine cj_seq ?_ | (refine cj_region ?_; refine oj_run TT rfl ?_) | refine oj_then ?_ | refine cj_skip ?_ | refine cj_block ?_ | refine nj_then ?_))
    refine oj_ldA 2 (off := 0) (c := .v (.slice (some ⟨g1, 0, none⟩) s.L.length bc)) TT rfl rfl rfl rfl rfl rfl rfl rfl rfl rfl rfl trivial (oj_run TT rfl ?_)
    refine oj_indexAddr TT rfl rfl rfl rfl rfl rfl rfl rfl rfl ⟨by omega, by omega⟩ (oj_run TT rfl ?_)
    refine oj_ldA 4 (off := k * 11 + 2) (c := .v (.int .i64 y.lv)) TT rfl rfl rfl rfl rfl (had g1 k 2) rfl rfl rfl rfl (recXs_get hMk rfl) trivial (oj_run TT rfl ?_)
    have hsc := shut_c σk gO gR gL g1 bc y.lv (by omega) oo oc s.L s.op s.ord (by omega) (fun t ht => by have := hio t ht; omega) (by omega) hoc (by omega) (by omega)
    refine oj_callF [0, 1, 2, 3, 4] (A0 := anA gO gR gL g1 bc oo oc s) (Ar := []) rfl rfl rfl rfl rfl rfl rfl Tryd.call146 ⟨trivial, trivial, trivial, trivial, trivial⟩ hsc fun v σ2 A2 hle2 ⟨hv, hA⟩ => ?_
    subst hA
    refine ⟨.tup [], (by (repeat' (first | exact trivial | refine SV.lt_tup ?_))), hv.symm, ?_⟩
    obtain ⟨q1, q2, q3, q4⟩ := shutS_op y.lv s.L s.op s.ord
    have q5 := shutS_len y.lv s.L s.op s.ord
    rw [hlk2] at hnext
    generalize shutS y.lv s.L s.op s.ord = t at *
    have htk : t.L[k]? = some (t.L[k]'(by omega)) := List.getElem?_eq_getElem _
    have hss : setSt t.L k t.ord = t.L.set k ((t.L[k]'(by omega)).atSt t.ord) := by unfold setSt; rw [htk]
    generalize t.L[k]'(by omega) = z at *
    have hset : (recXs t.L).set (k * 11 + 0) (AT.v (.int .i64 t.ord)).val = recXs (t.L.set k (z.atSt t.ord)) := recXs_set (r' := z.atSt t.ord) (.v (.int .i64 t.ord)) htk (by omega) rfl
    have hsl : (t.L.set k (z.atSt t.ord)).length = t.L.length := List.length_set ..
    refine oj_run TT rfl ?_
    (repeat (first | refine cj_seq ?_ | (refine cj_region ?_; refine oj_run TT rfl ?_) | refine oj_then ?_))
    refine oj_ldA 2 (off := 0) (c := .v (.slice (some ⟨g1, 0, none⟩) t.L.length bc)) TT rfl rfl rfl rfl rfl rfl rfl rfl rfl rfl rfl trivial (oj_run TT rfl ?_)
    refine oj_ldA 1 (off := 0) (c := .v (.int .i64 t.ord)) TT rfl rfl rfl rfl rfl rfl rfl rfl rfl rfl rfl trivial (oj_run TT rfl ?_)
    refine oj_indexAddr TT rfl rfl rfl rfl rfl rfl rfl rfl rfl ⟨by omega, by omega⟩ (oj_run TT rfl ?_)
    refine oj_stA 4 (off := k * 11 + 0) (A' := anA gO gR gL g1 bc oo oc ⟨t.L.set k (z.atSt t.ord), t.op, t.ord⟩) TT rfl rfl rfl rfl (had g1 k 0) rfl rfl rfl rfl rfl (by show k * 11 + 0 < t.L.length * 11; omega) trivial rfl ?_ (oj_run TT rfl ?_)
    · show [_, _, _, _, _] = [_, _, _, _, _]
      unfold rE
      dsimp only
      rw [hset, hsl]
    rw [← hss] at hsl ⊢
    generalize setSt t.L k t.ord = M2 at *
    have hM2 : M2.length = t.L.length := hsl
    (repeat (first | refine cj_seq ?_ | (refine cj_region ?_; refine oj_run TT rfl ?_) | refine oj_then ?_))
    refine oj_ldA 1 (off := 0) (c := .v (.int .i64 t.ord)) TT rfl rfl rfl rfl rfl rfl rfl rfl rfl rfl rfl trivial (oj_run TT rfl ?_)
    refine oj_add rfl rfl rfl rfl rfl rfl (by omega) (oj_run TT rfl ?_)
    refine oj_stA 1 (off := 0) (A' := anA gO gR gL g1 bc oo oc ⟨M2, t.op, t.ord + 1⟩) TT rfl rfl rfl rfl rfl rfl rfl rfl rfl rfl (by show 0 < 1 * 1; omega) trivial rfl rfl (oj_run TT rfl ?_)
    (repeat (first | (refine cj_region ?_; refine oj_run TT rfl ?_) | refine oj_then ?_))
    refine oj_ldA 0 (off := 0) (c := .v (.slice oo t.op.length oc)) TT rfl rfl rfl rfl rfl rfl rfl rfl rfl rfl rfl trivial (oj_run TT rfl ?_)
    have hrl : t.op.reverse.length = t.op.length := List.length_reverse ..
    refine oj_append_lit TT 3 rfl rfl rfl rfl rfl rfl rfl rfl rfl (by show (_, _, _, _) = (_, _, _, _); unfold kdE; dsimp only; rw [hrl]) rfl rfl rfl rfl rfl rfl rfl rfl (by (repeat' (first | exact trivial | refine AllLt.of ?_ | constructor))) rfl (by omega) (by show (t.op.length + 1) * 8 ≤ _; omega) fun ao' cap' hcap' => oj_run TT rfl ?_
    have hkd : (⟨ao', t.op.length + 1, cap', (kdE oo oc t.op.reverse).e, (kdE oo oc t.op.reverse).sz, (kdE oo oc t.op.reverse).xs ++ [AT.val (.v (.int .i64 k))]⟩ : AE) = kdE ao' cap' (k :: t.op).reverse := by
      have e1 : (k :: t.op).reverse.length = t.op.length + 1 := by rw [List.length_reverse, List.length_cons]
      unfold kdE
      rw [e1, List.reverse_cons]
      dsimp only
      unfold intVs'
      rw [List.map_append]
      rfl
    refine oj_stA 0 (off := 0) (A' := anA gO gR gL g1 bc ao' cap' ⟨M2, k :: t.op, t.ord + 1⟩) TT rfl rfl rfl rfl rfl rfl rfl rfl rfl rfl (by show 0 < 1 * 1; omega) trivial rfl ?_ (oj_run TT rfl ?_)
    · show [_, _, _, _, _] = [_, _, _, _, _]
      rw [← hkd]
      rfl
    (repeat (first | (refine cj_region ?_; refine oj_run TT rfl ?_) | refine oj_nil ?_ | refine nj_then ?_ | refine nj_block ?_ | (refine oj_add rfl rfl rfl rfl rfl rfl (by omega) ?_; refine oj_run TT rfl ?_)))
    refine nj_again (⟨σ2, k + 1, ao', cap'⟩ : NwS) ⟨hkl, Snap.le_trans hσ hle2, by dsimp only; rw [hnext]; exact hcap'⟩ (by dsimp only; omega) rfl (by (repeat (first | exact trivial | refine And.intro rfl ?_))) (by (repeat (first | exact trivial | refine And.intro rfl ?_))) ?_ ⟨trivial, trivial, trivial, hfl 3, trivial, trivial, trivial⟩ trivial
    dsimp only
    rw [hnext]
  obtain ⟨σo, ko, oo, oc⟩ := o
  dsimp only at hσo hoc ⊢
  have hI := rinv_run L L.length
  have hren : renumG L = (shutS 0 (runR ⟨L, [], 0⟩ 0 L.length).L (runR ⟨L, [], 0⟩ 0 L.length).op (runR ⟨L, [], 0⟩ 0 L.length).ord).L := rfl
  have hrl := renum_len L
  have hrf := fit_er (renum_er L) hF
  have hrw : recsW (renumG L) = recsW L := recsW_er (renum_er L)
  generalize runR ⟨L, [], 0⟩ 0 L.length = s at *
  have hMl : s.L.length = L.length := by have := congrArg List.length hI.er; simpa using this
  have hio := hI.op
  have hord := hI.ord
  have hlen := hI.len
  have hsc := shut_c σo gO gR gL g1 bc 0 (by omega) oo oc s.L s.op s.ord (by omega) (fun t ht => by have := hio t ht; omega) (by omega) hoc (by omega) (by omega)
  (repeat (first | refine cj_seq ?_ | (refine cj_region ?_; refine oj_run TT rfl ?_)))
  refine oj_callF [0, 1, 2, 3, 4] (A0 := anA gO gR gL g1 bc oo oc s) (Ar := []) rfl rfl rfl rfl rfl rfl rfl Tryd.call146 ⟨trivial, trivial, trivial, trivial, trivial⟩ hsc fun v σ2 A2 hle2 ⟨hv, hA⟩ => ?_
  subst hA
  refine ⟨.tup [], (by (repeat' (first | exact trivial | refine SV.lt_tup ?_))), hv.symm, ?_⟩
  have q5 := shutS_len 0 s.L s.op s.ord
  generalize shutS 0 s.L s.op s.ord = t at *
  have htl : t.L = renumG L := hren.symm
  refine oj_run TT rfl ?_
  (repeat (first | refine cj_seq ?_ | (refine cj_region ?_; refine oj_run TT rfl ?_) | refine oj_then ?_))
  refine oj_ldA 2 (off := 0) (c := .v (.slice (some ⟨g1, 0, none⟩) t.L.length bc)) TT rfl rfl rfl rfl rfl rfl rfl rfl rfl rfl rfl trivial ?_
  refine oj_seal 4 rfl rfl rfl fun σ3 hle3 hS => ?_
  have hanw : anewG L = shredG (treeG (renumG L)) 8 := rfl
  rw [hanw]
  clear hren hanw
  have HT : SlAt σ3 (some ⟨g1, 0, none⟩) t.L.length bc 11 (recRows t.L) := rE_sealed hS (by omega)
  rw [htl] at HT ⊢
  generalize renumG L = M at *
  have hMM : M.length = L.length := by rw [← htl]; omega
  have htc := tree_c (enough M) σ3 M _ bc hrf (by omega) HT (by omega) (by unfold enough; omega)
  have htw : (treeG M).weight ≤ 100000 := Nat.le_trans (treeN_w _ M (by omega)) (by omega)
  refine oj_run TT rfl ?_
  refine oj_callS rfl rfl rfl rfl rfl Tryd.call147 (by (repeat' (first | exact trivial | constructor))) htc fun v σ4 hle4 ⟨r, hv, hrep⟩ => ⟨.agg r, hrep.clo, hv.symm, ?_⟩
  rw [show treeN (enough M) M = treeG M from rfl] at hrep
  generalize treeG M = gt at *
  obtain ⟨xla, xlc, xlrows, xma, xmc, xvrows, rfl, XV⟩ := hrep.open
  have hsg : shredG gt 8 = if sane gt ≠ 0 then ([], sane gt) else ((shredV 8 gt 0 false emptyS 0).1, 0) := by unfold shredG; rw [if_neg (by omega)]
  refine oj_run TT rfl ?_
  (repeat (first | refine cj_seq ?_ | (refine cj_region ?_; refine oj_run TT rfl ?_) | refine oj_then ?_))
  refine oj_callP rfl rfl rfl rfl rfl Tryd.call20 (by (repeat' (first | exact trivial | exact vCells_lt _ _ _ _ _ _ | constructor))) (Sane_c σ4 gt _ XV.rep (by omega)) fun v hv => ⟨.a (.v (.int .i64 (sane gt))), trivial, hv.symm, ?_⟩
  refine oj_run TT rfl ?_
  (repeat (first | refine cj_seq ?_ | (refine cj_region ?_; refine oj_run TT rfl ?_) | refine oj_then ?_))
  refine cj_if rfl (fun h => ?_) (fun h => ?_)
  · have h : sane gt ≠ 0 := by simpa using h
    rw [if_pos h] at hsg
    rw [hsg]
    (repeat (first | refine cj_seq ?_ | (refine cj_region ?_; refine oj_run TT rfl ?_) | refine oj_then ?_ | refine cj_ret ?_ | refine nj_then_ret ?_))
    refine nj_ret TT rfl fun β w' _ _ => ?_
    exact ⟨none, 0, rfl, SlAt.nil _ _ _ _⟩
  · (repeat (first | refine cj_seq ?_ | (refine cj_region ?_; refine oj_run TT rfl ?_) | refine cj_skip ?_ | refine nj_then ?_))
    refine oj_callS rfl rfl rfl rfl rfl Tryd.call21 ⟨vCells_lt _ _ _ _ _ _, trivial, trivial⟩ (Shred_s σ4 gt _ 8 XV.rep htw) fun v σ5 hle5 ⟨so, sc, hv, HS⟩ => ⟨.tup [.a (.v (.slice so (shredG gt 8).1.length sc)), .a (.v (.int .i64 (shredG gt 8).2))], (by (repeat' (first | exact trivial | refine SV.lt_tup ?_ | constructor))), hv.symm, ?_⟩
    refine oj_run TT rfl ?_
    (repeat (first | refine oj_then ?_ | refine cj_ret ?_))
    refine nj_ret TT rfl fun β w' _ _ => ?_
    exact ⟨so, sc, rfl, HS⟩
end Go.Sy
namespace Go.Sy
open Go.Proofs

/-! ### run -/

/-- What a change of records gives: the records, what it costs, the error. -/
structure GRes where
  l : List GRec
  laid : Int
  moved : Int
  e : Int
def spliced (L : List GRec) (fr to : Nat) (M : List GRec) : List GRec := L.take fr ++ (M ++ L.drop to)
def runG (L : List GRec) (fr to : Nat) (M : List GRec) (room : Int) : GRes :=
  if (anewG (spliced L fr to M)).2 ≠ 0 then ⟨[], 0, 0, (anewG (spliced L fr to M)).2⟩
  else if room < 2 * (M.length : Int) then ⟨(anewG (spliced L fr to M)).1, M.length, (L.length : Int) - ((to : Int) - fr), 0⟩ else ⟨spliced L fr to M, M.length, 0, 0⟩

def ord105_2 : List (Nat × Tag) := [(0,.pure),(1,.quiet),(2,.pure),(3,.quiet),(4,.pure),(5,.pure),(6,.pure),(7,.quiet),(8,.pure),(9,.quiet),(10,.pure),(11,.keep),(12,.sink),(13,.pure)]

/-- What a change's answer says. -/
def ResOk (σ : Snap) (R : GRes) (v : Value) : Prop := ∃ bo bc, v = .tuple #[.slice bo R.l.length bc, .agg #[.int .i64 R.laid, .int .i64 R.moved], .int .i64 R.e] ∧ SlAt σ bo R.l.length bc 11 (recRows R.l)

theorem anewG_e (L : List GRec) (h : (anewG L).2 ≠ 0) : (anewG L).1 = [] := by
  unfold anewG shredG at h ⊢
  rw [if_neg (by omega)] at h ⊢
  split at h
  · rename_i hs
    rw [if_pos hs]
  · exact absurd rfl h

set_option maxRecDepth 100000 in
set_option maxHeartbeats 1000000 in
theorem run_c (σ : Snap) (g : GVal) (la : Option Addr) (lc : Nat) (lrows : List (List AT)) (ma : Option Addr) (mc : Nat) (vrows : List (List AT)) (V : VAt σ g la lc lrows ma mc vrows) (hw : g.weight ≤ 100000) (hs : sane g = 0)
    (L : List GRec) (ao : Option Addr) (cap : Nat) (H : SlAt σ ao L.length cap 11 (recRows L)) (hL : L.length ≤ 100000) (fr to : Nat) (hft : fr ≤ to) (htn : to ≤ L.length) (top : GRec) (htl : 0 ≤ top.lv ∧ top.lv ≤ 1000000) (room : Int) (f : FuncId) (caps : List PT) (hcap : LtAll (caps.map ptSV)) (hcall : ∀ args w, (callFunc f args).run Tryd.prog w = .ok (.enter f args) w)
    (ν : Int → Int) (hν : ∀ σ' : Snap, σ.le σ' → ∀ k : Int, 0 ≤ k → k < 2 * ((shredV 1 g 0 false emptyS 0).1.length : Nat) → PlainS Tryd.prog f (.a (.v (.int .i64 k)) :: .a (.v (.int .i64 ((shredV 1 g 0 false emptyS 0).1.length : Nat))) :: caps.map ptSV) σ' (fun v => v = .int .i64 (ν k)))
    (hF : RecsFit (spliced L fr to (laidG g top ν))) (hW : recsW (spliced L fr to (laidG g top ν)) ≤ 100000) (hlv : ∀ r ∈ spliced L fr to (laidG g top ν), 0 ≤ r.lv) :
    PureS Tryd.prog 105 [.agg (editCells ao L.length cap fr to top (vCells g la lc ma mc) room f caps)] σ (fun v σ' => ResOk σ' (runG L fr to (laidG g top ν) room) v) := by
  have hML : (laidG g top ν).length = (shredV 1 g 0 false emptyS 0).1.length := by unfold laidG; rw [nameHd_len, List.length_map]
  have hMp : 0 < (laidG g top ν).length := by rw [hML, shredV_eq]; simp
  have hMw : (laidG g top ν).length ≤ 100000 := by
    rw [hML]
    exact Nat.le_trans (shredV_len 1 g 0 false emptyS 0).1 hw
  have hlc := laid_c σ g la lc lrows ma mc vrows V hw hs ao L.length cap fr to top htl room f caps hcap hcall ν hν
  have hfn : ∀ m, (AT.fn (.func f) caps).lt m := fn_lt_caps hcap
  have hce : ∀ m, ∀ c ∈ editCells ao L.length cap fr to top (vCells g la lc ma mc) room f caps, c.lt m := by
    intro m c hc
    unfold editCells at hc
    simp only [List.mem_append, List.mem_cons, List.not_mem_nil, or_false] at hc
    rcases hc with (rfl | rfl | rfl) | hc | hc | rfl | rfl
    · trivial
    · trivial
    · trivial
    · exact recCells_lt m top c hc
    · exact vCells_lt _ _ _ _ _ _ c hc
    · trivial
    · exact hfn m
  generalize laidG g top ν = M at *
  have hrun : runG L fr to M room = if (anewG (spliced L fr to M)).2 ≠ 0 then ⟨[], 0, 0, (anewG (spliced L fr to M)).2⟩
    else if room < 2 * (M.length : Int) then ⟨(anewG (spliced L fr to M)).1, M.length, (L.length : Int) - ((to : Int) - fr), 0⟩ else ⟨spliced L fr to M, M.length, 0, 0⟩ := rfl
  refine enter_s Tryd.func105 rfl rfl ⟨hce 0, trivial⟩ fun w => ?_
  (repeat (first | refine cj_seq ?_ | (refine cj_region ?_; refine oj_run TT rfl ?_) | refine oj_then ?_))
  refine oj_callS rfl rfl rfl rfl rfl Tryd.call131 ⟨hce 0, trivial⟩ hlc fun v σ1 hle1 ⟨mo, mcp, hv, HM⟩ => ⟨.a (.v (.slice mo M.length mcp)), trivial, hv.symm, ?_⟩
  have H := H.mono hle1
  refine oj_run TT rfl ?_
  (repeat (first | refine cj_seq ?_ | refine oj_then ?_))
  refine cj_draw ord105_2 mixed (by kernel_rfl) (oj_run TT rfl ?_)
  refine oj_slice_to TT fr rfl rfl rfl rfl rfl rfl rfl rfl rfl rfl (Nat.le_trans (by omega) H.ncap) H.ncap (oj_run TT rfl ?_)
  refine oj_slice TT to L.length rfl rfl rfl rfl rfl rfl rfl rfl rfl rfl (.inr ⟨_, _, rfl, rfl⟩) (.inl ⟨rfl, rfl⟩) htn H.ncap H.ncap (oj_run TT rfl ?_)
  refine oj_own 2 3 1 rfl (by (repeat' (first | exact trivial | refine AllLt.of ?_ | constructor))) rfl (by decide) fun g3 => ?_
  have hl1 : (L.take fr).length = fr := by rw [List.length_take]; omega
  have hl2 : (L.drop to).length = L.length - to := List.length_drop ..
  have hH1 := H.front (k := fr) (by omega)
  have hH2 := H.sub (l := to) (k := L.length) htn (Nat.le_refl _)
  have e1 : (recRows L).take fr = recRows (L.take fr) := by unfold recRows; rw [List.map_take]
  have e2 : ((recRows L).take L.length).drop to = recRows (L.drop to) := by
    have : L.length = (recRows L).length := (recRows_len L).symm
    rw [this, List.take_length]
    unfold recRows
    rw [List.map_drop]
  rw [e1] at hH1
  rw [e2] at hH2
  generalize hao2 : (if cap = to then ao else ao.map (·.add (to * 11))) = ao2 at hH2
  have hall : allRecs [⟨ao, cap, L.take fr⟩, ⟨mo, mcp, M⟩, ⟨ao2, cap - to, L.drop to⟩] = spliced L fr to M := by
    unfold allRecs spliced
    simp
  have hsplen : (spliced L fr to M).length ≤ 1000000 := Nat.le_trans (recsW_len _) (by omega)
  refine oj_peekF (Φ := fun v A' => ∃ bo bc, v = .slice bo (spliced L fr to M).length bc ∧ (spliced L fr to M).length ≤ bc ∧ A' = [rE bo (spliced L fr to M).length bc (spliced L fr to M)]) rfl rfl rfl rfl rfl Tryd.call132 (by (repeat' (first | exact trivial | constructor))) (fun σ' h1 h2 => by
    have hP : SlAt σ' (some ⟨g3, 0, none⟩) 3 3 1 (rrRows [⟨ao, cap, L.take fr⟩, ⟨mo, mcp, M⟩, ⟨ao2, cap - to, L.drop to⟩]) := ArrSealed.sl (h2 0 _ rfl) (by
        unfold rrRows
        simp only [List.map_cons, List.map_nil]
        rw [hl1, hl2, ← hao2]
        rfl) (fun r hr => by
        unfold rrRows at hr
        obtain ⟨q, _, rfl⟩ := List.mem_map.1 hr
        exact ⟨rfl, by (repeat' (first | exact trivial | refine AllLt.of ?_ | constructor))⟩) rfl rfl (Nat.le_refl 3)
    have := Concat_c σ' [⟨ao, cap, L.take fr⟩, ⟨mo, mcp, M⟩, ⟨ao2, cap - to, L.drop to⟩] (by show 3 ≤ 1000; omega) (by rw [hall]; exact hsplen) (some ⟨g3, 0, none⟩) 3 hP (fun r hr => by
      simp only [List.mem_cons, List.not_mem_nil, or_false] at hr
      rcases hr with rfl | rfl | rfl
      · dsimp only
        rw [hl1]
        exact hH1.mono h1
      · exact HM.mono h1
      · dsimp only
        rw [hl2]
        exact hH2.mono h1)
    rw [hall] at this
    exact this) fun v A' ⟨bo, bc, hv, hbc, hA⟩ => ⟨.a (.v (.slice bo (spliced L fr to M).length bc)), trivial, hv.symm, ?_⟩
  subst hA
  refine oj_run TT rfl ?_
  (repeat (first | refine cj_seq ?_ | (refine cj_region ?_; refine oj_run TT rfl ?_) | refine oj_then ?_))
  refine oj_seal 1 rfl rfl rfl fun σ2 hle2 hS => ?_
  have HO := rE_sealed hS hbc
  have hspos : 0 < (spliced L fr to M).length := by unfold spliced; rw [List.length_append, List.length_append]; omega
  refine oj_callS rfl rfl rfl rfl rfl Tryd.call133 (by (repeat' (first | exact trivial | constructor))) (anew_c σ2 _ hF hspos hW hlv bo bc HO) fun v σ3 hle3 ⟨no, nc, hv, HN⟩ => ⟨.tup [.a (.v (.slice no (anewG (spliced L fr to M)).1.length nc)), .a (.v (.int .i64 (anewG (spliced L fr to M)).2))], (by (repeat' (first | exact trivial | refine SV.lt_tup ?_ | constructor))), hv.symm, ?_⟩
  have HO := HO.mono hle3
  generalize anewG (spliced L fr to M) = N at *
  generalize spliced L fr to M = O at *
  refine oj_run TT rfl ?_
  (repeat (first | refine cj_seq ?_ | (refine cj_region ?_; refine oj_run TT rfl ?_) | refine oj_then ?_ | refine cj_block ?_))
  refine cj_if rfl (fun h => ?_) (fun h => ?_)
  · have h : N.2 ≠ 0 := by simpa using h
    rw [if_pos h] at hrun
    rw [hrun]
    (repeat (first | refine cj_seq ?_ | (refine cj_region ?_; refine oj_run TT rfl ?_) | refine oj_then ?_ | refine cj_ret ?_ | refine nj_then_ret ?_ | refine nj_block_ret ?_))
    refine nj_ret TT rfl fun β w' _ _ => ?_
    exact ⟨none, 0, rfl, SlAt.nil _ _ _ _⟩
  have h : N.2 = 0 := by simpa using h
  rw [if_neg (by simp [h])] at hrun
  (repeat (first | refine cj_seq ?_ | (refine cj_region ?_; refine oj_run TT rfl ?_)))
  refine oj_mul rfl rfl rfl rfl rfl rfl (by omega) (oj_run TT rfl ?_)
  (repeat refine oj_then ?_)
  refine cj_if rfl (fun h2 => ?_) (fun h2 => ?_)
  · have h2 : decide (room < 2 * (M.length : Int)) = true := h2
    rw [if_pos (of_decide_eq_true h2)] at hrun
    rw [hrun]
    (repeat refine cj_seq ?_)
    refine cj_draw [(0,.pure),(1,.pure),(2,.pure),(3,.pure),(4,.quiet),(5,.pure),(6,.pure),(7,.quiet),(8,.pure),(9,.quiet),(10,.pure),(11,.pure),(12,.pure),(13,.pure),(14,.sink),(15,.pure)] mixed (by kernel_rfl) (oj_run TT rfl ?_)
    refine oj_minus rfl rfl rfl rfl rfl rfl (by omega) (oj_run TT rfl ?_)
    refine oj_minus rfl rfl rfl rfl rfl rfl (by omega) (oj_run TT rfl ?_)
    (repeat (first | refine oj_then ?_ | refine cj_ret ?_ | refine nj_then_ret ?_ | refine nj_block_ret ?_))
    refine nj_ret TT rfl fun β w' _ _ => ?_
    exact ⟨no, nc, rfl, HN⟩
  · have h2 : decide (room < 2 * (M.length : Int)) = false := h2
    rw [if_neg (of_decide_eq_false h2)] at hrun
    rw [hrun]
    (repeat (first | refine cj_seq ?_ | (refine cj_region ?_; refine oj_run TT rfl ?_) | refine oj_then ?_ | refine cj_skip ?_ | refine cj_ret ?_ | refine nj_then ?_ | refine nj_block ?_))
    refine nj_ret TT rfl fun β w' _ _ => ?_
    exact ⟨bo, bc, rfl, HO⟩
end Go.Sy
namespace Go.Sy
open Go.Proofs

/-! ### Insert -/

theorem sound_all {L : List GRec} (h : soundG L = true) : L.length ≤ 4096 ∧ nestedG L = true ∧ namedG L = true ∧ ((L.head?.map GRec.en).getD 0) ≤ 1099511627776 ∧ sane (buildG L).1 = 0 := by
  unfold soundG at h
  have h := of_decide_eq_true h
  unfold buildR at h
  split at h
  · exact absurd h (by decide)
  · rename_i h1
    split at h
    · exact absurd h (by decide)
    · rename_i h2
      refine ⟨?_, ?_, ?_, ?_, ?_⟩
      · exact Nat.not_lt.1 fun hc => h1 (.inl (by omega))
      · cases hn : nestedG L with
        | true => rfl
        | false => exact absurd (.inr (.inl hn)) h1
      · cases hn : namedG L with
        | true => rfl
        | false => exact absurd (.inr (.inr (.inl hn))) h1
      · exact Int.not_lt.1 fun hc => h1 (.inr (.inr (.inr (by omega))))
      · simpa using h2

theorem levels_bd : ∀ (L : List GRec) (m : Nat), levelsOk m L → ∀ r ∈ L, 0 ≤ r.lv ∧ r.lv ≤ m + L.length
  | [], _, _, r, hr => by cases hr
  | x :: l, m, ⟨h1, h2, h3⟩, r, hr => by
    rw [List.length_cons]
    rcases List.mem_cons.1 hr with rfl | hr
    · exact ⟨h1, by omega⟩
    · have := levels_bd l _ h3 r hr
      omega
theorem sound_levels {L : List GRec} (h : soundG L = true) : ∀ r ∈ L, 0 ≤ r.lv ∧ r.lv ≤ L.length := by
  have h1 := (sound_all h).2.1
  unfold nestedG at h1
  rw [Bool.and_eq_true] at h1
  have := levels_bd L 0 (nest_levels L 0 [] (-1) h1.1)
  intro r hr
  have := this r hr
  omega

mutual
theorem recsW_V (gap : Int) : ∀ (g : GVal) (lv : Int) (nm : Bool) (name : ByteArray) (now : Int), recsW (shredV gap g lv nm name now).1 ≤ g.weight + name.size
  | .mk k b n s l ks vs, lv, nm, name, now => by
    have h1 := recsW_L gap l (lv + 1) (now + gap)
    have h2 := recsW_M gap vs ks (lv + 1) (shredL gap l (lv + 1) (now + gap)).2
    simp only [shredV, recsW, recsW_append, recW, GVal.weight]
    omega
theorem recsW_L (gap : Int) : ∀ (gs : List GVal) (lv now : Int), recsW (shredL gap gs lv now).1 ≤ GVal.weights gs
  | [], _, _ => by simp [shredL, recsW, GVal.weights]
  | g :: gs, lv, now => by
    have h1 := recsW_V gap g lv false ⟨#[]⟩ now
    have h2 := recsW_L gap gs lv (shredV gap g lv false ⟨#[]⟩ now).2
    have h3 : (⟨#[]⟩ : ByteArray).size = 0 := rfl
    simp only [shredL, recsW_append, GVal.weights]
    omega
theorem recsW_M (gap : Int) : ∀ (gs : List GVal) (ks : List ByteArray) (lv now : Int), recsW (shredM gap gs ks lv now).1 ≤ GVal.weights gs + sizes ks
  | [], _, _, _ => by simp [shredM, recsW]
  | _ :: _, [], _, _ => by simp [shredM, recsW]
  | g :: gs, k :: ks, lv, now => by
    have h1 := recsW_V gap g lv true k now
    have h2 := recsW_M gap gs ks lv (shredV gap g lv true k now).2
    simp only [shredM, recsW_append, GVal.weights, sizes]
    omega
end
theorem recsW_lift (d : Int) (ν : Int → Int) : ∀ L : List GRec, recsW (L.map (lift d ν)) = recsW L
  | [] => rfl
  | r :: l => by rw [List.map_cons, recsW, recsW, recsW_lift d ν l]; rfl
theorem laid_w (g : GVal) (top : GRec) (ν : Int → Int) : recsW (laidG g top ν) ≤ g.weight + top.name.size := by
  have h1 := recsW_V 1 g 0 false emptyS 0
  have h0 : emptyS.size = 0 := rfl
  have h2 := recsW_lift top.lv ν (shredV 1 g 0 false emptyS 0).1
  unfold laidG
  have hsv := shredV_eq 1 g 0 false emptyS 0
  rw [hsv] at h1 h2 ⊢
  dsimp only at h1 h2 ⊢
  rw [List.map_cons] at h2 ⊢
  unfold nameHd
  rw [recsW] at h1 h2 ⊢
  rw [recsW] at h2
  have e1 : recW (reName top.nm top.name (lift top.lv ν ⟨0 + 1, (shredM 1 g.vs g.ks (0 + 1) (shredL 1 g.l (0 + 1) (0 + 1)).2).2 + 1, 0, g.kind, false, emptyS, g.b, g.n, g.s⟩)) = 1 + g.s.size + g.n.dg.size + top.name.size := rfl
  have e2 : recW (lift top.lv ν ⟨0 + 1, (shredM 1 g.vs g.ks (0 + 1) (shredL 1 g.l (0 + 1) (0 + 1)).2).2 + 1, 0, g.kind, false, emptyS, g.b, g.n, g.s⟩) = 1 + g.s.size + g.n.dg.size + emptyS.size := rfl
  have e3 : recW ⟨0 + 1, (shredM 1 g.vs g.ks (0 + 1) (shredL 1 g.l (0 + 1) (0 + 1)).2).2 + 1, 0, g.kind, false, emptyS, g.b, g.n, g.s⟩ = 1 + g.s.size + g.n.dg.size + emptyS.size := rfl
  omega
theorem laid_fit {σ : Snap} {g : GVal} {r : List AT} (hr : RepV σ g r) (top : GRec) (hn : top.name.size ≤ mostLen) (ν : Int → Int) : RecsFit (laidG g top ν) := by
  have h1 := shredV_fit 1 g r 0 false emptyS 0 hr (by decide)
  unfold laidG
  generalize (shredV 1 g 0 false emptyS 0).1 = L at *
  cases L with
  | nil => intro r hr; cases hr
  | cons x l =>
    intro r hr
    rw [List.map_cons] at hr
    rcases List.mem_cons.1 hr with rfl | hr
    · have := h1 x List.mem_cons_self
      exact ⟨this.1, this.2.1, hn⟩
    · obtain ⟨q, hq, rfl⟩ := List.mem_map.1 hr
      exact h1 q (List.mem_cons_of_mem _ hq)
theorem laid_lv {g : GVal} (hw : g.wf) (top : GRec) (h0 : 0 ≤ top.lv) (ν : Int → Int) : ∀ r ∈ laidG g top ν, 0 ≤ r.lv := by
  have h1 := (shred_lay (gap := 1) (by omega) hw 0 false emptyS 0).lvb
  unfold laidG
  generalize (shredV 1 g 0 false emptyS 0).1 = L at *
  cases L with
  | nil => intro r hr; cases hr
  | cons x l =>
    intro r hr
    rw [List.map_cons] at hr
    rcases List.mem_cons.1 hr with rfl | hr
    · have := h1 x List.mem_cons_self
      show 0 ≤ x.lv + top.lv
      omega
    · obtain ⟨q, hq, rfl⟩ := List.mem_map.1 hr
      have := h1 q (List.mem_cons_of_mem _ hq)
      show 0 ≤ q.lv + top.lv
      omega
theorem fit_append {A B : List GRec} (hA : RecsFit A) (hB : RecsFit B) : RecsFit (A ++ B) := fun r hr => by
  rcases List.mem_append.1 hr with h | h
  · exact hA r h
  · exact hB r h
theorem spliced_fit {L M : List GRec} (hL : RecsFit L) (hM : RecsFit M) (fr to : Nat) : RecsFit (spliced L fr to M) := fit_append (hL.take fr) (fit_append hM (hL.drop to))
theorem recsW_take_drop (L : List GRec) (a b : Nat) (h : a ≤ b) : recsW (L.take a) + recsW (L.drop b) ≤ recsW L := by
  have e : L = L.take a ++ ((L.drop a).take (b - a) ++ L.drop b) := by
    conv => lhs; rw [← List.take_append_drop a L]
    congr 1
    conv => lhs; rw [← List.take_append_drop (b - a) (L.drop a)]
    rw [List.drop_drop, show a + (b - a) = b by omega]
  conv => rhs; rw [e]
  rw [recsW_append, recsW_append]
  omega
theorem spliced_w (L M : List GRec) (fr to : Nat) (h : fr ≤ to) : recsW (spliced L fr to M) ≤ recsW L + recsW M := by
  unfold spliced
  rw [recsW_append, recsW_append]
  have := recsW_take_drop L fr to h
  omega
theorem spliced_mem {L M : List GRec} {fr to : Nat} {r : GRec} (h : r ∈ spliced L fr to M) : r ∈ L ∨ r ∈ M := by
  unfold spliced at h
  rcases List.mem_append.1 h with h | h
  · exact .inl (List.mem_of_mem_take h)
  · rcases List.mem_append.1 h with h | h
    · exact .inr h
    · exact .inl (List.mem_of_mem_drop h)

/-- The number of the n-th record's end that is laid into a gap. -/
def gapN (g : GGap) (m n : Int) : Int := g.lo + (g.hi - g.lo).tdiv (2 * m + 1) * (n + 1)
def topG (r : GRec) (nm : Bool) (key : ByteArray) : GRec := ⟨0, 0, r.lv + 1, 0, nm, key, false, dec0, emptyS⟩
def cntS (g : GVal) : Nat := (shredV 1 g 0 false emptyS 0).1.length
/-- A value laid among a record's kids. -/
def insertG (L : List GRec) (i k : Int) (key : ByteArray) (g : GVal) : GRes :=
  if placeE L i ≠ 0 then ⟨[], 0, 0, placeE L i⟩ else
  match L[i.toNat]? with
  | none => ⟨[], 0, 0, 1⟩
  | some r =>
    if r.kd ≠ 4 ∧ r.kd ≠ 5 then ⟨[], 0, 0, 8⟩ else
    match gapG L i.toNat k with
    | none => ⟨[], 0, 0, 1⟩
    | some gp =>
      if r.kd = 5 ∧ sane g = 0 then
        if fitsE L i.toNat key ≠ 0 then ⟨[], 0, 0, fitsE L i.toNat key⟩ else runG L gp.at_.toNat gp.at_.toNat (laidG g (topG r true key) (gapN gp (cntS g))) (gp.hi - gp.lo - 1)
      else if sane g ≠ 0 then ⟨[], 0, 0, sane g⟩ else runG L gp.at_.toNat gp.at_.toNat (laidG g (topG r false emptyS) (gapN gp (cntS g))) (gp.hi - gp.lo - 1)

theorem edit_lt {g : GVal} {la : Option Addr} {lc : Nat} {ma : Option Addr} {mc : Nat} (ao : Option Addr) (n cap : Nat) (fr to : Int) (top : GRec) (room : Int) (f : FuncId) {caps : List PT} (hcap : LtAll (caps.map ptSV)) (m : Nat) : ∀ c ∈ editCells ao n cap fr to top (vCells g la lc ma mc) room f caps, c.lt m := by
  intro c hc
  unfold editCells at hc
  simp only [List.mem_append, List.mem_cons, List.not_mem_nil, or_false] at hc
  rcases hc with (rfl | rfl | rfl) | hc | hc | rfl | rfl
  · trivial
  · trivial
  · trivial
  · exact recCells_lt m top c hc
  · exact vCells_lt _ _ _ _ _ _ c hc
  · trivial
  · exact fn_lt_caps hcap m

theorem bad_ok (σ : Snap) (e : Int) : ResOk σ ⟨[], 0, 0, e⟩ (.tuple #[.slice none 0 0, .agg #[.int .i64 0, .int .i64 0], .int .i64 e]) := ⟨none, 0, rfl, SlAt.nil _ _ _ _⟩

set_option maxRecDepth 100000 in
set_option maxHeartbeats 1000000 in
theorem Insert_c (σ : Snap) (L : List GRec) (S : SndL L) (ao : Option Addr) (cap : Nat) (H : SlAt σ ao L.length cap 11 (recRows L)) (i k : Int) (key : ByteArray) (hkey : key.size ≤ mostLen) (g : GVal) (r : List AT) (hr : RepV σ g r) (hW : recsW L + g.weight + key.size ≤ 100000) :
    PureS Tryd.prog 62 [.a (.v (.slice ao L.length cap)), .a (.v (.int .i64 i)), .a (.v (.int .i64 k)), .a (.v (.string key)), .agg r] σ (fun v σ' => ResOk σ' (insertG L i k key g) v) := by
  obtain ⟨la, lc, lrows, ma, mc, vrows, rfl, V⟩ := hr.open
  have hig : insertG L i k key g = if placeE L i ≠ 0 then ⟨[], 0, 0, placeE L i⟩ else
    match L[i.toNat]? with
    | none => ⟨[], 0, 0, 1⟩
    | some r =>
      if r.kd ≠ 4 ∧ r.kd ≠ 5 then ⟨[], 0, 0, 8⟩ else
      match gapG L i.toNat k with
      | none => ⟨[], 0, 0, 1⟩
      | some gp =>
        if r.kd = 5 ∧ sane g = 0 then
          if fitsE L i.toNat key ≠ 0 then ⟨[], 0, 0, fitsE L i.toNat key⟩ else runG L gp.at_.toNat gp.at_.toNat (laidG g (topG r true key) (gapN gp (cntS g))) (gp.hi - gp.lo - 1)
        else if sane g ≠ 0 then ⟨[], 0, 0, sane g⟩ else runG L gp.at_.toNat gp.at_.toNat (laidG g (topG r false emptyS) (gapN gp (cntS g))) (gp.hi - gp.lo - 1) := rfl
  refine enter_s Tryd.func62 rfl rfl (by (repeat' (first | exact trivial | exact vCells_lt _ _ _ _ _ _ | constructor))) fun w => ?_
  (repeat (first | refine cj_seq ?_ | (refine cj_region ?_; refine oj_run TT rfl ?_) | refine oj_then ?_))
  refine oj_callP rfl rfl rfl rfl rfl Tryd.call101 (by (repeat' (first | exact trivial | constructor))) (place12_c σ L S.ok ao cap H i) fun v hv => ⟨.a (.v (.int .i64 (placeE L i))), trivial, hv.symm, ?_⟩
  refine oj_run TT rfl ?_
  (repeat (first | refine cj_seq ?_ | (refine cj_region ?_; refine oj_run TT rfl ?_) | refine oj_then ?_))
  refine cj_if rfl (fun h => ?_) (fun h => ?_)
  · have h : placeE L i ≠ 0 := by simpa using h
    rw [if_pos h] at hig
    rw [hig]
    (repeat (first | refine cj_seq ?_ | (refine cj_region ?_; refine oj_run TT rfl ?_) | refine oj_then ?_ | refine cj_ret ?_ | refine nj_then_ret ?_))
    refine nj_ret TT rfl fun β w' _ _ => ?_
    exact bad_ok _ _
  have h : placeE L i = 0 := by simpa using h
  rw [if_neg (by simp [h])] at hig
  obtain ⟨hs, hi0, hil⟩ := place_ok h
  obtain ⟨i, rfl⟩ : ∃ j : Nat, i = j := ⟨i.toNat, by omega⟩
  rw [Int.toNat_natCast] at hig
  have hi : i < L.length := by omega
  have hLi : L[i]? = some L[i] := List.getElem?_eq_getElem hi
  rw [hLi] at hig
  dsimp only at hig
  obtain ⟨hk1, hk2⟩ := S.kids hs i hi
  have hrow := recRows_get hLi
  have hlv := sound_levels hs
  have hlvi := hlv L[i] (List.getElem_mem hi)
  have hSL := S.len
  generalize L[i] = x at *
  (repeat (first | refine cj_seq ?_ | (refine cj_region ?_; refine oj_run TT rfl ?_) | refine cj_skip ?_ | refine nj_then ?_))
  refine oj_idx TT rfl rfl rfl rfl rfl rfl rfl rfl rfl H (by omega) hrow (oj_run TT rfl ?_)
  refine oj_nil ?_
  refine nj_then ?_
  refine cj_seq ?_
  refine cj_seq ?_
  refine cj_cutN (fun (_ : Unit) => σ) (fun _ => [(0, .a (.v (.slice ao L.length cap))), (1, .a (.v (.int .i64 i))), (2, .a (.v (.int .i64 k))), (3, .a (.v (.string key))), (9, .a (.p 0 0)), (11, .a (.p 1 0)), (14, .a (.v (.int .i64 x.kd))), (37, .a (.b (!decide (x.kd = 4) && !decide (x.kd = 5))))])
    (fun _ => [(0, .loc 27, vCells g la lc ma mc), (1, .loc 98, [.v (.int .i64 0), .v (.int .i64 0)])]) (fun _ => []) 2 (fun _ => True) ?_ (fun _ _ => ?_)
  · refine cj_region ?_
    refine oj_run TT rfl ?_
    refine oj_split 34 rfl (fun h => ?_) (fun h => ?_)
    · have h : (!decide (x.kd = 4)) = true := h
      refine oj_run TT rfl ?_
      (repeat refine oj_nil ?_)
      refine nj_set 37 (.a (.b (!decide (x.kd = 4) && !decide (x.kd = 5)))) rfl trivial (fun β => by rw [h, Bool.true_and]) ?_
      refine nj_again () trivial Nat.zero_lt_one rfl (by (repeat (first | exact trivial | refine And.intro rfl ?_))) (by (repeat (first | exact trivial | refine And.intro rfl ?_))) rfl (by (repeat' (first | exact trivial | exact Nat.le_of_ble_eq_true rfl | constructor))) (by (repeat' (first | exact trivial | exact Nat.le_of_ble_eq_true rfl | exact vCells_lt _ _ _ _ _ _ | refine AllLt.of ?_ | constructor)))
    · have h : (!decide (x.kd = 4)) = false := h
      refine oj_run TT rfl ?_
      (repeat refine oj_nil ?_)
      refine nj_set 37 (.a (.b (!decide (x.kd = 4) && !decide (x.kd = 5)))) rfl trivial (fun β => by rw [h, Bool.false_and]; rfl) ?_
      refine nj_again () trivial Nat.zero_lt_one rfl (by (repeat (first | exact trivial | refine And.intro rfl ?_))) (by (repeat (first | exact trivial | refine And.intro rfl ?_))) rfl (by (repeat' (first | exact trivial | exact Nat.le_of_ble_eq_true rfl | constructor))) (by (repeat' (first | exact trivial | exact Nat.le_of_ble_eq_true rfl | exact vCells_lt _ _ _ _ _ _ | refine AllLt.of ?_ | constructor)))
  skip
  refine cj_if rfl (fun h => ?_) (fun h => ?_)
  · have h1 : (!decide (x.kd = 4) && !decide (x.kd = 5)) = true := h
    rw [Bool.and_eq_true] at h1
    rw [if_pos ⟨by simpa using h1.1, by simpa using h1.2⟩] at hig
    rw [hig]
    (repeat (first | refine cj_seq ?_ | (refine cj_region ?_; refine oj_run TT rfl ?_) | refine oj_then ?_ | refine cj_ret ?_ | refine nj_then_ret ?_))
    refine nj_ret TT rfl fun β w' _ _ => ?_
    exact bad_ok _ _
  have hkd : x.kd = 4 ∨ x.kd = 5 := by
    have h1 : (!decide (x.kd = 4) && !decide (x.kd = 5)) = false := h
    rw [Bool.and_eq_false_iff] at h1
    simpa using h1
  rw [if_neg (by omega)] at hig
  have hc := find_c σ L S.ok ao cap H i hi hs S.len hk1 hk2 k
  (repeat (first | refine cj_seq ?_ | (refine cj_region ?_; refine oj_run TT rfl ?_) | refine cj_skip ?_ | refine nj_then ?_))
  cases hg : gapG L i k with
  | none =>
    rw [hg] at hig hc
    dsimp only at hig
    rw [hig]
    refine oj_callS rfl rfl rfl rfl rfl Tryd.call102 (by (repeat' (first | exact trivial | constructor))) hc fun v σ1 hle1 hv => ⟨.tup [.agg (gapCells gap0), .a .ff], (by unfold gapCells; (repeat' (first | exact trivial | refine AllLt.of ?_ | refine SV.lt_tup ?_ | constructor))), hv.symm, ?_⟩
    refine oj_run TT rfl ?_
    (repeat (first | refine cj_seq ?_ | (refine cj_region ?_; refine oj_run TT rfl ?_) | refine oj_then ?_ | refine cj_if_t rfl ?_ | refine cj_ret ?_ | refine nj_then_ret ?_))
    refine nj_ret TT rfl fun β w' _ _ => ?_
    exact bad_ok _ _
  | some gp =>
    rw [hg] at hig hc
    dsimp only at hig
    obtain ⟨n1, n2, n3, n4, n5, n6⟩ := gap_num S hs hi hg
    obtain ⟨at_, hat⟩ : ∃ j : Nat, gp.at_ = j := ⟨gp.at_.toNat, by omega⟩
    rw [hat, Int.toNat_natCast] at hig
    have hatl : at_ ≤ L.length := by omega
    refine oj_callS rfl rfl rfl rfl rfl Tryd.call102 (by (repeat' (first | exact trivial | constructor))) hc fun v σ1 hle1 hv => ⟨.tup [.agg (gapCells gp), .a .tt], (by unfold gapCells; (repeat' (first | exact trivial | refine AllLt.of ?_ | refine SV.lt_tup ?_ | constructor))), hv.symm, ?_⟩
    have H := H.mono hle1
    have V := V.monoC hle1.cle
    refine oj_run TT rfl ?_
    (repeat (first | refine cj_seq ?_ | (refine cj_region ?_; refine oj_run TT rfl ?_) | refine oj_then ?_ | refine cj_if_f rfl ?_ | refine cj_skip ?_ | refine nj_then ?_))
    refine oj_callP rfl rfl rfl rfl rfl Tryd.call20 (by (repeat' (first | exact trivial | exact vCells_lt _ _ _ _ _ _ | constructor))) (Sane_c σ1 g _ V.rep (by omega)) fun v hv => ⟨.a (.v (.int .i64 (sane g))), trivial, hv.symm, ?_⟩
    refine oj_run TT rfl ?_
    (repeat (first | refine cj_seq ?_ | (refine cj_region ?_; refine oj_run TT rfl ?_) | refine oj_then ?_))
    refine oj_idx TT rfl rfl rfl rfl rfl rfl rfl rfl rfl H (by omega) hrow (oj_run TT rfl ?_)
    refine oj_add rfl rfl rfl rfl rfl rfl (by omega) (oj_run TT rfl ?_)
    refine oj_nil ?_
    refine nj_then ?_
    refine cj_seq ?_
    refine cj_cutN (fun (s : Snap × Bool × ByteArray × Int) => s.1) (fun s => [(0, .a (.v (.slice ao L.length cap))), (9, .a (.p 0 0)), (11, .a (.p 1 0)), (15, .a (.p 2 0)), (17, .a (.v (.int .i64 s.2.2.2))), (18, .a (.p 4 0))])
      (fun s => [(0, .loc 27, vCells g la lc ma mc), (1, .loc 98, [.v (.int .i64 0), .v (.int .i64 0)]), (2, .loc 153, gapCells gp), (4, .loc 36, recCells (topG x s.2.1 s.2.2.1))]) (fun _ => []) 5
      (fun s => σ1.le s.1 ∧ ((x.kd = 5 ∧ sane g = 0 ∧ s.2.1 = true ∧ s.2.2.1 = key ∧ s.2.2.2 = fitsE L i key) ∨ (¬ (x.kd = 5 ∧ sane g = 0) ∧ s.2.1 = false ∧ s.2.2.1 = emptyS ∧ s.2.2.2 = sane g))) ?_ (fun ⟨σ2, nm, nk, e⟩ ⟨hle2, hcase⟩ => ?_)
    · (repeat (first | refine cj_seq ?_ | (refine cj_region ?_; refine oj_run TT rfl ?_)))
      refine oj_split 60 rfl (fun h => ?_) (fun h => ?_)
      rotate_left
      · have h : decide (x.kd = 5) = false := h
        have h := of_decide_eq_false h
        refine oj_run TT rfl ?_
        (repeat (first | refine oj_then ?_ | refine cj_if_f rfl ?_ | refine cj_skip ?_))
        refine nj_rowset 4 (recCells (topG x false emptyS)) rfl (fun _ => rfl) (recCells_lt _ _) ?_
        refine nj_again (σ1, false, emptyS, sane g) ⟨Snap.le_refl _, .inr ⟨fun hc => h hc.1, rfl, rfl, rfl⟩⟩ Nat.zero_lt_one rfl (by (repeat (first | exact trivial | refine And.intro rfl ?_))) (by unfold gapCells; (repeat (first | exact trivial | refine And.intro rfl ?_))) rfl (by (repeat' (first | exact trivial | exact Nat.le_of_ble_eq_true rfl | constructor))) ⟨⟨by decide, vCells_lt _ _ _ _ _ _⟩, ⟨by decide, by (repeat' (first | exact trivial | refine AllLt.of ?_ | constructor))⟩, ⟨by decide, by unfold gapCells; (repeat' (first | exact trivial | refine AllLt.of ?_ | constructor))⟩, ⟨by decide, recCells_lt _ _⟩, trivial⟩
      · have h : decide (x.kd = 5) = true := h
        have h := of_decide_eq_true h
        refine oj_run TT rfl ?_
        (repeat refine oj_then ?_)
        refine cj_if rfl (fun h2 => ?_) (fun h2 => ?_)
        rotate_left
        · have h2 := of_decide_eq_false h2
          (repeat refine cj_skip ?_)
          refine nj_rowset 4 (recCells (topG x false emptyS)) rfl (fun _ => rfl) (recCells_lt _ _) ?_
          refine nj_again (σ1, false, emptyS, sane g) ⟨Snap.le_refl _, .inr ⟨fun hc => h2 hc.2, rfl, rfl, rfl⟩⟩ Nat.zero_lt_one rfl (by (repeat (first | exact trivial | refine And.intro rfl ?_))) (by unfold gapCells; (repeat (first | exact trivial | refine And.intro rfl ?_))) rfl (by (repeat' (first | exact trivial | exact Nat.le_of_ble_eq_true rfl | constructor))) ⟨⟨by decide, vCells_lt _ _ _ _ _ _⟩, ⟨by decide, by (repeat' (first | exact trivial | refine AllLt.of ?_ | constructor))⟩, ⟨by decide, by unfold gapCells; (repeat' (first | exact trivial | refine AllLt.of ?_ | constructor))⟩, ⟨by decide, recCells_lt _ _⟩, trivial⟩
        · have h2 := of_decide_eq_true h2
          (repeat (first | refine cj_seq ?_ | (refine cj_region ?_; refine oj_run TT rfl ?_) | refine oj_then ?_))
          refine oj_callS rfl rfl rfl rfl rfl Tryd.call103 (by (repeat' (first | exact trivial | constructor))) (fits12_c σ1 L S.ok ao cap H i hi hs S.len hk1 hk2 key hkey) fun v σ2 hle2 hv => ⟨.a (.v (.int .i64 (fitsE L i key))), trivial, hv.symm, ?_⟩
          refine oj_run TT rfl ?_
          (repeat refine oj_nil ?_)
          refine nj_rowset 4 (recCells (topG x true key)) rfl (fun _ => rfl) (recCells_lt _ _) ?_
          refine nj_again (σ2, true, key, fitsE L i key) ⟨hle2, .inl ⟨h, h2, rfl, rfl, rfl⟩⟩ Nat.zero_lt_one rfl (by (repeat (first | exact trivial | refine And.intro rfl ?_))) (by unfold gapCells; (repeat (first | exact trivial | refine And.intro rfl ?_))) rfl (by (repeat' (first | exact trivial | exact Nat.le_of_ble_eq_true rfl | constructor))) ⟨⟨by decide, vCells_lt _ _ _ _ _ _⟩, ⟨by decide, by (repeat' (first | exact trivial | refine AllLt.of ?_ | constructor))⟩, ⟨by decide, by unfold gapCells; (repeat' (first | exact trivial | refine AllLt.of ?_ | constructor))⟩, ⟨by decide, recCells_lt _ _⟩, trivial⟩
    dsimp only at hle2 hcase ⊢
    have hig2 : insertG L i k key g = if e ≠ 0 then ⟨[], 0, 0, e⟩ else runG L at_ at_ (laidG g (topG x nm nk) (gapN gp (cntS g))) (gp.hi - gp.lo - 1) := by
      rw [hig]
      rcases hcase with ⟨c1, c2, rfl, rfl, rfl⟩ | ⟨c1, rfl, rfl, rfl⟩
      · rw [if_pos ⟨c1, c2⟩]
      · rw [if_neg c1]
    have hes : e = 0 → sane g = 0 := fun he => by
      rcases hcase with ⟨c1, c2, -⟩ | ⟨-, -, -, c4⟩
      · exact c2
      · omega
    have hnk : nk.size ≤ key.size := by
      rcases hcase with ⟨-, -, -, rfl, -⟩ | ⟨-, -, rfl, -⟩
      · exact Nat.le_refl _
      · exact Nat.zero_le _
    clear hig hcase
    rw [hig2]
    have H := H.mono hle2
    have V := V.monoC hle2.cle
    (repeat (first | refine cj_seq ?_ | (refine cj_region ?_; refine oj_run TT rfl ?_) | refine oj_then ?_))
    refine cj_if rfl (fun h => ?_) (fun h => ?_)
    · have h : e ≠ 0 := by simpa using h
      rw [if_pos h]
      (repeat (first | refine cj_seq ?_ | (refine cj_region ?_; refine oj_run TT rfl ?_) | refine oj_then ?_ | refine cj_ret ?_ | refine nj_then_ret ?_))
      refine nj_ret TT rfl fun β w' _ _ => ?_
      exact bad_ok _ _
    have h : e = 0 := by simpa using h
    rw [if_neg (by simp [h])]
    have hsg := hes h
    refine cj_skip ?_
    refine nj_then ?_
    refine cj_own 2 1 3 rfl (by unfold gapCells; (repeat' (first | exact trivial | refine AllLt.of ?_ | constructor))) rfl (by decide) fun gb => ?_
    refine cj_seal 0 rfl rfl fun σ3 hle3 hS => ?_
    have hcell : ∀ (j : Nat) c, (gapCells gp)[j]? = some c → σ3.cell ⟨gb, j, none⟩ = some c.val := fun j c hj => by
      rcases hS with ⟨h, _⟩ | ⟨g', h1, h2⟩
      · cases h
      · obtain rfl : gb = g' := by simpa using h1
        exact h2 j _ (by rw [List.getElem?_map, hj]; rfl)
    have c0 := hcell 0 _ rfl
    have c1 := hcell 1 _ rfl
    have c2 := hcell 2 _ rfl
    rw [hat] at c0
    have H := H.mono hle3
    have V := V.monoC hle3.cle
    (repeat (first | refine cj_seq ?_ | (refine cj_region ?_; refine oj_run TT rfl ?_)))
    refine oj_ldS (c := .v (.int .i64 at_)) TT rfl rfl rfl rfl rfl rfl rfl rfl c0 trivial (oj_run TT rfl ?_)
    refine oj_ldS (c := .v (.int .i64 at_)) TT rfl rfl rfl rfl rfl rfl rfl rfl c0 trivial (oj_run TT rfl ?_)
    refine oj_ldS (c := .v (.int .i64 gp.hi)) TT rfl rfl rfl rfl rfl rfl rfl rfl c2 trivial (oj_run TT rfl ?_)
    refine oj_ldS (c := .v (.int .i64 gp.lo)) TT rfl rfl rfl rfl rfl rfl rfl rfl c1 trivial (oj_run TT rfl ?_)
    refine oj_minus rfl rfl rfl rfl rfl rfl (by omega) (oj_run TT rfl ?_)
    refine oj_minus rfl rfl rfl rfl rfl rfl (by omega) (oj_run TT rfl ?_)
    (repeat (first | refine cj_seq ?_ | (refine cj_region ?_; refine oj_run TT rfl ?_) | refine oj_then ?_))
    have hct : cntS g = (shredV 1 g 0 false emptyS 0).1.length := rfl
    have hcw : cntS g ≤ 100000 := by rw [hct]; have := (shredV_len 1 g 0 false emptyS 0).1; omega
    have hlw := laid_w g (topG x nm nk) (gapN gp (cntS g))
    have hsw := spliced_w L (laidG g (topG x nm nk) (gapN gp (cntS g))) at_ at_ (Nat.le_refl _)
    have htn : (topG x nm nk).name.size = nk.size := rfl
    have hrc := run_c σ3 g la lc lrows ma mc vrows V (by omega) hsg L ao cap H (by omega) at_ at_ (Nat.le_refl _) hatl (topG x nm nk) ⟨by show 0 ≤ x.lv + 1; omega, by show x.lv + 1 ≤ 1000000; omega⟩ (gp.hi - gp.lo - 1) 104 [ptrTo gb] ⟨trivial, trivial⟩ Tryd.call104
      (gapN gp (cntS g)) (fun σ' hle' q h0 h1 => number12_c σ' gp gb (fun j c hj => hle'.cell (hcell j c hj)) q _ ⟨n1, n2⟩ ⟨n3, n4⟩ (by omega) (by omega))
      (spliced_fit S.ok.fit (laid_fit V.rep (topG x nm nk) (by rw [htn]; omega) _) at_ at_) (by omega) (fun q hq => by
        rcases spliced_mem hq with hq | hq
        · exact (hlv q hq).1
        · exact laid_lv V.rep.wf (topG x nm nk) (by show 0 ≤ x.lv + 1; omega) _ q hq)
    have hlt := edit_lt (g := g) (la := la) (lc := lc) (ma := ma) (mc := mc) ao L.length cap (at_ : Int) (at_ : Int) (topG x nm nk) (gp.hi - gp.lo - 1) 104 (caps := [ptrTo gb]) ⟨trivial, trivial⟩ 0
    generalize runG L at_ at_ (laidG g (topG x nm nk) (gapN gp (cntS g))) (gp.hi - gp.lo - 1) = R at *
    refine oj_callS (ys := [.agg (editCells ao L.length cap (at_ : Int) (at_ : Int) (topG x nm nk) (vCells g la lc ma mc) (gp.hi - gp.lo - 1) 104 [ptrTo gb])]) rfl rfl rfl rfl rfl Tryd.call105 ⟨hlt, trivial⟩ hrc fun v σ4 hle4 ⟨bo, bc, hv, HR⟩ => ⟨.tup [.a (.v (.slice bo R.l.length bc)), .agg [.v (.int .i64 R.laid), .v (.int .i64 R.moved)], .a (.v (.int .i64 R.e))], (by (repeat' (first | exact trivial | refine AllLt.of ?_ | refine SV.lt_tup ?_ | constructor))), hv.symm, ?_⟩
    refine oj_run TT rfl ?_
    (repeat (first | refine oj_then ?_ | refine cj_ret ?_))
    refine nj_ret TT rfl fun β w' _ _ => ?_
    exact ⟨bo, bc, rfl, HR⟩
end Go.Sy
namespace Go.Sy
open Go.Proofs

/-! ### awake -/

def oneS : ByteArray := ⟨#[49]⟩
def oneG : GVal := .mk 2 false ⟨false, oneS, 0⟩ emptyS [] [] []
def arrG : GVal := .mk 4 false dec0 emptyS [oneG] [] []
def arrL : List GRec := [⟨10, 40, 0, 4, false, emptyS, false, dec0, emptyS⟩, ⟨20, 30, 1, 2, false, emptyS, false, ⟨false, oneS, 0⟩, emptyS⟩]
def arrM : List GRec := [⟨10, 40, 0, 4, false, emptyS, false, dec0, emptyS⟩, ⟨20, 30, 1, 2, false, emptyS, false, ⟨false, oneS, 0⟩, emptyS⟩, ⟨33, 36, 1, 2, false, emptyS, false, ⟨false, oneS, 0⟩, emptyS⟩]
theorem ar_shred : shredG arrG 10 = (arrL, 0) := by decide
theorem ar_sound : soundG arrL = true := by decide
theorem ar_ins : insertG arrL 0 1 emptyS oneG = ⟨arrM, 1, 0, 0⟩ := by
  kernel_rfl
theorem ar_room : roomG arrL 0 1 = 9 := by decide
theorem ar_ok : RecsOk arrL := ⟨by decide, fun r hr => by simp only [arrL, List.mem_cons, List.not_mem_nil, or_false] at hr; rcases hr with rfl | rfl <;> exact ⟨by decide, by decide, by decide⟩, fun _ => by decide⟩
theorem ar_snd : SndL arrL := ⟨ar_ok, by decide, fun _ => by decide, fun _ => by decide⟩

set_option maxRecDepth 100000 in
set_option maxHeartbeats 1000000 in
theorem awake12_c (σ : Snap) : PureS Tryd.prog 60 [] σ (fun v _ => v = .bool true) := by
  refine enter_s Tryd.func60 rfl rfl (by (repeat' exact trivial)) fun w => ?_
  have hrep0 : ∀ σ' : Snap, RepV σ' oneG (vCells oneG none 0 none 0) := fun σ' => by
    simp only [oneG, RepV]
    exact ⟨none, 0, [], none, 0, [], rfl, SlAt.nil _ _ _ _, rfl, rfl, SlAt.nil _ _ _ _, rfl, by decide, by decide, by decide, by decide, fun k h => (by cases h)⟩
  (repeat (first | refine cj_seq ?_ | (refine cj_region ?_; refine oj_run TT rfl ?_) | refine oj_then ?_))
  refine oj_own 1 1 8 rfl (by (repeat' (first | exact trivial | refine AllLt.of ?_ | constructor))) rfl (by decide) fun g1 => ?_
  refine oj_seal 0 rfl rfl rfl fun σ1 hle1 hS => ?_
  have H1 : SlAt σ1 (some ⟨g1, 0, none⟩) 1 1 8 [vCells oneG none 0 none 0] := hS.sl (rows := [vCells oneG none 0 none 0]) rfl (fun r hr => by rw [List.mem_singleton.1 hr]; exact ⟨rfl, vCells_lt _ _ _ _ _ _⟩) rfl rfl (Nat.le_refl _)
  have hrep : RepV σ1 arrG (vCells arrG (some ⟨g1, 0, none⟩) 1 none 0) := by
    simp only [arrG, RepV]
    exact ⟨some ⟨g1, 0, none⟩, 1, _, none, 0, [], rfl, H1, ⟨_, _, rfl, hrep0 σ1, rfl⟩, rfl, SlAt.nil _ _ _ _, rfl, by decide, by decide, by decide, by decide, fun k h => (by cases h)⟩
  refine oj_set 12 (.agg (vCells arrG (some ⟨g1, 0, none⟩) 1 none 0)) rfl (vCells_lt _ _ _ _ _ _) (fun _ => rfl) ?_
  refine oj_callS rfl rfl rfl rfl rfl Tryd.call21 ⟨vCells_lt _ _ _ _ _ _, trivial, trivial⟩ (Shred_s σ1 arrG _ 10 hrep (by decide)) fun v σ2 hle2 ⟨ao, cap, hv, H⟩ => ⟨.tup [.a (.v (.slice ao 2 cap)), .a (.v (.int .i64 0))], (by (repeat' (first | exact trivial | refine SV.lt_tup ?_ | constructor))), (by rw [hv, ar_shred]; rfl), ?_⟩
  rw [ar_shred] at H
  have H : SlAt σ2 ao 2 cap 11 (recRows arrL) := H
  refine oj_run TT rfl ?_
  (repeat (first | refine cj_seq ?_ | (refine cj_region ?_; refine oj_run TT rfl ?_) | refine oj_then ?_))
  refine oj_set 18 (.agg (vCells oneG none 0 none 0)) rfl (vCells_lt _ _ _ _ _ _) (fun _ => rfl) ?_
  have hins := Insert_c σ2 arrL ar_snd ao cap H 0 1 emptyS (by decide) oneG _ (hrep0 σ2) (by decide)
  rw [ar_ins] at hins
  refine oj_callS rfl rfl rfl rfl rfl Tryd.call62 ⟨trivial, trivial, trivial, trivial, vCells_lt _ _ _ _ _ _, trivial⟩ hins fun v σ3 hle3 ⟨bo, bc, hv, HM⟩ => ⟨.tup [.a (.v (.slice bo 3 bc)), .agg [.v (.int .i64 1), .v (.int .i64 0)], .a (.v (.int .i64 0))], (by (repeat' (first | exact trivial | refine AllLt.of ?_ | refine SV.lt_tup ?_ | constructor))), hv.symm, ?_⟩
  have H := H.mono hle3
  have HM : SlAt σ3 bo 3 bc 11 (recRows arrM) := HM
  refine oj_run TT rfl ?_
  (repeat (first | refine cj_seq ?_ | (refine cj_region ?_; refine oj_run TT rfl ?_) | refine oj_then ?_))
  refine oj_split 25 rfl (fun h => ?_) (fun h => absurd h (by decide))
  refine oj_run TT rfl ?_
  refine oj_split 29 rfl (fun h => ?_) (fun h => absurd h (by decide))
  refine oj_run TT rfl ?_
  refine oj_split 34 rfl (fun h => ?_) (fun h => absurd h (by decide))
  refine oj_run TT rfl ?_
  refine oj_idx TT rfl rfl rfl rfl rfl rfl rfl rfl rfl HM (by decide) (show (recRows arrM)[(2 : Int).toNat]? = some (recCells arrM[2]) from rfl) (oj_run TT rfl ?_)
  refine oj_split 41 rfl (fun h => ?_) (fun h => absurd h (by decide))
  refine oj_run TT rfl ?_
  refine oj_idx TT rfl rfl rfl rfl rfl rfl rfl rfl rfl HM (by decide) (show (recRows arrM)[(2 : Int).toNat]? = some (recCells arrM[2]) from rfl) (oj_run TT rfl ?_)
  refine oj_split 48 rfl (fun h => ?_) (fun h => absurd h (by decide))
  refine oj_run TT rfl ?_
  refine oj_split 53 rfl (fun h => ?_) (fun h => absurd h (by decide))
  refine oj_run TT rfl ?_
  refine oj_split 58 rfl (fun h => ?_) (fun h => absurd h (by decide))
  refine oj_run TT rfl ?_
  refine oj_callS rfl rfl rfl rfl rfl Tryd.call61 (by (repeat' (first | exact trivial | constructor))) (Room_c σ3 arrL ar_snd ao cap H 0 1) fun v σ4 hle4 hv => ⟨.a (.v (.int .i64 9)), trivial, (by rw [hv, ar_room]; rfl), ?_⟩
  refine oj_run TT rfl ?_
  (repeat (first | refine oj_then ?_ | refine cj_ret ?_))
  refine nj_ret TT rfl fun β w' _ _ => ?_
  rfl
end Go.Sy
namespace Go.Sy
open Go.Proofs

/-! ### Spread -/

def spreadG (L : List GRec) (gap : Int) : List GRec × Int := if (buildR L).2 ≠ 0 then ([], (buildR L).2) else shredG (buildR L).1 gap

set_option maxRecDepth 100000 in
set_option maxHeartbeats 1000000 in
theorem Spread_c (σ : Snap) (L : List GRec) (R : RecsOk L) (hw : (buildR L).1.weight ≤ 100000) (ao : Option Addr) (cap : Nat) (H : SlAt σ ao L.length cap 11 (recRows L)) (gap : Int) :
    PureS Tryd.prog 63 [.a (.v (.slice ao L.length cap)), .a (.v (.int .i64 gap))] σ (fun v σ' => ∃ bo bc, v = .tuple #[.slice bo (spreadG L gap).1.length bc, .int .i64 (spreadG L gap).2] ∧ SlAt σ' bo (spreadG L gap).1.length bc 11 (recRows (spreadG L gap).1)) := by
  have hsp : spreadG L gap = if (buildR L).2 ≠ 0 then ([], (buildR L).2) else shredG (buildR L).1 gap := rfl
  refine enter_s Tryd.func63 rfl rfl (by (repeat' (first | exact trivial | constructor))) fun w => ?_
  (repeat (first | refine cj_seq ?_ | (refine cj_region ?_; refine oj_run TT rfl ?_) | refine oj_then ?_))
  refine oj_callS rfl rfl rfl rfl rfl Tryd.call22 ⟨trivial, trivial⟩ (Build_c σ L R.len R.fit R.bw ao cap H) fun v σ1 hle1 ⟨r, hv, hrep⟩ => ⟨.tup [.agg r, .a (.v (.int .i64 (buildR L).2))], SV.lt_tup ⟨hrep.clo, trivial, trivial⟩, hv.symm, ?_⟩
  generalize buildR L = B at *
  obtain ⟨xla, xlc, xlrows, xma, xmc, xvrows, rfl, XV⟩ := hrep.open
  refine oj_run TT rfl ?_
  (repeat (first | refine cj_seq ?_ | (refine cj_region ?_; refine oj_run TT rfl ?_) | refine oj_then ?_))
  refine cj_if rfl (fun h => ?_) (fun h => ?_)
  · have h : B.2 ≠ 0 := by simpa using h
    rw [if_pos h] at hsp
    rw [hsp]
    (repeat (first | refine cj_seq ?_ | (refine cj_region ?_; refine oj_run TT rfl ?_) | refine oj_then ?_ | refine cj_ret ?_ | refine nj_then_ret ?_))
    refine nj_ret TT rfl fun β w' _ _ => ?_
    exact ⟨none, 0, rfl, SlAt.nil _ _ _ _⟩
  · have h : B.2 = 0 := by simpa using h
    rw [if_neg (by simp [h])] at hsp
    rw [hsp]
    (repeat (first | refine cj_seq ?_ | (refine cj_region ?_; refine oj_run TT rfl ?_) | refine cj_skip ?_ | refine nj_then ?_))
    refine oj_callS rfl rfl rfl rfl rfl Tryd.call21 ⟨vCells_lt _ _ _ _ _ _, trivial, trivial⟩ (Shred_s σ1 B.1 _ gap XV.rep hw) fun v σ2 hle2 ⟨so, sc, hv, HS⟩ => ⟨.tup [.a (.v (.slice so (shredG B.1 gap).1.length sc)), .a (.v (.int .i64 (shredG B.1 gap).2))], (by (repeat' (first | exact trivial | refine SV.lt_tup ?_ | constructor))), hv.symm, ?_⟩
    refine oj_run TT rfl ?_
    (repeat (first | refine oj_then ?_ | refine cj_ret ?_))
    refine nj_ret TT rfl fun β w' _ _ => ?_
    exact ⟨so, sc, rfl, HS⟩
end Go.Sy
/- Plain law: the gaps of a shred. No program in sight. -/
namespace Go.Sy

theorem cntI_take_succ {xs : List Itm} {m : Nat} {x : Itm} (h : xs[m]? = some x) : cntI (xs.take (m + 1)) = cntI (xs.take m) + cntV x.v := by
  have hm := (List.getElem?_eq_some_iff.1 h).1
  have hx := (List.getElem?_eq_some_iff.1 h).2
  unfold cntI
  rw [List.take_succ_eq_append_getElem hm, hx, valsI_append, cntL_append]
  rfl
theorem wI_take_succ {gap : Int} {xs : List Itm} {m : Nat} {x : Itm} (h : xs[m]? = some x) : wI gap (xs.take (m + 1)) = wI gap (xs.take m) + wV gap x.v := by
  have hm := (List.getElem?_eq_some_iff.1 h).1
  have hx := (List.getElem?_eq_some_iff.1 h).2
  unfold wI
  rw [List.take_succ_eq_append_getElem hm, hx, valsI_append, wL_append]
  show _ = _ + wV gap x.v
  congr 1
  show wV gap x.v + wL gap [] = _
  rw [wL]
  omega

theorem kid_pos {gap : Int} (hg : 0 < gap) {L : List GRec} {h : GVal} {p : Nat} {now : Int} {pre : List GStep} (hl : Loc gap L h p now pre) : (kidsG L p).length = (its h).length ∧ ∀ (m : Nat) (x : Itm), (its h)[m]? = some x → (kidsG L p)[m]? = some (p + 1 + cntI ((its h).take m)) := by
  have hk := hl.kids hg
  have hv := vals_its hl.wf
  have hlen : (its h).length = (h.l ++ h.vs).length := by rw [← hv]; simp [valsI]
  have hpl : ∀ (gs : List GVal) (p : Nat), (pos gs p).length = gs.length := by
    intro gs
    induction gs with
    | nil => intro _; rfl
    | cons g gs ih => intro p; rw [pos, List.length_cons, List.length_cons, ih]
  rw [hk]
  refine ⟨by rw [hpl, hlen], fun m x hx => ?_⟩
  have hm := (List.getElem?_eq_some_iff.1 hx).1
  rw [pos_get _ _ _ (by omega)]
  congr 2
  rw [← hv]
  unfold cntI valsI
  rw [List.map_take]

/-- THE GAPS OF A SHRED: behind each kid as much is free. -/
theorem gap_loc {gap : Int} (hg : 0 < gap) {L : List GRec} {h : GVal} {p : Nat} {now : Int} {pre : List GStep} (hl : Loc gap L h p now pre) {k : Nat} (hk : k ≤ (its h).length) :
    gapG L p k = some ⟨((p + 1 + cntI ((its h).take k) : Nat) : Int), now + gap + wI gap ((its h).take k), now + gap + wI gap ((its h).take k) + gap⟩ := by
  obtain ⟨hkl, hkp⟩ := kid_pos hg hl
  unfold gapG
  rw [hkl, if_neg (by omega), Int.toNat_natCast]
  unfold gapK
  rw [hkl]
  have hwe := wI_its (gap := gap) hl.wf
  obtain ⟨nm, name, hrec⟩ := hl.rec_
  have h0 : wI gap ([] : List Itm) = 0 := rfl
  have hc0 : cntI [] = 0 := rfl
  congr 1
  have hhi : (if k < (its h).length then stAt L ((kidsG L p).getD k 0) else enAt L p) = now + gap + wI gap ((its h).take k) + gap := by
    by_cases hlt : k < (its h).length
    · rw [if_pos hlt]
      have hx : (its h)[k]? = some (its h)[k] := List.getElem?_eq_getElem hlt
      rw [getD_get (hkp k _ hx)]
      obtain ⟨hlx, -⟩ := hl.kid hg hx
      obtain ⟨nm', name', hr⟩ := hlx.rec_
      rw [st_at hr]
    · rw [if_neg hlt, en_at hrec]
      have : (its h).take k = its h := List.take_of_length_le (by omega)
      rw [this]
      show now + wV gap h = _
      omega
  cases k with
  | zero =>
    rw [hhi, if_neg (by omega), if_neg (by omega), st_at hrec, List.take_zero, h0, hc0]
    show (⟨_, now + gap, _⟩ : GGap) = _
    congr 1 <;> omega
  | succ k =>
    have hx : (its h)[k]? = some ((its h)[k]'(by omega)) := List.getElem?_eq_getElem _
    obtain ⟨hlx, -⟩ := hl.kid hg hx
    obtain ⟨nm', name', hr⟩ := hlx.rec_
    have hla := hlx.last hg
    have hc := cntI_take_succ hx
    have hw := wI_take_succ (gap := gap) hx
    have hcp := cntV_pos ((its h)[k]'(by omega)).v
    rw [hhi, if_pos (by omega), if_pos (by omega), show k + 1 - 1 = k by omega, getD_get (hkp k _ hx), en_at hr, hla, hc, hw]
    show (⟨_, _ + wV gap _, _⟩ : GGap) = _
    congr 1 <;> omega
end Go.Sy
namespace Go.Sy
open Go.Proofs

/-! ### What a shred is for changes -/

theorem kidsF_bd (L : List GRec) (en : Int) : ∀ (n k : Nat), (∀ j ∈ kidsF L en n k, j < L.length) ∧ (kidsF L en n k).length ≤ n
  | 0, _ => ⟨fun j h => (by simp [kidsF] at h), Nat.le_refl _⟩
  | n + 1, k => by
    unfold kidsF
    split
    · rename_i hk
      split
      · obtain ⟨h1, h2⟩ := kidsF_bd L en n (runK L L[k].en (k + 1))
        refine ⟨fun j hj => ?_, by rw [List.length_cons]; omega⟩
        rcases List.mem_cons.1 hj with rfl | hj
        · exact hk
        · exact h1 j hj
      · exact ⟨fun j h => (by cases h), Nat.zero_le _⟩
    · exact ⟨fun j h => (by cases h), Nat.zero_le _⟩
theorem kidsG_bd (L : List GRec) (i : Nat) : (∀ j ∈ kidsG L i, j < L.length) ∧ (kidsG L i).length ≤ L.length := kidsF_bd L _ _ _

theorem shred_snd {σ : Snap} {g : GVal} {r : List AT} (hr : RepV σ g r) {gap : Int} (hg : 1 ≤ gap) (hg2 : gap ≤ 1000) (hw : g.weight ≤ 4000) (hs : sane g = 0) {L : List GRec} (hL : L = (shredV gap g 0 false emptyS 0).1) : SndL L := by
  obtain ⟨-, h2, -, -, R, -⟩ := shred_facts hr hg hg2 hw hs hL
  refine ⟨R, by omega, fun _ i _ => ⟨(kidsG_bd L i).1, by have := (kidsG_bd L i).2; omega⟩, fun _ q hq => ?_⟩
  have hnow := shredV_now (gap := gap) g 0 false emptyS 0 (by omega) hg2
  have hbd := (shredV_bd (gap := gap) (by omega) g 0 false emptyS 0).2
  subst hL
  have := hbd q hq
  omega

theorem spread_shred {g : GVal} {L : List GRec} (h : buildR L = (g, 0)) {gap : Int} (h1 : 1 ≤ gap) (h2 : gap ≤ 1000) (hs : sane g = 0) : spreadG L gap = ((shredV gap g 0 false emptyS 0).1, 0) := by
  unfold spreadG
  rw [h]
  dsimp only
  rw [if_neg (by simp), shredG_ok h1 h2 hs]

/-- As much is free behind each kid of a shred. -/
theorem room_shred {σ : Snap} {g : GVal} {r : List AT} (hr : RepV σ g r) {gap : Int} (hg : 1 ≤ gap) (hg2 : gap ≤ 1000) (hw : g.weight ≤ 4000) (hs : sane g = 0) {L : List GRec} (hL : L = (shredV gap g 0 false emptyS 0).1) {a : Nat} (ha : a < L.length) :
    (∀ k : Nat, k ≤ (kidsG L a).length → roomG L a k = gap - 1) ∧ roomG L a (-1) = -1 ∧ roomG L L.length 0 = -1 := by
  obtain ⟨h1, h2, h3, h4, R, h6⟩ := shred_facts hr hg hg2 hw hs hL
  have hk := sane_keys g 0 0 hs
  subst hL
  obtain ⟨h, now, hsub, hl⟩ := shred_loc (gap := gap) (by omega) (nm := false) (name := emptyS) hr.wf hk (i := a) (by omega)
  have hpl : placeE (shredV gap g 0 false emptyS 0).1 a = 0 := by
    unfold placeE
    rw [if_neg (by rw [h4]; decide), if_neg (by omega)]
  refine ⟨fun k hkl => ?_, ?_, ?_⟩
  · rw [(kid_pos (by omega) hl).1] at hkl
    unfold roomG
    rw [if_neg (by rw [hpl]; decide), Int.toNat_natCast, gap_loc (by omega) hl hkl]
    dsimp only
    omega
  · unfold roomG
    rw [if_neg (by rw [hpl]; decide)]
    have : gapG (shredV gap g 0 false emptyS 0).1 ((a : Int).toNat) (-1) = none := by unfold gapG; rw [if_pos (.inl (by decide))]
    rw [this]
  · unfold roomG
    rw [if_pos]
    unfold placeE
    rw [if_neg (by rw [h4]; decide), if_pos (.inr (by omega))]
    decide

theorem Sub.regap {gap gap' : Int} {g : GVal} {p : Nat} {now : Int} {P : List GStep} {h : GVal} {q : Nat} {now' : Int} (hs : Sub gap g p now P h q now') : ∀ now0, ∃ now1, Sub gap' g p now0 P h q now1 := by
  induction hs with
  | refl g p now => exact fun now0 => ⟨now0, .refl g p now0⟩
  | @step g p now m x P h q now' hx hs ih =>
    intro now0
    obtain ⟨now1, h1⟩ := ih (now0 + gap' + wI gap' ((its g).take m))
    exact ⟨now1, .step hx h1⟩

/-- Two shreds of a value have as many kids everywhere. -/
theorem kids_two {g : GVal} (hw : g.wf) (hk : keysOk g) {gap gap' : Int} (hg : 0 < gap) (hg' : 0 < gap') {a : Nat} (ha : a < cntV g) : (kidsG (shredV gap g 0 false emptyS 0).1 a).length = (kidsG (shredV gap' g 0 false emptyS 0).1 a).length := by
  obtain ⟨h, now, hs, hl⟩ := shred_loc hg (nm := false) (name := emptyS) hw hk ha
  obtain ⟨now1, hs1⟩ := Sub.regap (gap' := gap') hs 0
  have hl1 := Loc.sub hg' hs1 (loc_root (nm := false) (name := emptyS) hw hk)
  rw [(kid_pos hg hl).1, (kid_pos hg' hl1).1]
end Go.Sy
namespace Go.Sy
open Go.Proofs

/-! ### EditsSpread -/

set_option maxRecDepth 100000 in
set_option maxHeartbeats 1000000 in
theorem EditsSpread_c (σ : Snap) (g : GVal) (r : List AT) (i k gp : Int) (hr : RepV σ g r) :
    PlainS Tryd.prog 13 [.agg r, .a (.v (.int .i64 i)), .a (.v (.int .i64 k)), .a (.v (.int .i64 gp))] σ (fun v => v = .bool true) := by
  obtain ⟨la, lc, lrows, ma, mc, vrows, rfl, V⟩ := hr.open
  refine enter_p Tryd.func13 rfl rfl (by (repeat' (first | exact trivial | exact vCells_lt _ _ _ _ _ _ | constructor))) fun w => ?_
  (repeat (first | refine cj_seq ?_ | (refine cj_region ?_; refine oj_run TT rfl ?_) | refine oj_then ?_))
  refine oj_callS rfl rfl rfl rfl rfl Tryd.call60 (by (repeat' exact trivial)) (awake12_c σ) fun v σ0 hle0 hv => ⟨.a .tt, trivial, hv.symm, ?_⟩
  have V := V.monoC hle0.cle
  refine oj_run TT rfl ?_
  (repeat (first | refine cj_seq ?_ | (refine cj_region ?_; refine oj_run TT rfl ?_) | refine oj_then ?_))
  refine oj_callP rfl rfl rfl rfl rfl Tryd.call19 (by (repeat' (first | exact trivial | exact vCells_lt _ _ _ _ _ _ | constructor))) (Few_c σ0 g _ 1000 V.rep (by omega) (by omega)) fun v ⟨fb, hv, hfew⟩ => ⟨.a (.b fb), trivial, hv.symm, ?_⟩
  refine oj_run TT rfl ?_
  (repeat refine oj_then ?_)
  refine cj_if rfl (fun h => ?_) (fun h => ?_)
  · (repeat (first | refine cj_seq ?_ | (refine cj_region ?_; refine oj_run TT rfl ?_) | refine oj_then ?_ | refine cj_ret ?_ | refine nj_then_ret ?_))
    refine nj_ret TT rfl fun β w' _ _ => ?_
    rfl
  have hw : g.weight ≤ 1000 := by
    have := hfew (by simpa using h)
    omega
  (repeat (first | refine cj_seq ?_ | (refine cj_region ?_; refine oj_run TT rfl ?_) | refine cj_skip ?_ | refine nj_then ?_))
  refine oj_callS rfl rfl rfl rfl rfl Tryd.call21 ⟨vCells_lt _ _ _ _ _ _, trivial, trivial⟩ (Shred_s σ0 g _ 1 V.rep (by omega)) fun v σ1 hle1 ⟨ao, cap, hv, H⟩ => ⟨.tup [.a (.v (.slice ao (shredG g 1).1.length cap)), .a (.v (.int .i64 (shredG g 1).2))], (by (repeat' (first | exact trivial | refine SV.lt_tup ?_ | constructor))), hv.symm, ?_⟩
  rw [shredG_k (by omega) (by omega)] at H ⊢
  by_cases hs : sane g ≠ 0
  · rw [if_pos hs] at H ⊢
    dsimp only at H ⊢
    refine oj_run TT rfl ?_
    (repeat (first | refine cj_seq ?_ | (refine cj_region ?_; refine oj_run TT rfl ?_) | refine oj_then ?_))
    refine oj_split 31 rfl (fun h => ?_) (fun h => absurd (by simpa using h) hs)
    refine oj_run TT rfl ?_
    (repeat (first | refine cj_seq ?_ | (refine cj_region ?_; refine oj_run TT rfl ?_) | refine oj_then ?_ | refine cj_if_t rfl ?_ | refine cj_ret ?_ | refine nj_then_ret ?_))
    refine nj_ret TT rfl fun β w' _ _ => ?_
    rfl
  have hs : sane g = 0 := by simpa using hs
  rw [if_neg (by simp [hs])] at H ⊢
  dsimp only at H ⊢
  have V := V.monoC hle1.cle
  generalize hLdef : (shredV 1 g 0 false emptyS 0).1 = L at *
  obtain ⟨hcnt, hlen1, hpos, hsound, R, hbL⟩ := shred_facts V.rep (by omega) (by omega) (by omega) hs hLdef.symm
  have S := shred_snd V.rep (by omega) (by omega) (by omega) hs hLdef.symm
  refine oj_run TT rfl ?_
  (repeat (first | refine cj_seq ?_ | (refine cj_region ?_; refine oj_run TT rfl ?_) | refine oj_then ?_))
  refine oj_split 31 rfl (fun h => absurd h (by decide)) (fun h => ?_)
  refine oj_run TT rfl ?_
  (repeat refine oj_then ?_)
  refine cj_if rfl (fun h => ?_) (fun h => ?_)
  · have := of_decide_eq_true h
    omega
  have hby := bAnd_le gp 63 (by omega) (by omega)
  (repeat (first | refine cj_seq ?_ | (refine cj_region ?_; refine oj_run TT rfl ?_) | refine oj_then ?_ | refine cj_skip ?_ | refine nj_then ?_ | (refine oj_band rfl rfl rfl rfl rfl rfl ?_; refine oj_run TT rfl ?_) | (refine oj_add rfl rfl rfl rfl rfl rfl (by omega) ?_; refine oj_run TT rfl ?_)))
  generalize bAnd .i64 gp 63 = gb at hby ⊢
  have hsp := spread_shred hbL (gap := 1 + gb) (by omega) (by omega) hs
  refine oj_callS rfl rfl rfl rfl rfl Tryd.call63 (by (repeat' (first | exact trivial | constructor))) (Spread_c σ1 L R (by rw [hbL]; show g.weight ≤ _; omega) ao cap H (1 + gb)) fun v σ2 hle2 ⟨mo, mc2, hv, HM⟩ => ⟨.tup [.a (.v (.slice mo (spreadG L (1 + gb)).1.length mc2)), .a (.v (.int .i64 (spreadG L (1 + gb)).2))], (by (repeat' (first | exact trivial | refine SV.lt_tup ?_ | constructor))), hv.symm, ?_⟩
  rw [hsp] at HM ⊢
  dsimp only at HM ⊢
  have V := V.monoC hle2.cle
  have H := H.mono hle2
  have hkt := fun (a : Nat) (ha : a < cntV g) => kids_two (g := g) V.rep.wf (sane_keys g 0 0 hs) (gap := 1) (gap' := 1 + gb) (by omega) (by omega) ha
  rw [hLdef] at hkt
  generalize hMdef : (shredV (1 + gb) g 0 false emptyS 0).1 = M at *
  obtain ⟨hcntM, hlenM, hposM, hsoundM, RM, hbM⟩ := shred_facts V.rep (by omega) (by omega) (by omega) hs hMdef.symm
  have SM := shred_snd V.rep (by omega) (by omega) (by omega) hs hMdef.symm
  refine oj_run TT rfl ?_
  (repeat (first | refine cj_seq ?_ | (refine cj_region ?_; refine oj_run TT rfl ?_) | refine oj_then ?_))
  refine oj_callS rfl rfl rfl rfl rfl Tryd.call22 ⟨trivial, trivial⟩ (Build_c σ2 M RM.len RM.fit RM.bw mo mc2 HM) fun v σ3 hle3 ⟨rw_, hv, hrepW⟩ => ⟨.tup [.agg rw_, .a (.v (.int .i64 (buildR M).2))], SV.lt_tup ⟨hrepW.clo, trivial, trivial⟩, hv.symm, ?_⟩
  rw [hbM] at hrepW ⊢
  dsimp only at hrepW ⊢
  obtain ⟨xla, xlc, xlrows, xma, xmc, xvrows, rfl, XV⟩ := hrepW.open
  have V := V.monoC hle3.cle
  have H := H.mono hle3
  have HM := HM.mono hle3
  refine oj_run TT rfl ?_
  (repeat (first | refine cj_seq ?_ | (refine cj_region ?_; refine oj_run TT rfl ?_) | refine oj_then ?_ | (refine oj_band rfl rfl rfl rfl rfl rfl ?_; refine oj_run TT rfl ?_)))
  have hmi := bAnd_le i 65535 (by omega) (by omega)
  generalize bAnd .i64 i 65535 = m1 at hmi ⊢
  refine oj_rem rfl rfl rfl rfl rfl rfl (by omega) ?_
  obtain ⟨a, ha⟩ : ∃ a : Nat, m1.tmod L.length = a := ⟨(m1.tmod L.length).toNat, by
    have := Int.tmod_nonneg (L.length : Int) hmi.1
    omega⟩
  have hal : a < L.length := by
    have := Int.tmod_lt_of_pos m1 (show (0 : Int) < L.length by omega)
    omega
  rw [ha]
  have hkt := hkt a (by omega)
  have hkb := (kidsG_bd L a).2
  obtain ⟨hR1, -, -⟩ := room_shred V.rep (gap := 1) (by omega) (by omega) (by omega) hs hLdef.symm hal
  obtain ⟨hR2, hR3, hR4⟩ := room_shred V.rep (gap := 1 + gb) (by omega) (by omega) (by omega) hs hMdef.symm (a := a) (by omega)
  refine oj_run TT rfl ?_
  (repeat (first | refine cj_seq ?_ | (refine cj_region ?_; refine oj_run TT rfl ?_) | refine oj_then ?_ | (refine oj_band rfl rfl rfl rfl rfl rfl ?_; refine oj_run TT rfl ?_)))
  refine oj_callS rfl rfl rfl rfl rfl Tryd.call26 (by (repeat' (first | exact trivial | constructor))) (Kids_c σ3 L R ao cap H a hal hsound (by omega)) fun v σ4 hle4 ⟨oo, oc, hv, HK⟩ => ⟨.a (.v (.slice oo (kidsG L a).length oc)), trivial, hv.symm, ?_⟩
  have V := V.monoC hle4.cle
  have XV := XV.monoC hle4.cle
  have H := H.mono hle4
  have HM := HM.mono hle4
  refine oj_run TT rfl ?_
  have hmk := bAnd_le k 65535 (by omega) (by omega)
  generalize bAnd .i64 k 65535 = m2 at hmk ⊢
  refine oj_add rfl rfl rfl rfl rfl rfl (by omega) (oj_run TT rfl ?_)
  refine oj_rem rfl rfl rfl rfl rfl rfl (by omega) ?_
  obtain ⟨b, hb⟩ : ∃ b : Nat, m2.tmod ((kidsG L a).length + 1) = b := ⟨(m2.tmod ((kidsG L a).length + 1)).toNat, by
    have := Int.tmod_nonneg ((kidsG L a).length + 1 : Int) hmk.1
    omega⟩
  have hbl : b ≤ (kidsG L a).length := by
    have := Int.tmod_lt_of_pos m2 (show (0 : Int) < (kidsG L a).length + 1 by omega)
    omega
  rw [hb]
  refine oj_run TT rfl ?_
  (repeat (first | refine cj_seq ?_ | (refine cj_region ?_; refine oj_run TT rfl ?_) | refine oj_then ?_))
  refine oj_split 69 rfl (fun _ => ?_) (fun h => absurd h (by decide))
  refine oj_run TT rfl ?_
  refine oj_split 73 rfl (fun _ => ?_) (fun h => absurd h (by decide))
  refine oj_run TT rfl ?_
  refine oj_callP rfl rfl rfl rfl rfl Tryd.call23 (by (repeat' (first | exact trivial | exact vCells_lt _ _ _ _ _ _ | constructor))) (Exact_c g σ4 g _ _ XV.rep V.rep) fun v hv => ⟨.a .tt, trivial, (by rw [hv, exactG_self g V.rep.wf]; rfl), ?_⟩
  refine oj_run TT rfl ?_
  refine oj_callS rfl rfl rfl rfl rfl Tryd.call61 (by (repeat' (first | exact trivial | constructor))) (Room_c σ4 L S ao cap H a b) fun v σ5 hle5 hv => ⟨.a (.v (.int .i64 0)), trivial, (by rw [hv, hR1 b hbl]; rfl), ?_⟩
  have HM := HM.mono hle5
  refine oj_run TT rfl ?_
  refine oj_split 85 rfl (fun _ => ?_) (fun h => absurd h (by decide))
  refine oj_run TT rfl ?_
  refine oj_callS rfl rfl rfl rfl rfl Tryd.call61 (by (repeat' (first | exact trivial | constructor))) (Room_c σ5 M SM mo mc2 HM a b) fun v σ6 hle6 hv => ⟨.a (.v (.int .i64 gb)), trivial, (by rw [hv, hR2 b (by omega), show 1 + gb - 1 = gb by omega]; rfl), ?_⟩
  have HM := HM.mono hle6
  refine oj_run TT rfl ?_
  refine oj_minus rfl rfl rfl rfl rfl rfl (by omega) (oj_run TT rfl ?_)
  refine oj_split 94 rfl (fun _ => ?_) (fun h => absurd (of_decide_eq_false (show decide (gb = 1 + gb - 1) = false from h)) (by omega))
  refine oj_run TT rfl ?_
  refine oj_callS rfl rfl rfl rfl rfl Tryd.call61 (by (repeat' (first | exact trivial | constructor))) (Room_c σ6 M SM mo mc2 HM a (-1)) fun v σ7 hle7 hv => ⟨.a (.v (.int .i64 (-1))), trivial, (by rw [hv, hR3]; rfl), ?_⟩
  have HM := HM.mono hle7
  refine oj_run TT rfl ?_
  refine oj_split 100 rfl (fun _ => ?_) (fun h => absurd h (by decide))
  refine oj_run TT rfl ?_
  refine oj_callS rfl rfl rfl rfl rfl Tryd.call61 (by (repeat' (first | exact trivial | constructor))) (Room_c σ7 M SM mo mc2 HM M.length 0) fun v σ8 hle8 hv => ⟨.a (.v (.int .i64 (-1))), trivial, (by rw [hv, hR4]; rfl), ?_⟩
  refine oj_run TT rfl ?_
  (repeat (first | refine oj_then ?_ | refine cj_ret ?_))
  refine nj_ret TT rfl fun β w' _ _ => ?_
  rfl
end Go.Sy
