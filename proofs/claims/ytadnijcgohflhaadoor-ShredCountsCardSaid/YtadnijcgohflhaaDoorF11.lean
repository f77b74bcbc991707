import Derived.Test.YtadnijcgohflhaaDoorF10
import Derived.Test.YtadnijcgohflhaaDoorVc
namespace Go.Sy
open Go.Proofs

/-! ### The builder -/

def bE (gb : Nat) (ao : Option Addr) (n cap : Nat) (k : Int) : AE := ⟨some ⟨gb, 0, none⟩, 1, 1, 122, 2, [.slice ao n cap, .int .i64 k]⟩
/-- Records whose texts are no longer than a text may be. -/
def RecsFit (L : List GRec) : Prop := ∀ r ∈ L, r.n.dg.size ≤ mostLen ∧ r.s.size ≤ mostLen ∧ r.name.size ≤ mostLen

/-- Where the loop is. -/
structure BuS where
  σ : Snap
  m : Nat
  k : Nat
  ls : List GVal
  lr : List (List AT)
  la : Option Addr
  lc : Nat
  ks : List ByteArray
  vs : List GVal
  vr : List (List AT)
  ma : Option Addr
  mc : Nat

def buCells (r : GRec) (s : BuS) : List AT := [.v (.int .i64 r.kd), .b r.b, .b r.n.neg, .v (.string r.n.dg), .v (.int .i64 r.n.ex), .v (.string r.s), .v (.slice s.la s.ls.length s.lc), .v (.slice s.ma s.ks.length s.mc)]
theorem buCells_lt (n : Nat) (r : GRec) (s : BuS) : ∀ c ∈ buCells r s, c.lt n := by simp [buCells, AT.lt]
def buA (gb : Nat) (ao : Option Addr) (n cap : Nat) (s : BuS) : List AE := [bE gb ao n cap s.k, ⟨s.la, s.ls.length, s.lc, 27, 8, s.lr.flatten.map AT.val⟩, ⟨s.ma, s.ks.length, s.mc, 125, 9, (keyRows s.ks s.vr).flatten.map AT.val⟩]

theorem drop_cons {α : Type} {l : List α} {i : Nat} {x : α} {r : List α} (h : l.drop i = x :: r) : ∃ hl : i < l.length, l[i] = x ∧ r = l.drop (i + 1) := by
  have hl : i < l.length := by
    rcases Nat.lt_or_ge i l.length with h' | h'
    · exact h'
    · rw [List.drop_of_length_le h'] at h; cases h
  rw [List.drop_eq_getElem_cons hl] at h
  injection h with h1 h2
  exact ⟨hl, h1, h2.symm⟩

theorem keyRows_snoc : ∀ (ks : List ByteArray) (rs : List (List AT)) (k : ByteArray) (r : List AT), ks.length = rs.length → keyRows (ks ++ [k]) (rs ++ [r]) = keyRows ks rs ++ [keyRow k r]
  | [], [], _, _, _ => rfl
  | [], _ :: _, _, _, h => by simp at h
  | _ :: _, [], _, _, h => by simp at h
  | x :: ks, y :: rs, k, r, h => by
    simp only [List.cons_append, keyRows, keyRows_snoc ks rs k r (by simpa using h)]

def zeroV : List AT := [.v (.int .i64 0), .ff, .ff, .v (.string ⟨#[]⟩), .v (.int .i64 0), .v (.string ⟨#[]⟩), .v (.slice none 0 0), .v (.slice none 0 0)]

set_option maxRecDepth 100000 in
set_option maxHeartbeats 4000000 in
theorem builder_c (L : List GRec) (hF : RecsFit L) (hL : L.length ≤ 100000) (ao : Option Addr) (cap : Nat) : ∀ (n : Nat) (σ : Snap) (k : Nat) (gb : Nat), SlAt σ ao L.length cap 11 (recRows L) → k < L.length → 2 * (L.drop k).length ≤ n →
    FnS Tryd.prog 74 [.a (.v (.pointer (some ⟨gb, 0, none⟩)))] σ [bE gb ao L.length cap k] (fun v σ' A' => ∃ r k', v = (SV.agg r).den β0 ∧ RepV σ' (buildN n (L.drop k)).1 r ∧ L.drop k' = (buildN n (L.drop k)).2 ∧ k < k' ∧ k' ≤ L.length ∧ A' = [bE gb ao L.length cap k']) := by
  intro n
  induction n using Nat.strongRecOn with | _ n ih => ?_
  intro σ k gb H hk hn
  have hdl : (L.drop k).length = L.length - k := List.length_drop
  obtain ⟨n, rfl⟩ : ∃ m, n = m + 1 := ⟨n - 1, by omega⟩
  have hdc : L.drop k = L[k] :: L.drop (k + 1) := List.drop_eq_getElem_cons hk
  have hrow : (recRows L)[k]? = some (recCells L[k]) := recRows_get (List.getElem?_eq_getElem hk)
  have hfit := hF _ (List.getElem_mem hk)
  have hcap := H.ncap
  rw [hdc, buildN]
  generalize hx : L[k] = x at *
  dsimp only
  refine enter_f Tryd.func74 rfl rfl (by (repeat' (first | exact trivial | exact Nat.le_of_ble_eq_true rfl | exact vCells_lt _ _ _ _ _ _ | exact decCells_lt _ _ | refine AllLt.of ?_ | refine SV.lt_tup ?_ | exact SV.lt_fn0 | exact AT.lt_fn0 | exact RepV.clo (by assumption) | constructor))) fun w => ?_
  (repeat (first | refine cj_seq ?_ | (refine cj_region ?_; refine oj_run TT rfl ?_) | refine oj_then ?_ | refine oj_nil ?_ | refine cj_if_t rfl ?_ | refine cj_if_f rfl ?_ | refine cj_skip ?_ | refine cj_block ?_ | refine cj_exit ?_ | refine cj_ret ?_ | refine nj_then ?_ | refine nj_then_exit ?_ | refine nj_then_ret ?_ | refine nj_block ?_ | refine nj_block_ret ?_ | refine nj_block_out ?_ | refine nj_block_on rfl ?_ | (refine oj_band rfl rfl rfl rfl rfl rfl ?_; refine oj_run TT rfl ?_) | (refine oj_bor rfl rfl rfl rfl rfl rfl ?_; refine oj_run TT rfl ?_) | (refine oj_bandnot rfl rfl rfl rfl rfl rfl ?_; refine oj_run TT rfl ?_) | (refine oj_conv TT _ rfl rfl rfl rfl rfl rfl rfl rfl rfl ?_; refine oj_run TT rfl ?_) | (refine oj_bshl rfl rfl rfl rfl rfl rfl (by decide) ?_; refine oj_run TT rfl ?_) | (refine oj_bshr rfl rfl rfl rfl rfl rfl (by decide) ?_; refine oj_run TT rfl ?_) | (refine oj_slnil TT rfl rfl rfl rfl rfl rfl rfl rfl ?_; refine oj_run TT rfl ?_) | (refine oj_add rfl rfl rfl rfl rfl rfl (by omega) ?_; refine oj_run TT rfl ?_) | (refine oj_minus rfl rfl rfl rfl rfl rfl (by omega) ?_; refine oj_run TT rfl ?_)))
  refine cj_draw [(0,.pure),(1,.pure),(2,.pure),(3,.quiet),(4,.pure),(5,.pure),(6,.pure),(7,.quiet),(8,.pure),(9,.quiet),(10,.keep),(11,.sink)] mixed (by kernel_rfl) (oj_run TT rfl ?_)
  refine oj_ldA 0 (c := .v (.slice ao L.length cap)) TT rfl rfl rfl rfl rfl rfl rfl rfl rfl rfl rfl trivial (oj_run TT rfl ?_)
  refine oj_ldA 0 (c := .v (.int .i64 k)) TT rfl rfl rfl rfl rfl rfl rfl rfl rfl rfl rfl trivial (oj_run TT rfl ?_)
  refine oj_idx TT rfl rfl rfl rfl rfl rfl rfl rfl rfl H (by omega) hrow (oj_run TT rfl ?_)
  (repeat (first | refine cj_seq ?_ | (refine cj_region ?_; refine oj_run TT rfl ?_) | refine oj_then ?_ | refine oj_nil ?_ | refine cj_if_t rfl ?_ | refine cj_if_f rfl ?_ | refine cj_skip ?_ | refine cj_block ?_ | refine cj_exit ?_ | refine cj_ret ?_ | refine nj_then ?_ | refine nj_then_exit ?_ | refine nj_then_ret ?_ | refine nj_block ?_ | refine nj_block_ret ?_ | refine nj_block_out ?_ | refine nj_block_on rfl ?_ | (refine oj_band rfl rfl rfl rfl rfl rfl ?_; refine oj_run TT rfl ?_) | (refine oj_bor rfl rfl rfl rfl rfl rfl ?_; refine oj_run TT rfl ?_) | (refine oj_bandnot rfl rfl rfl rfl rfl rfl ?_; refine oj_run TT rfl ?_) | (refine oj_conv TT _ rfl rfl rfl rfl rfl rfl rfl rfl rfl ?_; refine oj_run TT rfl ?_) | (refine oj_bshl rfl rfl rfl rfl rfl rfl (by decide) ?_; refine oj_run TT rfl ?_) | (refine oj_bshr rfl rfl rfl rfl rfl rfl (by decide) ?_; refine oj_run TT rfl ?_) | (refine oj_slnil TT rfl rfl rfl rfl rfl rfl rfl rfl ?_; refine oj_run TT rfl ?_) | (refine oj_add rfl rfl rfl rfl rfl rfl (by omega) ?_; refine oj_run TT rfl ?_) | (refine oj_minus rfl rfl rfl rfl rfl rfl (by omega) ?_; refine oj_run TT rfl ?_)))
  refine oj_ldA 0 (c := .v (.int .i64 k)) TT rfl rfl rfl rfl rfl rfl rfl rfl rfl rfl rfl trivial (oj_run TT rfl ?_)
  refine oj_add rfl rfl rfl rfl rfl rfl (by omega) (oj_run TT rfl ?_)
  refine oj_stA 0 (A' := [bE gb ao L.length cap ((k + 1 : Nat) : Int)]) TT rfl rfl rfl rfl rfl rfl rfl rfl rfl rfl (by show 1 < 1 * 2; omega) trivial rfl rfl (oj_run TT rfl ?_)
  refine oj_nilarr 27 8 (oj_nilarr 125 9 ?_)
  (repeat (first | refine cj_seq ?_ | (refine cj_region ?_; refine oj_run TT rfl ?_) | refine oj_then ?_ | refine oj_nil ?_ | refine cj_if_t rfl ?_ | refine cj_if_f rfl ?_ | refine cj_skip ?_ | refine cj_block ?_ | refine cj_exit ?_ | refine cj_ret ?_ | refine nj_then ?_ | refine nj_then_exit ?_ | refine nj_then_ret ?_ | refine nj_block ?_ | refine nj_block_ret ?_ | refine nj_block_out ?_ | refine nj_block_on rfl ?_ | (refine oj_band rfl rfl rfl rfl rfl rfl ?_; refine oj_run TT rfl ?_) | (refine oj_bor rfl rfl rfl rfl rfl rfl ?_; refine oj_run TT rfl ?_) | (refine oj_bandnot rfl rfl rfl rfl rfl rfl ?_; refine oj_run TT rfl ?_) | (refine oj_conv TT _ rfl rfl rfl rfl rfl rfl rfl rfl rfl ?_; refine oj_run TT rfl ?_) | (refine oj_bshl rfl rfl rfl rfl rfl rfl (by decide) ?_; refine oj_run TT rfl ?_) | (refine oj_bshr rfl rfl rfl rfl rfl rfl (by decide) ?_; refine oj_run TT rfl ?_) | (refine oj_slnil TT rfl rfl rfl rfl rfl rfl rfl rfl ?_; refine oj_run TT rfl ?_) | (refine oj_add rfl rfl rfl rfl rfl rfl (by omega) ?_; refine oj_run TT rfl ?_) | (refine oj_minus rfl rfl rfl rfl rfl rfl (by omega) ?_; refine oj_run TT rfl ?_)))
  refine cj_cutB (fun (s : BuS) => s.σ) (fun _ => [(0, .a (.v (.pointer (some ⟨gb, 0, none⟩)))), (2, .a (.p 0 0)), (4, .a (.p 3 0))])
    (fun s => [(0, .loc 27, zeroV), (3, .loc 27, buCells x s)]) (buA gb ao L.length cap) 4
    (fun s => σ.le s.σ ∧ s.ls = (kidsN n x.lv (L.drop (k + 1))).ls ∧ s.ks = (kidsN n x.lv (L.drop (k + 1))).ks ∧ s.vs = (kidsN n x.lv (L.drop (k + 1))).vs ∧ L.drop s.k = (kidsN n x.lv (L.drop (k + 1))).rest ∧
      RepL s.σ s.ls s.lr ∧ RepL s.σ s.vs s.vr ∧ s.ks.length = s.vs.length ∧ k < s.k ∧ s.k ≤ L.length ∧ s.ls.length + s.ks.length ≤ L.length ∧ (∀ y ∈ s.ks, y.size ≤ mostLen) ∧ s.ls.length ≤ s.lc ∧ s.ks.length ≤ s.mc) ?_
    (fun s ⟨hs, e1, e2, e3, e4, hR1, hR2, hkv, hk1, hk2, hlen, hky, hc1, hc2⟩ => ?_)
  · refine cj_loop (fun (s : BuS) => s.σ) (fun _ => [(0, .a (.v (.pointer (some ⟨gb, 0, none⟩)))), (2, .a (.p 0 0)), (3, .a (.p 2 0)), (4, .a (.p 3 0))])
      (fun s => [(0, .loc 27, zeroV), (2, .loc 36, recCells x), (3, .loc 27, buCells x s)]) (buA gb ao L.length cap) 4
      (fun s => σ.le s.σ ∧ s.ls ++ (kidsN s.m x.lv (L.drop s.k)).ls = (kidsN n x.lv (L.drop (k + 1))).ls ∧ s.ks ++ (kidsN s.m x.lv (L.drop s.k)).ks = (kidsN n x.lv (L.drop (k + 1))).ks ∧ s.vs ++ (kidsN s.m x.lv (L.drop s.k)).vs = (kidsN n x.lv (L.drop (k + 1))).vs ∧
        (kidsN s.m x.lv (L.drop s.k)).rest = (kidsN n x.lv (L.drop (k + 1))).rest ∧ s.m ≤ n ∧ 2 * (L.drop s.k).length + 1 ≤ s.m ∧
        RepL s.σ s.ls s.lr ∧ RepL s.σ s.vs s.vr ∧ s.ks.length = s.vs.length ∧ k < s.k ∧ s.k ≤ L.length ∧ s.ls.length + s.ks.length + (L.length - s.k) ≤ L.length ∧ (∀ y ∈ s.ks, y.size ≤ mostLen) ∧ s.ls.length ≤ s.lc ∧ s.ks.length ≤ s.mc)
      (fun s => L.length - s.k) ⟨σ, n, k + 1, [], [], none, 0, [], [], [], none, 0⟩ ⟨Snap.le_refl _, rfl, rfl, rfl, rfl, Nat.le_refl _, by dsimp only; rw [List.length_drop]; omega, rfl, rfl, rfl, by dsimp only; omega, by dsimp only; omega, by dsimp only [List.length_nil]; omega, fun y h => (by cases h), Nat.le_refl _, Nat.le_refl _⟩
      rfl (by (repeat (first | exact trivial | refine And.intro rfl ?_))) (by (repeat (first | exact trivial | refine And.intro rfl ?_))) rfl (by (repeat' (first | exact trivial | exact Nat.le_of_ble_eq_true rfl | exact vCells_lt _ _ _ _ _ _ | exact decCells_lt _ _ | refine AllLt.of ?_ | refine SV.lt_tup ?_ | exact SV.lt_fn0 | exact AT.lt_fn0 | exact RepV.clo (by assumption) | constructor))) (by (repeat' (first | exact trivial | exact Nat.le_of_ble_eq_true rfl | exact vCells_lt _ _ _ _ _ _ | exact decCells_lt _ _ | refine AllLt.of ?_ | refine SV.lt_tup ?_ | exact SV.lt_fn0 | exact AT.lt_fn0 | exact RepV.clo (by assumption) | constructor))) fun ⟨s, m, k1, ls, lr, la, lc, ks, vs, vr, ma, mc⟩ ⟨hs, e1, e2, e3, e4, hm, hm2, hR1, hR2, hkv, hk1, hk2, hlen, hky, hc1, hc2⟩ => ?_
    dsimp only at hs e1 e2 e3 e4 hm hm2 hR1 hR2 hkv hk1 hk2 hlen hky hc1 hc2 ⊢
    obtain ⟨m, rfl⟩ : ∃ m', m = m' + 1 := ⟨m - 1, by omega⟩
    (repeat (first | refine cj_seq ?_ | (refine cj_region ?_; refine oj_run TT rfl ?_) | refine oj_then ?_ | refine oj_nil ?_ | refine cj_if_t rfl ?_ | refine cj_if_f rfl ?_ | refine cj_skip ?_ | refine cj_block ?_ | refine cj_exit ?_ | refine cj_ret ?_ | refine nj_then ?_ | refine nj_then_exit ?_ | refine nj_then_ret ?_ | refine nj_block ?_ | refine nj_block_ret ?_ | refine nj_block_out ?_ | refine nj_block_on rfl ?_ | (refine oj_band rfl rfl rfl rfl rfl rfl ?_; refine oj_run TT rfl ?_) | (refine oj_bor rfl rfl rfl rfl rfl rfl ?_; refine oj_run TT rfl ?_) | (refine oj_bandnot rfl rfl rfl rfl rfl rfl ?_; refine oj_run TT rfl ?_) | (refine oj_conv TT _ rfl rfl rfl rfl rfl rfl rfl rfl rfl ?_; refine oj_run TT rfl ?_) | (refine oj_bshl rfl rfl rfl rfl rfl rfl (by decide) ?_; refine oj_run TT rfl ?_) | (refine oj_bshr rfl rfl rfl rfl rfl rfl (by decide) ?_; refine oj_run TT rfl ?_) | (refine oj_slnil TT rfl rfl rfl rfl rfl rfl rfl rfl ?_; refine oj_run TT rfl ?_) | (refine oj_add rfl rfl rfl rfl rfl rfl (by omega) ?_; refine oj_run TT rfl ?_) | (refine oj_minus rfl rfl rfl rfl rfl rfl (by omega) ?_; refine oj_run TT rfl ?_)))
    refine cj_draw [(0,.pure),(1,.pure),(2,.pure),(3,.quiet),(4,.pure),(5,.pure),(6,.pure),(7,.quiet),(8,.pure),(9,.pure),(10,.pure),(11,.pure),(12,.pure),(13,.pure),(14,.quiet),(15,.pure),(16,.pure),(17,.pure),(18,.quiet),(19,.pure),(20,.pure),(21,.quiet),(22,.pure),(23,.quiet),(24,.pure),(25,.pure)] mixed (by kernel_rfl) (oj_run TT rfl ?_)
    refine oj_ldA 0 (c := .v (.int .i64 k1)) TT rfl rfl rfl rfl rfl rfl rfl rfl rfl rfl rfl trivial (oj_run TT rfl ?_)
    refine oj_ldA 0 (c := .v (.slice ao L.length cap)) TT rfl rfl rfl rfl rfl rfl rfl rfl rfl rfl rfl trivial (oj_run TT rfl ?_)
    refine oj_split 43 rfl (fun h => ?_) (fun h => ?_)
    rotate_left
    · have hk0 : k1 = L.length := by have := of_decide_eq_false h; omega
      subst hk0
      rw [List.drop_length, kidsN] at e1 e2 e3 e4
      simp only [List.append_nil] at e1 e2 e3
      refine oj_run TT rfl ?_
      (repeat (first | refine cj_seq ?_ | (refine cj_region ?_; refine oj_run TT rfl ?_) | refine oj_then ?_ | refine oj_nil ?_ | refine cj_if_t rfl ?_ | refine cj_if_f rfl ?_ | refine cj_skip ?_ | refine cj_block ?_ | refine cj_exit ?_ | refine cj_ret ?_ | refine nj_then ?_ | refine nj_then_exit ?_ | refine nj_then_ret ?_ | refine nj_block ?_ | refine nj_block_ret ?_ | refine nj_block_out ?_ | refine nj_block_on rfl ?_ | (refine oj_band rfl rfl rfl rfl rfl rfl ?_; refine oj_run TT rfl ?_) | (refine oj_bor rfl rfl rfl rfl rfl rfl ?_; refine oj_run TT rfl ?_) | (refine oj_bandnot rfl rfl rfl rfl rfl rfl ?_; refine oj_run TT rfl ?_) | (refine oj_conv TT _ rfl rfl rfl rfl rfl rfl rfl rfl rfl ?_; refine oj_run TT rfl ?_) | (refine oj_bshl rfl rfl rfl rfl rfl rfl (by decide) ?_; refine oj_run TT rfl ?_) | (refine oj_bshr rfl rfl rfl rfl rfl rfl (by decide) ?_; refine oj_run TT rfl ?_) | (refine oj_slnil TT rfl rfl rfl rfl rfl rfl rfl rfl ?_; refine oj_run TT rfl ?_) | (refine oj_add rfl rfl rfl rfl rfl rfl (by omega) ?_; refine oj_run TT rfl ?_) | (refine oj_minus rfl rfl rfl rfl rfl rfl (by omega) ?_; refine oj_run TT rfl ?_)))
      refine nj_again ⟨s, m, L.length, ls, lr, la, lc, ks, vs, vr, ma, mc⟩ ⟨hs, e1, e2, e3, by dsimp only; rw [List.drop_length]; exact e4, hR1, hR2, hkv, hk1, hk2, by dsimp only; omega, hky, hc1, hc2⟩ Nat.zero_lt_one rfl (by (repeat (first | exact trivial | refine And.intro rfl ?_))) (by (repeat (first | exact trivial | refine And.intro rfl ?_))) rfl (by (repeat' (first | exact trivial | exact Nat.le_of_ble_eq_true rfl | exact vCells_lt _ _ _ _ _ _ | exact decCells_lt _ _ | refine AllLt.of ?_ | refine SV.lt_tup ?_ | exact SV.lt_fn0 | exact AT.lt_fn0 | exact RepV.clo (by assumption) | constructor))) (by (repeat' (first | exact trivial | exact Nat.le_of_ble_eq_true rfl | exact vCells_lt _ _ _ _ _ _ | exact decCells_lt _ _ | refine AllLt.of ?_ | refine SV.lt_tup ?_ | exact SV.lt_fn0 | exact AT.lt_fn0 | exact RepV.clo (by assumption) | constructor)))
    have hkl : k1 < L.length := by have := of_decide_eq_true h; omega
    have hd1 : L.drop k1 = L[k1] :: L.drop (k1 + 1) := List.drop_eq_getElem_cons hkl
    have hrow1 : (recRows L)[k1]? = some (recCells L[k1]) := recRows_get (List.getElem?_eq_getElem hkl)
    have hfit1 := hF _ (List.getElem_mem hkl)
    generalize hy : L[k1] = y at *
    rw [hd1, kidsN] at e1 e2 e3 e4
    refine oj_run TT rfl ?_
    refine oj_ldA 0 (c := .v (.slice ao L.length cap)) TT rfl rfl rfl rfl rfl rfl rfl rfl rfl rfl rfl trivial (oj_run TT rfl ?_)
    refine oj_ldA 0 (c := .v (.int .i64 k1)) TT rfl rfl rfl rfl rfl rfl rfl rfl rfl rfl rfl trivial (oj_run TT rfl ?_)
    refine oj_idx TT rfl rfl rfl rfl rfl rfl rfl rfl rfl (H.mono hs) (by omega) hrow1 (oj_run TT rfl ?_)
    (repeat (first | refine cj_seq ?_ | (refine cj_region ?_; refine oj_run TT rfl ?_) | refine oj_then ?_ | refine oj_nil ?_ | refine cj_if_t rfl ?_ | refine cj_if_f rfl ?_ | refine cj_skip ?_ | refine cj_block ?_ | refine cj_exit ?_ | refine cj_ret ?_ | refine nj_then ?_ | refine nj_then_exit ?_ | refine nj_then_ret ?_ | refine nj_block ?_ | refine nj_block_ret ?_ | refine nj_block_out ?_ | refine nj_block_on rfl ?_ | (refine oj_band rfl rfl rfl rfl rfl rfl ?_; refine oj_run TT rfl ?_) | (refine oj_bor rfl rfl rfl rfl rfl rfl ?_; refine oj_run TT rfl ?_) | (refine oj_bandnot rfl rfl rfl rfl rfl rfl ?_; refine oj_run TT rfl ?_) | (refine oj_conv TT _ rfl rfl rfl rfl rfl rfl rfl rfl rfl ?_; refine oj_run TT rfl ?_) | (refine oj_bshl rfl rfl rfl rfl rfl rfl (by decide) ?_; refine oj_run TT rfl ?_) | (refine oj_bshr rfl rfl rfl rfl rfl rfl (by decide) ?_; refine oj_run TT rfl ?_) | (refine oj_slnil TT rfl rfl rfl rfl rfl rfl rfl rfl ?_; refine oj_run TT rfl ?_) | (refine oj_add rfl rfl rfl rfl rfl rfl (by omega) ?_; refine oj_run TT rfl ?_) | (refine oj_minus rfl rfl rfl rfl rfl rfl (by omega) ?_; refine oj_run TT rfl ?_)))
    refine cj_if rfl (fun h => ?_) (fun h => ?_)
    rotate_left
    · have hlv : ¬ x.lv < y.lv := of_decide_eq_false h
      simp only [if_neg hlv, List.append_nil] at e1 e2 e3 e4
      (repeat (first | refine cj_seq ?_ | (refine cj_region ?_; refine oj_run TT rfl ?_) | refine oj_then ?_ | refine oj_nil ?_ | refine cj_if_t rfl ?_ | refine cj_if_f rfl ?_ | refine cj_skip ?_ | refine cj_block ?_ | refine cj_exit ?_ | refine cj_ret ?_ | refine nj_then ?_ | refine nj_then_exit ?_ | refine nj_then_ret ?_ | refine nj_block ?_ | refine nj_block_ret ?_ | refine nj_block_out ?_ | refine nj_block_on rfl ?_ | (refine oj_band rfl rfl rfl rfl rfl rfl ?_; refine oj_run TT rfl ?_) | (refine oj_bor rfl rfl rfl rfl rfl rfl ?_; refine oj_run TT rfl ?_) | (refine oj_bandnot rfl rfl rfl rfl rfl rfl ?_; refine oj_run TT rfl ?_) | (refine oj_conv TT _ rfl rfl rfl rfl rfl rfl rfl rfl rfl ?_; refine oj_run TT rfl ?_) | (refine oj_bshl rfl rfl rfl rfl rfl rfl (by decide) ?_; refine oj_run TT rfl ?_) | (refine oj_bshr rfl rfl rfl rfl rfl rfl (by decide) ?_; refine oj_run TT rfl ?_) | (refine oj_slnil TT rfl rfl rfl rfl rfl rfl rfl rfl ?_; refine oj_run TT rfl ?_) | (refine oj_add rfl rfl rfl rfl rfl rfl (by omega) ?_; refine oj_run TT rfl ?_) | (refine oj_minus rfl rfl rfl rfl rfl rfl (by omega) ?_; refine oj_run TT rfl ?_)))
      refine nj_again ⟨s, m, k1, ls, lr, la, lc, ks, vs, vr, ma, mc⟩ ⟨hs, e1, e2, e3, by dsimp only; rw [hd1]; exact e4, hR1, hR2, hkv, hk1, hk2, by dsimp only; omega, hky, hc1, hc2⟩ Nat.zero_lt_one rfl (by (repeat (first | exact trivial | refine And.intro rfl ?_))) (by (repeat (first | exact trivial | refine And.intro rfl ?_))) rfl (by (repeat' (first | exact trivial | exact Nat.le_of_ble_eq_true rfl | exact vCells_lt _ _ _ _ _ _ | exact decCells_lt _ _ | refine AllLt.of ?_ | refine SV.lt_tup ?_ | exact SV.lt_fn0 | exact AT.lt_fn0 | exact RepV.clo (by assumption) | constructor))) (by (repeat' (first | exact trivial | exact Nat.le_of_ble_eq_true rfl | exact vCells_lt _ _ _ _ _ _ | exact decCells_lt _ _ | refine AllLt.of ?_ | refine SV.lt_tup ?_ | exact SV.lt_fn0 | exact AT.lt_fn0 | exact RepV.clo (by assumption) | constructor)))
    have hlv : x.lv < y.lv := of_decide_eq_true h
    rw [if_pos hlv] at e1 e2 e3 e4
    (repeat (first | refine cj_seq ?_ | (refine cj_region ?_; refine oj_run TT rfl ?_) | refine oj_then ?_ | refine oj_nil ?_ | refine cj_if_t rfl ?_ | refine cj_if_f rfl ?_ | refine cj_skip ?_ | refine cj_block ?_ | refine cj_exit ?_ | refine cj_ret ?_ | refine nj_then ?_ | refine nj_then_exit ?_ | refine nj_then_ret ?_ | refine nj_block ?_ | refine nj_block_ret ?_ | refine nj_block_out ?_ | refine nj_block_on rfl ?_ | (refine oj_band rfl rfl rfl rfl rfl rfl ?_; refine oj_run TT rfl ?_) | (refine oj_bor rfl rfl rfl rfl rfl rfl ?_; refine oj_run TT rfl ?_) | (refine oj_bandnot rfl rfl rfl rfl rfl rfl ?_; refine oj_run TT rfl ?_) | (refine oj_conv TT _ rfl rfl rfl rfl rfl rfl rfl rfl rfl ?_; refine oj_run TT rfl ?_) | (refine oj_bshl rfl rfl rfl rfl rfl rfl (by decide) ?_; refine oj_run TT rfl ?_) | (refine oj_bshr rfl rfl rfl rfl rfl rfl (by decide) ?_; refine oj_run TT rfl ?_) | (refine oj_slnil TT rfl rfl rfl rfl rfl rfl rfl rfl ?_; refine oj_run TT rfl ?_) | (refine oj_add rfl rfl rfl rfl rfl rfl (by omega) ?_; refine oj_run TT rfl ?_) | (refine oj_minus rfl rfl rfl rfl rfl rfl (by omega) ?_; refine oj_run TT rfl ?_)))
    refine cj_draw [(0,.pure),(1,.pure),(2,.pure),(3,.quiet),(4,.pure),(5,.pure),(6,.pure),(7,.quiet),(8,.pure),(9,.quiet),(10,.keep),(11,.sink)] mixed (by kernel_rfl) (oj_run TT rfl ?_)
    refine oj_ldA 0 (c := .v (.slice ao L.length cap)) TT rfl rfl rfl rfl rfl rfl rfl rfl rfl rfl rfl trivial (oj_run TT rfl ?_)
    refine oj_ldA 0 (c := .v (.int .i64 k1)) TT rfl rfl rfl rfl rfl rfl rfl rfl rfl rfl rfl trivial (oj_run TT rfl ?_)
    refine oj_idx TT rfl rfl rfl rfl rfl rfl rfl rfl rfl (H.mono hs) (by omega) hrow1 (oj_run TT rfl ?_)
    (repeat (first | refine cj_seq ?_ | (refine cj_region ?_; refine oj_run TT rfl ?_) | refine oj_then ?_ | refine oj_nil ?_ | refine cj_if_t rfl ?_ | refine cj_if_f rfl ?_ | refine cj_skip ?_ | refine cj_block ?_ | refine cj_exit ?_ | refine cj_ret ?_ | refine nj_then ?_ | refine nj_then_exit ?_ | refine nj_then_ret ?_ | refine nj_block ?_ | refine nj_block_ret ?_ | refine nj_block_out ?_ | refine nj_block_on rfl ?_ | (refine oj_band rfl rfl rfl rfl rfl rfl ?_; refine oj_run TT rfl ?_) | (refine oj_bor rfl rfl rfl rfl rfl rfl ?_; refine oj_run TT rfl ?_) | (refine oj_bandnot rfl rfl rfl rfl rfl rfl ?_; refine oj_run TT rfl ?_) | (refine oj_conv TT _ rfl rfl rfl rfl rfl rfl rfl rfl rfl ?_; refine oj_run TT rfl ?_) | (refine oj_bshl rfl rfl rfl rfl rfl rfl (by decide) ?_; refine oj_run TT rfl ?_) | (refine oj_bshr rfl rfl rfl rfl rfl rfl (by decide) ?_; refine oj_run TT rfl ?_) | (refine oj_slnil TT rfl rfl rfl rfl rfl rfl rfl rfl ?_; refine oj_run TT rfl ?_) | (refine oj_add rfl rfl rfl rfl rfl rfl (by omega) ?_; refine oj_run TT rfl ?_) | (refine oj_minus rfl rfl rfl rfl rfl rfl (by omega) ?_; refine oj_run TT rfl ?_)))
    have hdl1 : (L.drop k1).length = L.length - k1 := List.length_drop
    refine oj_callF [0, 1, 2] (A0 := [bE gb ao L.length cap k1]) (Ar := [⟨la, ls.length, lc, 27, 8, lr.flatten.map AT.val⟩, ⟨ma, ks.length, mc, 125, 9, (keyRows ks vr).flatten.map AT.val⟩]) rfl rfl rfl rfl rfl rfl rfl Tryd.call74 (by (repeat' (first | exact trivial | exact Nat.le_of_ble_eq_true rfl | exact vCells_lt _ _ _ _ _ _ | exact decCells_lt _ _ | refine AllLt.of ?_ | refine SV.lt_tup ?_ | exact SV.lt_fn0 | exact AT.lt_fn0 | exact RepV.clo (by assumption) | constructor))) (ih m (by omega) s k1 gb (H.mono hs) hkl (by omega)) fun v σ2 A2 hle2 ⟨rr, k2, hv, hrep, hrest, hk12, hk2L, hA⟩ => ⟨.agg rr, hrep.clo, hv.symm, ?_⟩
    subst hA
    rw [hd1] at hrep hrest
    rw [← hrest] at e1 e2 e3 e4
    generalize (buildN m (y :: L.drop (k1 + 1))).1 = gx at *
    obtain ⟨xla, xlc, xlrows, xma, xmc, xvrows, rfl, XV⟩ := hrep.open
    have hdl2 : (L.drop k2).length = L.length - k2 := List.length_drop
    have hbr := kidsN_rest
    have hs2 := Snap.le_trans hs hle2
    have hR1' := hR1.mono hle2
    have hR2' := hR2.mono hle2
    have hlr := hR1.len
    have hvr := hR2.len
    refine oj_run TT rfl ?_
    (repeat (first | refine cj_seq ?_ | (refine cj_region ?_; refine oj_run TT rfl ?_) | refine oj_then ?_ | refine oj_nil ?_ | refine cj_if_t rfl ?_ | refine cj_if_f rfl ?_ | refine cj_skip ?_ | refine cj_block ?_ | refine cj_exit ?_ | refine cj_ret ?_ | refine nj_then ?_ | refine nj_then_exit ?_ | refine nj_then_ret ?_ | refine nj_block ?_ | refine nj_block_ret ?_ | refine nj_block_out ?_ | refine nj_block_on rfl ?_ | (refine oj_band rfl rfl rfl rfl rfl rfl ?_; refine oj_run TT rfl ?_) | (refine oj_bor rfl rfl rfl rfl rfl rfl ?_; refine oj_run TT rfl ?_) | (refine oj_bandnot rfl rfl rfl rfl rfl rfl ?_; refine oj_run TT rfl ?_) | (refine oj_conv TT _ rfl rfl rfl rfl rfl rfl rfl rfl rfl ?_; refine oj_run TT rfl ?_) | (refine oj_bshl rfl rfl rfl rfl rfl rfl (by decide) ?_; refine oj_run TT rfl ?_) | (refine oj_bshr rfl rfl rfl rfl rfl rfl (by decide) ?_; refine oj_run TT rfl ?_) | (refine oj_slnil TT rfl rfl rfl rfl rfl rfl rfl rfl ?_; refine oj_run TT rfl ?_) | (refine oj_add rfl rfl rfl rfl rfl rfl (by omega) ?_; refine oj_run TT rfl ?_) | (refine oj_minus rfl rfl rfl rfl rfl rfl (by omega) ?_; refine oj_run TT rfl ?_)))
    refine cj_if rfl (fun h => ?_) (fun h => ?_)
    · simp only [if_pos (show y.nm = true from h)] at e1 e2 e3 e4
      (repeat (first | refine cj_seq ?_ | (refine cj_region ?_; refine oj_run TT rfl ?_) | refine oj_then ?_ | refine oj_nil ?_ | refine cj_if_t rfl ?_ | refine cj_if_f rfl ?_ | refine cj_skip ?_ | refine cj_block ?_ | refine cj_exit ?_ | refine cj_ret ?_ | refine nj_then ?_ | refine nj_then_exit ?_ | refine nj_then_ret ?_ | refine nj_block ?_ | refine nj_block_ret ?_ | refine nj_block_out ?_ | refine nj_block_on rfl ?_ | (refine oj_band rfl rfl rfl rfl rfl rfl ?_; refine oj_run TT rfl ?_) | (refine oj_bor rfl rfl rfl rfl rfl rfl ?_; refine oj_run TT rfl ?_) | (refine oj_bandnot rfl rfl rfl rfl rfl rfl ?_; refine oj_run TT rfl ?_) | (refine oj_conv TT _ rfl rfl rfl rfl rfl rfl rfl rfl rfl ?_; refine oj_run TT rfl ?_) | (refine oj_bshl rfl rfl rfl rfl rfl rfl (by decide) ?_; refine oj_run TT rfl ?_) | (refine oj_bshr rfl rfl rfl rfl rfl rfl (by decide) ?_; refine oj_run TT rfl ?_) | (refine oj_slnil TT rfl rfl rfl rfl rfl rfl rfl rfl ?_; refine oj_run TT rfl ?_) | (refine oj_add rfl rfl rfl rfl rfl rfl (by omega) ?_; refine oj_run TT rfl ?_) | (refine oj_minus rfl rfl rfl rfl rfl rfl (by omega) ?_; refine oj_run TT rfl ?_)))
      refine oj_append_lit TT 2 rfl rfl rfl rfl rfl rfl rfl rfl rfl rfl rfl rfl rfl rfl rfl rfl rfl rfl (by (repeat' (first | exact trivial | exact Nat.le_of_ble_eq_true rfl | exact vCells_lt _ _ _ _ _ _ | exact decCells_lt _ _ | refine AllLt.of ?_ | refine SV.lt_tup ?_ | exact SV.lt_fn0 | exact AT.lt_fn0 | exact RepV.clo (by assumption) | constructor))) rfl (by omega) (by show (ks.length + 1) * 128 ≤ _; omega) fun ao' cap' hcap' => oj_run TT rfl ?_
      (repeat (first | refine cj_seq ?_ | (refine cj_region ?_; refine oj_run TT rfl ?_) | refine oj_then ?_ | refine oj_nil ?_ | refine cj_if_t rfl ?_ | refine cj_if_f rfl ?_ | refine cj_skip ?_ | refine cj_block ?_ | refine cj_exit ?_ | refine cj_ret ?_ | refine nj_then ?_ | refine nj_then_exit ?_ | refine nj_then_ret ?_ | refine nj_block ?_ | refine nj_block_ret ?_ | refine nj_block_out ?_ | refine nj_block_on rfl ?_ | (refine oj_band rfl rfl rfl rfl rfl rfl ?_; refine oj_run TT rfl ?_) | (refine oj_bor rfl rfl rfl rfl rfl rfl ?_; refine oj_run TT rfl ?_) | (refine oj_bandnot rfl rfl rfl rfl rfl rfl ?_; refine oj_run TT rfl ?_) | (refine oj_conv TT _ rfl rfl rfl rfl rfl rfl rfl rfl rfl ?_; refine oj_run TT rfl ?_) | (refine oj_bshl rfl rfl rfl rfl rfl rfl (by decide) ?_; refine oj_run TT rfl ?_) | (refine oj_bshr rfl rfl rfl rfl rfl rfl (by decide) ?_; refine oj_run TT rfl ?_) | (refine oj_slnil TT rfl rfl rfl rfl rfl rfl rfl rfl ?_; refine oj_run TT rfl ?_) | (refine oj_add rfl rfl rfl rfl rfl rfl (by omega) ?_; refine oj_run TT rfl ?_) | (refine oj_minus rfl rfl rfl rfl rfl rfl (by omega) ?_; refine oj_run TT rfl ?_)))
      refine nj_again ⟨σ2, m, k2, ls, lr, la, lc, ks ++ [y.name], vs ++ [gx], vr ++ [vCells gx xla xlc xma xmc], ao', cap'⟩
        ⟨hs2, e1, by rw [List.append_assoc]; exact e2, by rw [List.append_assoc]; exact e3, e4, by dsimp only; omega, by dsimp only; omega, hR1', RepL.append hR2' ⟨_, _, rfl, hrep, rfl⟩, by simp [hkv], by dsimp only; omega, hk2L, by dsimp only; rw [List.length_append, List.length_singleton]; omega,
          fun z hz => by
            rcases List.mem_append.1 hz with hz | hz
            · exact hky z hz
            · rw [List.mem_singleton.1 hz]; exact hfit1.2.2, hc1, by dsimp only; rw [List.length_append]; exact hcap'⟩ (by dsimp only; omega) rfl (by (repeat (first | exact trivial | refine And.intro rfl ?_))) ?_ ?_ (by (repeat' (first | exact trivial | exact Nat.le_of_ble_eq_true rfl | exact vCells_lt _ _ _ _ _ _ | exact decCells_lt _ _ | refine AllLt.of ?_ | refine SV.lt_tup ?_ | exact SV.lt_fn0 | exact AT.lt_fn0 | exact RepV.clo (by assumption) | constructor))) (by (repeat' (first | exact trivial | exact Nat.le_of_ble_eq_true rfl | exact vCells_lt _ _ _ _ _ _ | exact decCells_lt _ _ | refine AllLt.of ?_ | refine SV.lt_tup ?_ | exact SV.lt_fn0 | exact AT.lt_fn0 | exact RepV.clo (by assumption) | constructor)))
      · refine ⟨rfl, rfl, ?_, trivial⟩
        show some _ = some _
        unfold buCells
        rw [List.length_append]
        rfl
      · unfold buA
        dsimp only
        rw [keyRows_snoc _ _ _ _ (by omega), List.length_append]
        simp only [List.flatten_append, List.map_append, List.flatten_cons, List.flatten_nil, List.append_nil]
        rfl
    · simp only [if_neg (show ¬ y.nm = true by simp [show y.nm = false from h])] at e1 e2 e3 e4
      (repeat (first | refine cj_seq ?_ | (refine cj_region ?_; refine oj_run TT rfl ?_) | refine oj_then ?_ | refine oj_nil ?_ | refine cj_if_t rfl ?_ | refine cj_if_f rfl ?_ | refine cj_skip ?_ | refine cj_block ?_ | refine cj_exit ?_ | refine cj_ret ?_ | refine nj_then ?_ | refine nj_then_exit ?_ | refine nj_then_ret ?_ | refine nj_block ?_ | refine nj_block_ret ?_ | refine nj_block_out ?_ | refine nj_block_on rfl ?_ | (refine oj_band rfl rfl rfl rfl rfl rfl ?_; refine oj_run TT rfl ?_) | (refine oj_bor rfl rfl rfl rfl rfl rfl ?_; refine oj_run TT rfl ?_) | (refine oj_bandnot rfl rfl rfl rfl rfl rfl ?_; refine oj_run TT rfl ?_) | (refine oj_conv TT _ rfl rfl rfl rfl rfl rfl rfl rfl rfl ?_; refine oj_run TT rfl ?_) | (refine oj_bshl rfl rfl rfl rfl rfl rfl (by decide) ?_; refine oj_run TT rfl ?_) | (refine oj_bshr rfl rfl rfl rfl rfl rfl (by decide) ?_; refine oj_run TT rfl ?_) | (refine oj_slnil TT rfl rfl rfl rfl rfl rfl rfl rfl ?_; refine oj_run TT rfl ?_) | (refine oj_add rfl rfl rfl rfl rfl rfl (by omega) ?_; refine oj_run TT rfl ?_) | (refine oj_minus rfl rfl rfl rfl rfl rfl (by omega) ?_; refine oj_run TT rfl ?_)))
      refine oj_append_lit TT 1 rfl rfl rfl rfl rfl rfl rfl rfl rfl rfl rfl rfl rfl rfl rfl rfl rfl rfl (by (repeat' (first | exact trivial | exact Nat.le_of_ble_eq_true rfl | exact vCells_lt _ _ _ _ _ _ | exact decCells_lt _ _ | refine AllLt.of ?_ | refine SV.lt_tup ?_ | exact SV.lt_fn0 | exact AT.lt_fn0 | exact RepV.clo (by assumption) | constructor))) rfl (by omega) (by show (ls.length + 1) * 112 ≤ _; omega) fun ao' cap' hcap' => oj_run TT rfl ?_
      (repeat (first | refine cj_seq ?_ | (refine cj_region ?_; refine oj_run TT rfl ?_) | refine oj_then ?_ | refine oj_nil ?_ | refine cj_if_t rfl ?_ | refine cj_if_f rfl ?_ | refine cj_skip ?_ | refine cj_block ?_ | refine cj_exit ?_ | refine cj_ret ?_ | refine nj_then ?_ | refine nj_then_exit ?_ | refine nj_then_ret ?_ | refine nj_block ?_ | refine nj_block_ret ?_ | refine nj_block_out ?_ | refine nj_block_on rfl ?_ | (refine oj_band rfl rfl rfl rfl rfl rfl ?_; refine oj_run TT rfl ?_) | (refine oj_bor rfl rfl rfl rfl rfl rfl ?_; refine oj_run TT rfl ?_) | (refine oj_bandnot rfl rfl rfl rfl rfl rfl ?_; refine oj_run TT rfl ?_) | (refine oj_conv TT _ rfl rfl rfl rfl rfl rfl rfl rfl rfl ?_; refine oj_run TT rfl ?_) | (refine oj_bshl rfl rfl rfl rfl rfl rfl (by decide) ?_; refine oj_run TT rfl ?_) | (refine oj_bshr rfl rfl rfl rfl rfl rfl (by decide) ?_; refine oj_run TT rfl ?_) | (refine oj_slnil TT rfl rfl rfl rfl rfl rfl rfl rfl ?_; refine oj_run TT rfl ?_) | (refine oj_add rfl rfl rfl rfl rfl rfl (by omega) ?_; refine oj_run TT rfl ?_) | (refine oj_minus rfl rfl rfl rfl rfl rfl (by omega) ?_; refine oj_run TT rfl ?_)))
      refine nj_again ⟨σ2, m, k2, ls ++ [gx], lr ++ [vCells gx xla xlc xma xmc], ao', cap', ks, vs, vr, ma, mc⟩
        ⟨hs2, by rw [List.append_assoc]; exact e1, e2, e3, e4, by dsimp only; omega, by dsimp only; omega, RepL.append hR1' ⟨_, _, rfl, hrep, rfl⟩, hR2', hkv, by dsimp only; omega, hk2L, by dsimp only; rw [List.length_append, List.length_singleton]; omega,
          hky, by dsimp only; rw [List.length_append]; exact hcap', hc2⟩ (by dsimp only; omega) rfl (by (repeat (first | exact trivial | refine And.intro rfl ?_))) ?_ ?_ (by (repeat' (first | exact trivial | exact Nat.le_of_ble_eq_true rfl | exact vCells_lt _ _ _ _ _ _ | exact decCells_lt _ _ | refine AllLt.of ?_ | refine SV.lt_tup ?_ | exact SV.lt_fn0 | exact AT.lt_fn0 | exact RepV.clo (by assumption) | constructor))) (by (repeat' (first | exact trivial | exact Nat.le_of_ble_eq_true rfl | exact vCells_lt _ _ _ _ _ _ | exact decCells_lt _ _ | refine AllLt.of ?_ | refine SV.lt_tup ?_ | exact SV.lt_fn0 | exact AT.lt_fn0 | exact RepV.clo (by assumption) | constructor)))
      · refine ⟨rfl, rfl, ?_, trivial⟩
        show some _ = some _
        unfold buCells
        rw [List.length_append]
        rfl
      · unfold buA
        dsimp only
        rw [List.length_append]
        simp only [List.flatten_append, List.map_append, List.flatten_cons, List.flatten_nil, List.append_nil]
        rfl
  obtain ⟨s, m, k1, ls, lr, la, lc, ks, vs, vr, ma, mc⟩ := s
  dsimp only at hs e1 e2 e3 e4 hR1 hR2 hkv hk1 hk2 hlen hky hc1 hc2 ⊢
  rw [← e1, ← e2, ← e3, ← e4]
  clear e1 e2 e3 e4
  have hlr := hR1.len
  have hvr := hR2.len
  (repeat (first | refine cj_seq ?_ | (refine cj_region ?_; refine oj_run TT rfl ?_) | refine oj_then ?_ | refine oj_nil ?_ | refine cj_if_t rfl ?_ | refine cj_if_f rfl ?_ | refine cj_skip ?_ | refine cj_block ?_ | refine cj_exit ?_ | refine cj_ret ?_ | refine nj_then ?_ | refine nj_then_exit ?_ | refine nj_then_ret ?_ | refine nj_block ?_ | refine nj_block_ret ?_ | refine nj_block_out ?_ | refine nj_block_on rfl ?_ | (refine oj_band rfl rfl rfl rfl rfl rfl ?_; refine oj_run TT rfl ?_) | (refine oj_bor rfl rfl rfl rfl rfl rfl ?_; refine oj_run TT rfl ?_) | (refine oj_bandnot rfl rfl rfl rfl rfl rfl ?_; refine oj_run TT rfl ?_) | (refine oj_conv TT _ rfl rfl rfl rfl rfl rfl rfl rfl rfl ?_; refine oj_run TT rfl ?_) | (refine oj_bshl rfl rfl rfl rfl rfl rfl (by decide) ?_; refine oj_run TT rfl ?_) | (refine oj_bshr rfl rfl rfl rfl rfl rfl (by decide) ?_; refine oj_run TT rfl ?_) | (refine oj_slnil TT rfl rfl rfl rfl rfl rfl rfl rfl ?_; refine oj_run TT rfl ?_) | (refine oj_add rfl rfl rfl rfl rfl rfl (by omega) ?_; refine oj_run TT rfl ?_) | (refine oj_minus rfl rfl rfl rfl rfl rfl (by omega) ?_; refine oj_run TT rfl ?_)))
  refine nj_seal 1 rfl rfl fun σ1 hle1 hS1 => ?_
  refine nj_seal 1 rfl rfl fun σ2 hle2 hS2 => ?_
  refine nj_fret TT rfl fun β w' _ _ => ?_
  have S1 := (hS1.sl (rows := lr) (sz := 8) rfl (fun r hr => ⟨(hR1.rows r hr).1, (hR1.rows r hr).2.1⟩) hlr rfl hc1).mono hle2
  have S2 := hS2.sl (rows := keyRows ks vr) (sz := 9) (n := ks.length) rfl (fun r hr => ?_) (keyRows_len (by omega)) rfl hc2
  · refine ⟨buCells x ⟨s, m, k1, ls, lr, la, lc, ks, vs, vr, ma, mc⟩, k1, rfl, ?_, rfl, hk1, hk2, rfl⟩
    simp only [RepV]
    exact ⟨la, lc, lr, ma, mc, vr, rfl, S1, (hR1.mono hle1).mono hle2, hkv, S2, (hR2.mono hle1).mono hle2, hfit.1, hfit.2.1, by simp only [mostLen]; omega, by simp only [mostLen]; omega, hky⟩
  · obtain ⟨j, hj⟩ := List.getElem?_of_mem hr
    have hjl := (List.getElem?_eq_some_iff.1 hj).1
    rw [keyRows_len (by omega)] at hjl
    have hg := keyRows_get (List.getElem?_eq_getElem hjl) (List.getElem?_eq_getElem (l := vr) (i := j) (by omega))
    rw [hg] at hj
    injection hj with hj
    subst hj
    have := hR2.rows _ (List.getElem_mem (l := vr) (n := j) (by omega))
    exact ⟨by simp [keyRow, this.1], keyRow_lt this.2.1⟩
end Go.Sy
