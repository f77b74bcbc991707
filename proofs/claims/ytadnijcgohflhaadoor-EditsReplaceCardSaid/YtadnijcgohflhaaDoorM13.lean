/- Parts of the proof of CEditsReplace: F63, XCl, XRow, CFacts. No conditions. -/
import Derived.Test.YtadnijcgohflhaaDoorM12
import Derived.Carry
import Derived.RowKit
import Derived.ChangeStays
import Derived.ChangeSame
import Derived.ReadAgain
import Derived.SizedLaws
import Derived.Deep.DeepHandedRow
import Derived.ProofKit
import Derived.OpenShut
import Derived.Lay
import Derived.SevenTiedAt
import Derived.Stop.Joined
import Derived.Test.YtadnijcgohflhaaDoorCards
import Derived.Test.YtadnijcgohflhaaDoorTie
namespace Go.Sy
open Go.Proofs

/-! ### EditsReplace -/

theorem rep_lay {gap : Int} {g : GVal} {L : List GRec} {a : Nat} {x : GVal} {R : GRes} {P : List GStep} {h g' : GVal} (O : RepOk gap g L a x R P h g') (hb : wV gap g ≤ 1099511627776) : ∃ hi, LayV g' 0 false emptyS 0 R.l hi ∧ hi ≤ 1099511627776 := by
  have hc := (sane_iff.1 O.sane).2
  rcases O.res with ⟨-, -, e⟩ | ⟨-, -, h, -⟩
  · refine ⟨_, by rw [e]; exact shred_lay (by omega) O.wf 0 false emptyS 0, ?_⟩
    rw [wVg O.wf]
    omega
  · exact ⟨_, h, hb⟩

set_option maxRecDepth 100000 in
set_option maxHeartbeats 1000000 in
theorem EditsReplace_c (σ : Snap) (g : GVal) (r : List AT) (x : GVal) (xr : List AT) (i gp : Int) (hr : RepV σ g r) (hxr : RepV σ x xr) :
    PlainS Tryd.prog 17 [.agg r, .a (.v (.int .i64 i)), .agg xr, .a (.v (.int .i64 gp))] σ (fun v => v = .bool true) := by
  obtain ⟨la, lc, lrows, ma, mc, vrows, rfl, V⟩ := hr.open
  obtain ⟨yla, ylc, ylrows, yma, ymc, yvrows, rfl, Y⟩ := hxr.open
  refine enter_p Tryd.func17 rfl rfl (by (repeat' (first | exact trivial | exact vCells_lt _ _ _ _ _ _ | constructor))) fun w => ?_
  (repeat (first | refine cj_seq ?_ | (refine cj_region ?_; refine oj_run TT rfl ?_) | refine oj_then ?_))
  refine oj_callS rfl rfl rfl rfl rfl Tryd.call60 (by (repeat' exact trivial)) (awake12_c σ) fun v σ0 hle0 hv => ⟨.a .tt, trivial, hv.symm, ?_⟩
  have V := V.monoC hle0.cle
  have Y := Y.monoC hle0.cle
  refine oj_run TT rfl ?_
  (repeat (first | refine cj_seq ?_ | (refine cj_region ?_; refine oj_run TT rfl ?_) | refine oj_then ?_))
  refine oj_callP rfl rfl rfl rfl rfl Tryd.call19 (by (repeat' (first | exact trivial | exact vCells_lt _ _ _ _ _ _ | constructor))) (Few_c σ0 g _ 800 V.rep (by omega) (by omega)) fun v ⟨fb, hv, hfew⟩ => ⟨.a (.b fb), trivial, hv.symm, ?_⟩
  refine oj_run TT rfl ?_
  skip
  refine oj_split 27 rfl (fun h => ?_) (fun h => ?_)
  · refine oj_run TT rfl ?_
    (repeat (first | refine cj_seq ?_ | (refine cj_region ?_; refine oj_run TT rfl ?_) | refine oj_then ?_ | refine cj_if_t rfl ?_ | refine cj_ret ?_ | refine nj_then_ret ?_))
    refine nj_ret TT rfl fun β w' _ _ => ?_
    rfl
  have hw : g.weight ≤ 800 := by
    have := hfew (by simpa using h)
    omega
  refine oj_run TT rfl ?_
  refine oj_callP rfl rfl rfl rfl rfl Tryd.call19 (by (repeat' (first | exact trivial | exact vCells_lt _ _ _ _ _ _ | constructor))) (Few_c σ0 x _ 400 Y.rep (by omega) (by omega)) fun v ⟨fb2, hv, hfew2⟩ => ⟨.a (.b fb2), trivial, hv.symm, ?_⟩
  refine oj_run TT rfl ?_
  (repeat refine oj_then ?_)
  refine cj_if rfl (fun h => ?_) (fun h => ?_)
  · (repeat (first | refine cj_seq ?_ | (refine cj_region ?_; refine oj_run TT rfl ?_) | refine oj_then ?_ | refine cj_ret ?_ | refine nj_then_ret ?_))
    refine nj_ret TT rfl fun β w' _ _ => ?_
    rfl
  have hwx : x.weight ≤ 400 := by
    have := hfew2 (by simpa using h)
    omega
  have hgb := bAnd_le gp 15 (by omega) (by omega)
  (repeat (first | refine cj_seq ?_ | (refine cj_region ?_; refine oj_run TT rfl ?_) | refine cj_skip ?_ | refine nj_then ?_ | (refine oj_band rfl rfl rfl rfl rfl rfl ?_; refine oj_run TT rfl ?_) | (refine oj_add rfl rfl rfl rfl rfl rfl (by omega) ?_; refine oj_run TT rfl ?_)))
  generalize bAnd .i64 gp 15 = gb at hgb ⊢
  skip
  refine oj_callS rfl rfl rfl rfl rfl Tryd.call21 ⟨vCells_lt _ _ _ _ _ _, trivial, trivial⟩ (Shred_s σ0 g _ (1 + gb) V.rep (by omega)) fun v σ1 hle1 ⟨ao, cap, hv, H⟩ => ⟨.tup [.a (.v (.slice ao (shredG g (1 + gb)).1.length cap)), .a (.v (.int .i64 (shredG g (1 + gb)).2))], (by (repeat' (first | exact trivial | refine SV.lt_tup ?_ | constructor))), hv.symm, ?_⟩
  rw [shredG_k (by omega) (by omega)] at H ⊢
  by_cases hs : sane g ≠ 0
  · rw [if_pos hs] at H ⊢
    dsimp only at H ⊢
    refine oj_run TT rfl ?_
    (repeat (first | refine cj_seq ?_ | (refine cj_region ?_; refine oj_run TT rfl ?_) | refine oj_then ?_))
    refine oj_split 43 rfl (fun h => ?_) (fun h => absurd (by simpa using h) hs)
    refine oj_run TT rfl ?_
    (repeat (first | refine cj_seq ?_ | (refine cj_region ?_; refine oj_run TT rfl ?_) | refine oj_then ?_ | refine cj_if_t rfl ?_ | refine cj_ret ?_ | refine nj_then_ret ?_))
    refine nj_ret TT rfl fun β w' _ _ => ?_
    rfl
  have hs : sane g = 0 := by simpa using hs
  rw [if_neg (by simp [hs])] at H ⊢
  dsimp only at H ⊢
  have V := V.monoC hle1.cle
  have Y := Y.monoC hle1.cle
  generalize hLdef : (shredV (1 + gb) g 0 false emptyS 0).1 = L at *
  obtain ⟨hcnt, hlen1, hpos, hsound, R, hbL⟩ := shred_facts V.rep (by omega) (by omega) (by omega) hs hLdef.symm
  have S := shred_snd V.rep (by omega) (by omega) (by omega) hs hLdef.symm
  refine oj_run TT rfl ?_
  (repeat (first | refine cj_seq ?_ | (refine cj_region ?_; refine oj_run TT rfl ?_) | refine oj_then ?_))
  refine oj_split 43 rfl (fun h => absurd h (by decide)) (fun h => ?_)
  refine oj_run TT rfl ?_
  (repeat refine oj_then ?_)
  refine cj_if rfl (fun h => ?_) (fun h => ?_)
  · have := of_decide_eq_true h
    omega
  (repeat (first | refine cj_seq ?_ | (refine cj_region ?_; refine oj_run TT rfl ?_) | refine cj_skip ?_ | refine nj_then ?_ | (refine oj_band rfl rfl rfl rfl rfl rfl ?_; refine oj_run TT rfl ?_)))
  have hmi := bAnd_le i 65535 (by omega) (by omega)
  generalize bAnd .i64 i 65535 = m1 at hmi ⊢
  refine oj_rem rfl rfl rfl rfl rfl rfl (by omega) ?_
  obtain ⟨a, ha⟩ : ∃ a : Nat, m1.tmod L.length = a := ⟨(m1.tmod L.length).toNat, by
    have := Int.tmod_nonneg (L.length : Int) hmi.1
    omega⟩
  have hal : a < L.length := by
    have := Int.tmod_lt_of_pos m1 (show (0 : Int) < L.length by omega)
    omega
  rw [ha]
  have hkeys := sane_keys g 0 0 hs
  have hkinds := sane_kinds4 g 0 0 hs
  have hwf := V.rep.wf
  obtain ⟨hG, now, hsub, hloc⟩ := shred_loc (gap := 1 + gb) (by omega) (nm := false) (name := emptyS) hwf hkeys (i := a) (by omega)
  rw [hLdef] at hsub hloc
  have hlaw := replace_law hwf hkeys (gap := 1 + gb) (by omega) hLdef.symm hsound hal Y.rep.wf hsub hloc
  have hrw : recsW L ≤ 800 := by
    have := recsW_V (1 + gb) g 0 false emptyS 0
    rw [hLdef] at this
    have e0 : emptyS.size = 0 := rfl
    omega
  have hPl : (placeG L a).length ≤ 1000000 := by
    have := upF_len L (a + 1) a
    unfold placeG
    rw [List.length_reverse]
    omega
  refine oj_run TT rfl ?_
  (repeat (first | refine cj_seq ?_ | (refine cj_region ?_; refine oj_run TT rfl ?_) | refine oj_then ?_))
  have hcallR := Replace12_c σ1 L S ao cap H a x _ Y.rep (by omega)
  generalize replaceG L a x = Res at hcallR hlaw
  obtain ⟨ml, rlaid, rmv, re⟩ := Res
  refine oj_callS rfl rfl rfl rfl rfl Tryd.call68 ⟨trivial, trivial, vCells_lt _ _ _ _ _ _, trivial⟩ hcallR fun v σ2 hle2 ⟨bo, bc, hv, HM⟩ => ⟨.tup [.a (.v (.slice bo ml.length bc)), .agg [.v (.int .i64 rlaid), .v (.int .i64 rmv)], .a (.v (.int .i64 re))], (by (repeat' (first | exact trivial | refine AllLt.of ?_ | refine SV.lt_tup ?_ | constructor))), hv.symm, ?_⟩
  have HM : SlAt σ2 bo ml.length bc 11 (recRows ml) := HM
  have H := H.mono hle2
  have V := V.monoC hle2.cle
  have Y := Y.monoC hle2.cle
  refine oj_run TT rfl ?_
  (repeat (first | refine cj_seq ?_ | (refine cj_region ?_; refine oj_run TT rfl ?_) | refine oj_then ?_))
  refine cj_if rfl (fun h => ?_) (fun h => ?_)
  · have he : re ≠ 0 := by simpa using (show (!decide (re = 0)) = true from h)
    have hml : ml = [] := hlaw.1 he
    subst hml
    (repeat (first | refine cj_seq ?_ | (refine cj_region ?_; refine oj_run TT rfl ?_) | refine oj_then ?_ | refine cj_ret ?_ | refine nj_then_ret ?_))
    refine nj_ret TT rfl fun β w' _ _ => ?_
    rfl
  have he : re = 0 := by simpa using (show (!decide (re = 0)) = false from h)
  obtain ⟨g', O⟩ := hlaw.2 he
  have hwV := wVg hwf (1 + gb)
  have hgap : (1 + gb) * (cntV g : Int) ≤ 16 * 800 := Int.mul_le_mul (by omega) (by omega) (by omega) (by omega)
  obtain ⟨hi_, hlayR, hhi⟩ := rep_lay O (by rw [hwV, Int.mul_assoc]; omega)
  dsimp only at hlayR
  have hO1 := O.swap.weight
  have hg'c := (sane_iff.1 O.sane).2
  have hRlen := hlayR.len O.wf
  have SR := lay_snd hlayR (by omega) O.wf (by omega) hhi (by omega)
  have hbR := hlayR.buildR (by omega) O.wf O.sane (by omega) hhi
  have hcx := cntV_pos x
  have hcG := cntV_pos hG
  have hcxw : cntV x ≤ 400 := by
    have h1 := shredV_cnt 1 x 0 false emptyS 0 Y.rep.wf
    have h2 := (shredV_len 1 x 0 false emptyS 0).1
    omega
  have hlast := O.last
  have hle_ := O.le
  have hlaidx := O.laid
  have hres := O.res
  dsimp only at hlaidx hres
  have hLa : L[a]? = some L[a] := List.getElem?_eq_getElem hal
  have hrowa := recRows_get hLa
  have hnuma := S.num hsound L[a] (List.getElem_mem hal)
  rw [st_at hLa, en_at hLa] at hres
  generalize L[a] = ra at *
  clear hlaw hcallR
  (repeat (first | refine cj_seq ?_ | refine cj_skip ?_ | refine nj_then ?_))
  refine cj_cutN (fun (s : CellS) => s.σ) (fun _ => [(6, .a (.p 1 0)), (9, .a .tt), (10, .a (.v (.slice ao L.length cap))), (12, .a (.v (.int .i64 a))), (13, .a (.v (.slice bo ml.length bc))), (14, .a (.p 2 0)), (16, .a (.p 3 0)), (17, .a (.v (.int .i64 0)))])
    (fun s => [(1, .loc 27, vCells x yla ylc yma ymc), (2, .loc 98, [.v (.int .i64 rlaid), .v (.int .i64 rmv)]), (3, .loc 27, vCells g' s.q.la s.q.lc s.q.ma s.q.mc)]) (fun _ => []) 4 (fun s => σ2.le s.σ ∧ RepV s.σ g' (vCells g' s.q.la s.q.lc s.q.ma s.q.mc)) ?_ (fun s ⟨hles, hrepW⟩ => ?_)
  · have hput := fun σ3 (hle3 : σ2.le σ3) oo oc HP => Put_c σ3 g la lc lrows ma mc vrows (V.monoC hle3.cle) (by omega) hkeys hkinds x yla ylc ylrows yma ymc yvrows (Y.monoC hle3.cle) O.swap hPl oo oc HP
    refine cj_drawG 12 [1, 2, 6, 7, 8, 11] mixed (by kernel_rfl) rfl ?_
    refine gj_val (i := 0) TT rfl (by kernel_rfl) (by kernel_rfl) rfl rfl rfl rfl rfl ?_
    refine gj_val (i := 1) TT rfl (by kernel_rfl) (by kernel_rfl) rfl rfl rfl rfl rfl ?_
    refine gj_val (i := 2) TT rfl (by kernel_rfl) (by kernel_rfl) rfl rfl rfl rfl rfl ?_
    refine gj_val (i := 4) TT rfl (by kernel_rfl) (by kernel_rfl) rfl rfl rfl rfl rfl ?_
    refine gj_two (i := 3) (j := 9) (by kernel_rfl) ?_ ?_
    · refine gk_call rfl rfl rfl rfl rfl Tryd.call27 (by (repeat' (first | exact trivial | constructor))) (Place_c σ2 L R ao cap H a hal hsound (by omega)) fun v σ3 hle3 ⟨oo, oc, hv, HP⟩ => ⟨.a (.v (.slice oo (placeG L a).length oc)), trivial, hv.symm, ?_⟩
      refine gj_two (i := 5) (j := 9) (by kernel_rfl) ?_ ?_
      · refine gk_call rfl rfl rfl rfl rfl Tryd.call65 ⟨vCells_lt _ _ _ _ _ _, trivial, vCells_lt _ _ _ _ _ _, trivial⟩ (hput σ3 hle3 oo oc HP) fun v σ4 hle4 ⟨r2, hv, hrep⟩ => ⟨.tup [.agg r2, .a (.v (.int .i64 0))], SV.lt_tup ⟨hrep.clo, trivial, trivial⟩, hv.symm, ?_⟩
        obtain ⟨la2, lc2, lrows2, ma2, mc2, vrows2, rfl, V2⟩ := hrep.open
        refine gj_order [(6,.pure),(7,.pure),(8,.pure),(9,.keep),(10,.sink),(11,.pure)] rfl rfl (by kernel_rfl) ?_
        refine oj_run TT rfl ?_
        (repeat refine oj_nil ?_)
        refine nj_again (⟨σ4, ⟨la2, lc2, ma2, mc2⟩⟩ : CellS) ⟨Snap.le_trans hle3 hle4, V2.rep⟩ Nat.zero_lt_one rfl (by (repeat (first | exact trivial | refine And.intro rfl ?_))) (by (repeat (first | exact trivial | refine And.intro rfl ?_))) rfl (by (repeat' (first | exact trivial | exact Nat.le_of_ble_eq_true rfl | constructor))) (by (repeat' (first | exact trivial | exact Nat.le_of_ble_eq_true rfl | exact vCells_lt _ _ _ _ _ _ | refine AllLt.of ?_ | constructor)))
      · refine gk_new TT rfl rfl rfl rfl rfl ?_
        refine gj_order [(5,.keep),(6,.pure),(7,.pure),(8,.pure),(10,.sink),(11,.pure)] rfl rfl (by kernel_rfl) ?_
        refine oj_callS rfl rfl rfl rfl rfl Tryd.call65 ⟨vCells_lt _ _ _ _ _ _, trivial, vCells_lt _ _ _ _ _ _, trivial⟩ (hput σ3 hle3 oo oc HP) fun v σ4 hle4 ⟨r2, hv, hrep⟩ => ⟨.tup [.agg r2, .a (.v (.int .i64 0))], SV.lt_tup ⟨hrep.clo, trivial, trivial⟩, hv.symm, ?_⟩
        obtain ⟨la2, lc2, lrows2, ma2, mc2, vrows2, rfl, V2⟩ := hrep.open
        refine oj_run TT rfl ?_
        (repeat refine oj_nil ?_)
        refine nj_again (⟨σ4, ⟨la2, lc2, ma2, mc2⟩⟩ : CellS) ⟨Snap.le_trans hle3 hle4, V2.rep⟩ Nat.zero_lt_one rfl (by (repeat (first | exact trivial | refine And.intro rfl ?_))) (by (repeat (first | exact trivial | refine And.intro rfl ?_))) rfl (by (repeat' (first | exact trivial | exact Nat.le_of_ble_eq_true rfl | constructor))) (by (repeat' (first | exact trivial | exact Nat.le_of_ble_eq_true rfl | exact vCells_lt _ _ _ _ _ _ | refine AllLt.of ?_ | constructor)))
    · refine gk_new TT rfl rfl rfl rfl rfl ?_
      refine gj_order [(3,.keep),(5,.keep),(6,.pure),(7,.pure),(8,.pure),(10,.sink),(11,.pure)] rfl rfl (by kernel_rfl) ?_
      refine oj_callS rfl rfl rfl rfl rfl Tryd.call27 (by (repeat' (first | exact trivial | constructor))) (Place_c σ2 L R ao cap H a hal hsound (by omega)) fun v σ3 hle3 ⟨oo, oc, hv, HP⟩ => ⟨.a (.v (.slice oo (placeG L a).length oc)), trivial, hv.symm, ?_⟩
      refine oj_run TT rfl ?_
      refine oj_callS rfl rfl rfl rfl rfl Tryd.call65 ⟨vCells_lt _ _ _ _ _ _, trivial, vCells_lt _ _ _ _ _ _, trivial⟩ (hput σ3 hle3 oo oc HP) fun v σ4 hle4 ⟨r2, hv, hrep⟩ => ⟨.tup [.agg r2, .a (.v (.int .i64 0))], SV.lt_tup ⟨hrep.clo, trivial, trivial⟩, hv.symm, ?_⟩
      obtain ⟨la2, lc2, lrows2, ma2, mc2, vrows2, rfl, V2⟩ := hrep.open
      refine oj_run TT rfl ?_
      (repeat refine oj_nil ?_)
      refine nj_again (⟨σ4, ⟨la2, lc2, ma2, mc2⟩⟩ : CellS) ⟨Snap.le_trans hle3 hle4, V2.rep⟩ Nat.zero_lt_one rfl (by (repeat (first | exact trivial | refine And.intro rfl ?_))) (by (repeat (first | exact trivial | refine And.intro rfl ?_))) rfl (by (repeat' (first | exact trivial | exact Nat.le_of_ble_eq_true rfl | constructor))) (by (repeat' (first | exact trivial | exact Nat.le_of_ble_eq_true rfl | exact vCells_lt _ _ _ _ _ _ | refine AllLt.of ?_ | constructor)))
  obtain ⟨σ4, xla, xlc, xma, xmc⟩ := s
  dsimp only at hles hrepW ⊢
  have H := H.mono hles
  have HM := HM.mono hles
  have Y := Y.monoC hles.cle
  (repeat (first | refine cj_seq ?_ | (refine cj_region ?_; refine oj_run TT rfl ?_)))
  refine oj_callS rfl rfl rfl rfl rfl Tryd.call22 ⟨trivial, trivial⟩ (Build_c σ4 _ SR.ok.len SR.ok.fit SR.ok.bw bo bc HM) fun v σ5 hle5 ⟨rb_, hv, hrepB⟩ => ⟨.tup [.agg rb_, .a (.v (.int .i64 (buildR ml).2))], SV.lt_tup ⟨hrepB.clo, trivial, trivial⟩, hv.symm, ?_⟩
  rw [hbR] at hrepB ⊢
  dsimp only at hrepB ⊢
  obtain ⟨bla, blc, blrows, bma, bmc, bvrows, rfl, BV⟩ := hrepB.open
  have hrepW := hrepW.mono hle5
  have H := H.mono hle5
  have HM := HM.mono hle5
  have Y := Y.monoC hle5.cle
  refine oj_run TT rfl ?_
  (repeat (first | refine cj_seq ?_ | (refine cj_region ?_; refine oj_run TT rfl ?_) | refine oj_then ?_))
  refine oj_callP rfl rfl rfl rfl rfl Tryd.call40 (by (repeat' (first | exact trivial | constructor))) (Last_c σ5 L R ao cap H a hal hsound) fun v hv => ⟨.a (.v (.int .i64 (lastG L a))), trivial, hv.symm, ?_⟩
  refine oj_run TT rfl ?_
  rw [hlast]
  refine oj_minus rfl rfl rfl rfl rfl rfl (by omega) (oj_run TT rfl ?_)
  rw [show (a : Int) + cntV hG - 1 - a = (cntV hG : Int) - 1 by omega]
  refine oj_run TT rfl ?_
  refine oj_add rfl rfl rfl rfl rfl rfl (by omega) (oj_run TT rfl ?_)
  rw [show (cntV hG : Int) - 1 + 1 = (cntV hG : Int) by omega]
  refine oj_run TT rfl ?_
  (repeat (first | refine cj_seq ?_ | refine oj_then ?_))
  have hmvk : rmv ≠ 0 → rmv = (L.length : Int) - (cntV hG : Int) := fun h0 => by
    rcases hres with ⟨-, h, -⟩ | ⟨-, h, -⟩
    · exact h
    · exact absurd h h0
  refine cj_cutN (fun (_ : Unit) => σ5) (fun _ => [(9, .a .tt), (10, .a (.v (.slice ao L.length cap))), (12, .a (.v (.int .i64 a))), (13, .a (.v (.slice bo ml.length bc))), (14, .a (.p 2 0)), (20, .a (.v (.int .i64 (cntV hG)))), (122, .a .ff)])
    (fun _ => [(2, .loc 98, [.v (.int .i64 rlaid), .v (.int .i64 rmv)])]) (fun _ => []) 3 (fun _ => True) ?_ (fun _ _ => ?_)
  · refine cj_draw [(0,.pure),(1,.pure),(2,.pure),(3,.pure),(4,.pure),(5,.pure),(6,.pure),(7,.quiet),(8,.quiet),(9,.keep),(10,.pure),(11,.pure),(12,.pure),(13,.pure),(14,.quiet),(15,.quiet),(16,.keep),(17,.pure),(18,.pure),(19,.pure),(20,.pure),(21,.quiet),(22,.pure),(23,.pure),(24,.pure),(25,.quiet),(26,.pure),(27,.pure),(28,.pure),(29,.pure),(30,.pure),(31,.pure),(32,.pure)] mixed (by kernel_rfl) (oj_run TT rfl ?_)
    refine oj_split 92 rfl (fun h => absurd h (by decide)) (fun _ => ?_)
    refine oj_run TT rfl ?_
    refine oj_split 96 rfl (fun h => absurd h (by decide)) (fun _ => ?_)
    refine oj_run TT rfl ?_
    refine oj_callP rfl rfl rfl rfl rfl Tryd.call23 (by (repeat' (first | exact trivial | exact vCells_lt _ _ _ _ _ _ | constructor))) (Exact_c g' σ5 g' _ _ BV.rep hrepW) fun v hv => ⟨.a .tt, trivial, (by rw [hv, exactG_self g' O.wf]; rfl), ?_⟩
    refine oj_run TT rfl ?_
    refine oj_callP rfl rfl rfl rfl rfl Tryd.call25 (by (repeat' (first | exact trivial | exact vCells_lt _ _ _ _ _ _ | constructor))) (Count_c x σ5 _ Y.rep (by omega)) fun v hv => ⟨.a (.v (.int .i64 (cntV x))), trivial, hv.symm, ?_⟩
    refine oj_run TT rfl ?_
    refine oj_split 109 rfl (fun h => absurd (show (!decide (rlaid = (cntV x : Int))) = true from h) (by rw [hlaidx]; simp)) (fun _ => ?_)
    refine oj_run TT rfl ?_
    refine oj_split 113 rfl (fun h => ?_) (fun h => ?_)
    · have h0 : rmv ≠ 0 := by simpa using (show (!decide (rmv = 0)) = true from h)
      refine oj_run TT rfl ?_
      refine oj_minus rfl rfl rfl rfl rfl rfl (by omega) (oj_run TT rfl ?_)
      refine oj_run TT rfl ?_
      (repeat refine oj_nil ?_)
      refine nj_set 122 (.a .ff) rfl trivial (fun β => by show Value.bool (!decide (rmv = (L.length : Int) - (cntV hG : Int))) = _; rw [hmvk h0]; simp; rfl) ?_
      refine nj_again () trivial Nat.zero_lt_one rfl (by (repeat (first | exact trivial | refine And.intro rfl ?_))) (by (repeat (first | exact trivial | refine And.intro rfl ?_))) rfl (by (repeat' (first | exact trivial | exact Nat.le_of_ble_eq_true rfl | constructor))) (by (repeat' (first | exact trivial | exact Nat.le_of_ble_eq_true rfl | refine AllLt.of ?_ | constructor)))
    · refine oj_run TT rfl ?_
      (repeat refine oj_nil ?_)
      refine nj_again () trivial Nat.zero_lt_one rfl (by (repeat (first | exact trivial | refine And.intro rfl ?_))) (by (repeat (first | exact trivial | refine And.intro rfl ?_))) rfl (by (repeat' (first | exact trivial | exact Nat.le_of_ble_eq_true rfl | constructor))) (by (repeat' (first | exact trivial | exact Nat.le_of_ble_eq_true rfl | refine AllLt.of ?_ | constructor)))
  (repeat (first | refine cj_seq ?_ | refine cj_if_f rfl ?_ | refine cj_skip ?_ | refine nj_then ?_))
  refine cj_draw [(0,.pure),(1,.pure),(2,.pure),(3,.pure),(4,.quiet),(5,.pure),(6,.pure),(7,.pure),(8,.pure),(9,.quiet),(10,.pure),(11,.pure),(12,.pure)] mixed (by kernel_rfl) (oj_run TT rfl ?_)
  refine oj_idx TT rfl rfl rfl rfl rfl rfl rfl rfl rfl H (by omega) hrowa (oj_run TT rfl ?_)
  refine oj_idx TT rfl rfl rfl rfl rfl rfl rfl rfl rfl H (by omega) hrowa (oj_run TT rfl ?_)
  refine oj_minus rfl rfl rfl rfl rfl rfl (by omega) (oj_run TT rfl ?_)
  refine oj_run TT rfl ?_
  refine oj_add rfl rfl rfl rfl rfl rfl (by omega) (oj_run TT rfl ?_)
  refine oj_run TT rfl ?_
  (repeat (first | refine cj_seq ?_ | (refine cj_region ?_; refine oj_run TT rfl ?_) | refine oj_then ?_))
  refine oj_mul rfl rfl rfl rfl rfl rfl (by omega) (oj_run TT rfl ?_)
  (repeat refine oj_then ?_)
  refine cj_if rfl (fun h => ?_) (fun h => ?_)
  · have h := of_decide_eq_true (show decide (ra.en - ra.st + 1 < 2 * rlaid) = true from h)
    have hmv : rmv = (L.length : Int) - (cntV hG : Int) := by
      rcases hres with ⟨-, h, -⟩ | ⟨h2, -⟩
      · exact h
      · omega
    (repeat (first | refine cj_seq ?_ | (refine cj_region ?_; refine oj_run TT rfl ?_) | refine oj_then ?_ | refine cj_ret ?_ | refine nj_then_ret ?_ | (refine oj_minus rfl rfl rfl rfl rfl rfl (by omega) ?_; refine oj_run TT rfl ?_)))
    refine nj_ret TT rfl fun β w' _ _ => ?_
    show Value.bool (decide (rmv = (L.length : Int) - (cntV hG : Int))) = _
    rw [decide_eq_true hmv]
  have h := of_decide_eq_false (show decide (ra.en - ra.st + 1 < 2 * rlaid) = false from h)
  obtain ⟨h2, -, -⟩ | ⟨-, hmv0, -, M, hMl, hRl, hst, hen⟩ := hres
  · omega
  have htl : (L.take a).length = a := List.length_take_of_le (by omega)
  have hmll : ml.length = L.length - cntV hG + cntV x := by
    rw [hRl, List.length_append, List.length_append, htl, hMl, List.length_drop]
    omega
  have hlow : ∀ q, q < a → ml[q]? = L[q]? := fun q hq => by
    rw [hRl, List.getElem?_append_left (by omega), List.getElem?_take, if_pos hq]
  have hhigh : ∀ q, a + cntV hG ≤ q → ml[q - cntV hG + cntV x]? = L[q]? := fun q hq => by
    rw [hRl, List.getElem?_append_right (by omega), htl, List.getElem?_append_right (by omega), hMl, List.getElem?_drop]
    congr 1
    omega
  have hma : ml[a]? = some (ml[a]'(by omega)) := List.getElem?_eq_getElem _
  have hrowm := recRows_get hma
  rw [st_at hma] at hst
  rw [en_at hma] at hen
  generalize ml[a]'(by omega) = rma at *
  (repeat (first | refine cj_seq ?_ | (refine cj_region ?_; refine oj_run TT rfl ?_) | refine oj_then ?_ | refine cj_skip ?_ | refine cj_block ?_ | refine nj_then ?_))
  refine cj_cutB (α := Unit) (fun _ => σ5) (fun _ => [(9, .a .tt), (10, .a (.v (.slice ao L.length cap))), (12, .a (.v (.int .i64 a))), (13, .a (.v (.slice bo ml.length bc))), (14, .a (.p 2 0))])
    (fun _ => [(2, .loc 98, [.v (.int .i64 rlaid), .v (.int .i64 rmv)])]) (fun _ => []) 3 (fun _ => True) ?_ (fun _ _ => ?_)
  · refine cj_loop (fun (_ : Nat) => σ5) (fun j => [(9, .a .tt), (10, .a (.v (.slice ao L.length cap))), (12, .a (.v (.int .i64 a))), (13, .a (.v (.slice bo ml.length bc))), (14, .a (.p 2 0)), (20, .a (.v (.int .i64 (cntV hG)))), (22, .a (.v (.int .i64 (j : Nat))))])
      (fun _ => [(2, .loc 98, [.v (.int .i64 rlaid), .v (.int .i64 rmv)])]) (fun _ => []) 3 (fun j => j ≤ L.length) (fun j => L.length - j) 0 (Nat.zero_le _) rfl (by (repeat (first | exact trivial | refine And.intro rfl ?_))) (by (repeat (first | exact trivial | refine And.intro rfl ?_))) rfl (by (repeat' (first | exact trivial | exact Nat.le_of_ble_eq_true rfl | constructor))) (by (repeat' (first | exact trivial | exact Nat.le_of_ble_eq_true rfl | refine AllLt.of ?_ | constructor))) fun j hj => ?_
    (repeat (first | refine cj_seq ?_ | (refine cj_region ?_; refine oj_run TT rfl ?_) | refine oj_then ?_))
    refine cj_if rfl (fun h => ?_) (fun h => ?_)
    rotate_left
    · (repeat (first | refine cj_exit ?_ | refine nj_then_exit ?_ | refine nj_block_out ?_))
      refine nj_again () trivial Nat.zero_lt_one rfl (by (repeat (first | exact trivial | refine And.intro rfl ?_))) (by (repeat (first | exact trivial | refine And.intro rfl ?_))) rfl (by (repeat' (first | exact trivial | exact Nat.le_of_ble_eq_true rfl | constructor))) (by (repeat' (first | exact trivial | exact Nat.le_of_ble_eq_true rfl | refine AllLt.of ?_ | constructor)))
    have hjl : j < L.length := by have := of_decide_eq_true h; omega
    have hLj : L[j]? = some L[j] := List.getElem?_eq_getElem hjl
    have hrowj := recRows_get hLj
    generalize L[j] = rj at *
    (repeat (first | refine cj_seq ?_ | refine cj_skip ?_ | refine cj_block ?_ | refine nj_then ?_))
    refine cj_cutN (fun (_ : Unit) => σ5) (fun _ => [(9, .a .tt), (10, .a (.v (.slice ao L.length cap))), (12, .a (.v (.int .i64 a))), (13, .a (.v (.slice bo ml.length bc))), (14, .a (.p 2 0)), (20, .a (.v (.int .i64 (cntV hG)))), (22, .a (.v (.int .i64 (j : Nat)))), (192, .a .ff)])
      (fun _ => [(2, .loc 98, [.v (.int .i64 rlaid), .v (.int .i64 rmv)])]) (fun _ => []) 3 (fun _ => True) ?_ (fun _ _ => ?_)
    · refine cj_draw [(0,.pure),(1,.pure),(2,.pure),(3,.pure),(4,.pure),(5,.pure),(6,.pure),(7,.quiet),(8,.pure),(9,.pure),(10,.pure),(11,.quiet),(12,.pure),(13,.pure),(14,.pure),(15,.pure),(16,.pure),(17,.pure),(18,.pure),(19,.pure),(20,.pure),(21,.pure),(22,.pure),(23,.pure),(24,.pure),(25,.pure),(26,.quiet),(27,.pure),(28,.pure),(29,.quiet),(30,.pure),(31,.pure),(32,.pure),(33,.quiet),(34,.pure),(35,.pure),(36,.pure)] mixed (by kernel_rfl) (oj_run TT rfl ?_)
      refine oj_split 159 rfl (fun h => ?_) (fun h => ?_)
      · have h := of_decide_eq_true (show decide ((j : Int) < a) = true from h)
        have hrm := recRows_get (show ml[j]? = some rj by rw [hlow j (by omega), hLj])
        refine oj_run TT rfl ?_
        refine oj_idx TT rfl rfl rfl rfl rfl rfl rfl rfl rfl HM (by omega) hrm (oj_run TT rfl ?_)
        refine oj_idx TT rfl rfl rfl rfl rfl rfl rfl rfl rfl H (by omega) hrowj (oj_run TT rfl ?_)
        refine oj_neRec rj rj rfl rfl rfl rfl rfl rfl rfl (oj_run TT rfl ?_)
        refine oj_split 170 rfl (fun h => absurd (show (!decide (rj = rj)) = true from h) (by simp)) (fun _ => ?_)
        refine oj_run TT rfl ?_
        refine oj_add rfl rfl rfl rfl rfl rfl (by omega) (oj_run TT rfl ?_)
        refine oj_run TT rfl ?_
        refine oj_split 176 rfl (fun h => ?_) (fun h => ?_)
        · have := of_decide_eq_true (show decide ((j : Int) ≥ (a : Int) + (cntV hG : Int)) = true from h)
          omega
        refine oj_run TT rfl ?_
        (repeat refine oj_nil ?_)
        refine nj_again () trivial Nat.zero_lt_one rfl (by (repeat (first | exact trivial | refine And.intro rfl ?_))) (by (repeat (first | exact trivial | refine And.intro rfl ?_))) rfl (by (repeat' (first | exact trivial | exact Nat.le_of_ble_eq_true rfl | constructor))) (by (repeat' (first | exact trivial | exact Nat.le_of_ble_eq_true rfl | refine AllLt.of ?_ | constructor)))
      · have h := of_decide_eq_false (show decide ((j : Int) < a) = false from h)
        refine oj_run TT rfl ?_
        refine oj_add rfl rfl rfl rfl rfl rfl (by omega) (oj_run TT rfl ?_)
        refine oj_run TT rfl ?_
        refine oj_split 176 rfl (fun h2 => ?_) (fun h2 => ?_)
        · have h2 := of_decide_eq_true (show decide ((j : Int) ≥ (a : Int) + (cntV hG : Int)) = true from h2)
          have hrm := recRows_get (show ml[j - cntV hG + cntV x]? = some rj by rw [hhigh j (by omega), hLj])
          refine oj_run TT rfl ?_
          refine oj_minus rfl rfl rfl rfl rfl rfl (by omega) (oj_run TT rfl ?_)
          refine oj_run TT rfl ?_
          refine oj_add rfl rfl rfl rfl rfl rfl (by omega) (oj_run TT rfl ?_)
          rw [hlaidx, show (j : Int) - (cntV hG : Int) + (cntV x : Int) = ((j - cntV hG + cntV x : Nat) : Int) by omega]
          refine oj_run TT rfl ?_
          refine oj_idx TT rfl rfl rfl rfl rfl rfl rfl rfl rfl HM (by omega) hrm (oj_run TT rfl ?_)
          refine oj_idx TT rfl rfl rfl rfl rfl rfl rfl rfl rfl H (by omega) hrowj (oj_run TT rfl ?_)
          refine oj_neRec rj rj rfl rfl rfl rfl rfl rfl rfl (oj_run TT rfl ?_)
          (repeat refine oj_nil ?_)
          refine nj_set 192 (.a .ff) rfl trivial (fun β => by show Value.bool (!decide (rj = rj)) = _; simp; rfl) ?_
          refine nj_again () trivial Nat.zero_lt_one rfl (by (repeat (first | exact trivial | refine And.intro rfl ?_))) (by (repeat (first | exact trivial | refine And.intro rfl ?_))) rfl (by (repeat' (first | exact trivial | exact Nat.le_of_ble_eq_true rfl | constructor))) (by (repeat' (first | exact trivial | exact Nat.le_of_ble_eq_true rfl | refine AllLt.of ?_ | constructor)))
        · refine oj_run TT rfl ?_
          (repeat refine oj_nil ?_)
          refine nj_again () trivial Nat.zero_lt_one rfl (by (repeat (first | exact trivial | refine And.intro rfl ?_))) (by (repeat (first | exact trivial | refine And.intro rfl ?_))) rfl (by (repeat' (first | exact trivial | exact Nat.le_of_ble_eq_true rfl | constructor))) (by (repeat' (first | exact trivial | exact Nat.le_of_ble_eq_true rfl | refine AllLt.of ?_ | constructor)))
    (repeat (first | (refine cj_region ?_; refine oj_run TT rfl ?_) | refine oj_nil ?_ | refine cj_if_f rfl ?_ | refine cj_skip ?_ | refine nj_then ?_ | refine nj_block ?_ | (refine oj_add rfl rfl rfl rfl rfl rfl (by omega) ?_; refine oj_run TT rfl ?_)))
    refine nj_again (j + 1) hjl (by omega) rfl (by (repeat (first | exact trivial | refine And.intro rfl ?_))) (by (repeat (first | exact trivial | refine And.intro rfl ?_))) rfl (by (repeat' (first | exact trivial | exact Nat.le_of_ble_eq_true rfl | constructor))) (by (repeat' (first | exact trivial | exact Nat.le_of_ble_eq_true rfl | refine AllLt.of ?_ | constructor)))
  (repeat refine cj_seq ?_)
  refine cj_draw [(0,.pure),(1,.pure),(2,.pure),(3,.quiet),(4,.pure),(5,.pure),(6,.pure),(7,.pure),(8,.pure),(9,.pure),(10,.pure),(11,.quiet),(12,.pure),(13,.pure),(14,.pure),(15,.pure),(16,.quiet),(17,.pure),(18,.pure),(19,.pure),(20,.pure),(21,.pure),(22,.pure),(23,.pure),(24,.quiet),(25,.pure),(26,.pure),(27,.pure),(28,.pure),(29,.quiet),(30,.pure),(31,.pure),(32,.pure)] mixed (by kernel_rfl) (oj_run TT rfl ?_)
  refine oj_split 199 rfl (fun _ => ?_) (fun h => absurd (of_decide_eq_false (show decide (rmv = 0) = false from h)) (by omega))
  refine oj_run TT rfl ?_
  refine oj_idx TT rfl rfl rfl rfl rfl rfl rfl rfl rfl HM (by omega) hrowm (oj_run TT rfl ?_)
  refine oj_idx TT rfl rfl rfl rfl rfl rfl rfl rfl rfl H (by omega) hrowa (oj_run TT rfl ?_)
  refine oj_split 212 rfl (fun _ => ?_) (fun h => absurd (of_decide_eq_false (show decide (rma.st = ra.st) = false from h)) (by omega))
  refine oj_run TT rfl ?_
  refine oj_idx TT rfl rfl rfl rfl rfl rfl rfl rfl rfl HM (by omega) hrowm (oj_run TT rfl ?_)
  refine oj_idx TT rfl rfl rfl rfl rfl rfl rfl rfl rfl H (by omega) hrowa (oj_run TT rfl ?_)
  (repeat (first | refine oj_then ?_ | refine cj_ret ?_))
  refine nj_ret TT rfl fun β w' _ _ => ?_
  show Value.bool (decide (rma.en = ra.en)) = _
  rw [decide_eq_true hen]
end Go.Sy
/- From a row's data to what the walks ask: a value that is read in the world is a tree that lies in memory, all of it sealed. -/
namespace Go.Sy
open Go.ChangeShapes Go.RowKit

def snapOf (W : World) : Snap := fun b => W.heap[b]?
theorem snapOf_sealed (W : World) : Sealed (snapOf W) W := fun _ _ h => h
theorem snapOf_cell (W : World) (a : Addr) : (snapOf W).cell a = W.cell? a := rfl

/-- The types of a value: itself, its list, its members, a member, its number, text, number, truth. -/
structure VT (P : Program) (tV tL tM tE tD tS tI tB : TypeId) : Prop where
  v : ∃ fs : Array Field, P.underlying tV = some (.struct fs) ∧ fs.toList.map (fun f => (f.type, f.offset)) = [(tI, 0), (tB, 1), (tD, 2), (tS, 5), (tL, 6), (tM, 7)]
  l : P.underlying tL = some (.slice tV)
  m : P.underlying tM = some (.slice tE)
  e : ∃ fs : Array Field, P.underlying tE = some (.struct fs) ∧ fs.toList.map (fun f => (f.type, f.offset)) = [(tS, 0), (tV, 1)]
  d : ∃ fs : Array Field, P.underlying tD = some (.struct fs) ∧ fs.toList.map (fun f => (f.type, f.offset)) = [(tB, 0), (tS, 1), (tI, 2)]
  s : P.underlying tS = some .string
  i : P.underlying tI = some (.int .i64)
  b : P.underlying tB = some .bool
  cV : P.cellsOf tV = 8
  cE : P.cellsOf tE = 9
  cD : P.cellsOf tD = 3
  cS : P.cellsOf tS = 1
  cI : P.cellsOf tI = 1
  cB : P.cellsOf tB = 1
  cL : P.cellsOf tL = 1
  cM : P.cellsOf tM = 1
  bV : 0 < P.bytesOf tV
  bE : 0 < P.bytesOf tE

section
variable {H : Type} {enc : TypeId × Value → H} {P : Program} {w : World} {sp : Nat → Bool} {held : Bool}

theorem field_at {fs : Array Field} {l : List (TypeId × Nat)} (h : fs.toList.map (fun f => (f.type, f.offset)) = l) {i : Nat} {t : TypeId} {o : Nat} (hi : l[i]? = some (t, o)) :
    ∃ f, fs[i]? = some f ∧ f.type = t ∧ f.offset = o := by
  subst h
  rw [List.getElem?_map] at hi
  simp only [Option.map_eq_some_iff, Prod.mk.injEq] at hi
  obtain ⟨f, h1, h2, h3⟩ := hi
  exact ⟨f, by simpa using h1, h2, h3⟩

theorem open_struct {t : TypeId} {fs : Array Field} {l : List (TypeId × Nat)} {n : Nat} {cs : List Value} {x : DataW H × List MemPlace} (hu : P.underlying t = some (.struct fs)) (hl : fs.toList.map (fun f => (f.type, f.offset)) = l)
    (h : DataW.trod enc P w 0 sp held n t cs = some x) :
    ∃ m, m < n ∧ cs.length = P.cellsOf t ∧ ∀ (i : Nat) (u : TypeId) (o : Nat), l[i]? = some (u, o) → ∃ y : DataW H × List MemPlace, DataW.trod enc P w 0 sp held m u ((cs.drop o).take (P.cellsOf u)) = some y ∧ ∀ k ∈ y.1.weights P u, k ∈ x.1.weights P t := by
  obtain ⟨xs, m, rfl, rfl, h1, h2, h3⟩ := DataW.trod_struct hu h
  refine ⟨m, by omega, h1, fun i u o hi => ?_⟩
  obtain ⟨f, hf, rfl, rfl⟩ := field_at hl hi
  have hi' : i < xs.length := by
    rw [h2]
    have := (List.getElem?_eq_some_iff.1 (show fs.toList[i]? = some f by simpa using hf)).1
    simpa using this
  refine ⟨xs[i], by rw [h3 i f hf, List.getElem?_eq_getElem hi'], fun k hk => ?_⟩
  rw [DataW.weights.eq_def]
  simp only [hu]
  exact DataW.weights_mem_each (j := i) (t := f.type) (d := xs[i].1) (by simp; exact ⟨f, by simpa using hf, rfl⟩) (by simp [List.getElem?_eq_getElem hi']) k hk

theorem weightsAll_mem {e : TypeId} : ∀ {ds : List (DataW H)} {d : DataW H}, d ∈ ds → ∀ k ∈ d.weights P e, k ∈ DataW.weightsAll P e ds
  | _ :: _, _, .head _, k, hk => by rw [DataW.weightsAll]; exact List.mem_append_left _ hk
  | _ :: _, _, .tail _ h, k, hk => by rw [DataW.weightsAll]; exact List.mem_append_right _ (weightsAll_mem h k hk)

theorem open_sl {t e : TypeId} {n sz : Nat} {c : Value} {x : DataW H × List MemPlace} (hu : P.underlying t = some (.slice e)) (hc : P.cellsOf e = sz) (hb : 0 < P.bytesOf e) (h : DataW.trod enc P w 0 sp held n t [c] = some x)
    (hw : ∀ k ∈ x.1.weights P t, k ≤ reachBytes) :
    ∃ (ao : Option Addr) (len cap m : Nat), c = .slice ao len cap ∧ m < n ∧ len ≤ cap ∧ len ≤ reachBytes ∧
      (len = 0 ∨ ∃ a, ao = some a ∧ ∀ i, i < len → ∃ (cs : List Value) (y : DataW H × List MemPlace), cs.length = sz ∧ (∀ j v, cs[j]? = some v → w.cell? (a.add (i * sz + j)) = some v) ∧
        DataW.trod enc P w 0 sp held m e cs = some y ∧ ∀ k ∈ y.1.weights P e, k ∈ x.1.weights P t) := by
  rcases DataW.trod_slice hu h with ⟨h1, rfl⟩ | ⟨a, len, cap, elems, rest, m, rfl, h1, rfl, _, h3, h4, h5, h6, _, _⟩
  · injection h1 with h1
    subst h1
    refine ⟨none, 0, 0, 0, rfl, ?_, Nat.le_refl _, by decide, .inl rfl⟩
    cases n with
    | zero => simp [DataW.trod] at h
    | succ n => omega
  · injection h1 with h1
    subst h1
    have hwt : (DataW.slice (elems.map (·.1)) (rest.map (·.1)) : DataW H).weights P t = ((elems.map (·.1)).length + (rest.map (·.1)).length) * P.bytesOf e :: (DataW.weightsAll P e (elems.map (·.1)) ++ DataW.weightsAll P e (rest.map (·.1))) := by
      rw [DataW.weights.eq_def]
      simp only [hu]
    refine ⟨some a, len, cap, m, rfl, by omega, h3, ?_, .inr ⟨a, rfl, fun i hi => ?_⟩⟩
    · have := hw _ (by rw [hwt]; exact List.mem_cons_self)
      simp only [List.length_map] at this
      have h7 : elems.length ≤ (elems.length + rest.length) * P.bytesOf e := Nat.le_trans (Nat.le_add_right _ _) (Nat.le_mul_of_pos_right _ hb)
      omega
    · have hi' : i < elems.length := by omega
      have h8 := h6 i hi
      rw [List.getElem?_eq_getElem hi', hc] at h8
      obtain ⟨cs, h9, h10⟩ := Option.bind_eq_some_iff.1 h8
      obtain ⟨_, h11, h12⟩ := World.cells?_some h9
      refine ⟨cs, elems[i], h11, fun j v hj => ?_, h10, fun k hk => ?_⟩
      · have hj' : j < sz := by rw [← h11]; exact (List.getElem?_eq_some_iff.1 hj).1
        have := h12 j hj'
        rw [hj] at this
        rw [← this]
        congr 1
        exact (Addr.add_add _ _ _).symm
      · rw [hwt]
        exact List.mem_cons_of_mem _ (List.mem_append_left _ (weightsAll_mem (List.mem_map.2 ⟨elems[i], List.getElem_mem hi', rfl⟩) k hk))

theorem RepL.range {σ : Snap} {G : Nat → GVal} {R : Nat → List AT} : ∀ l : List Nat, (∀ i ∈ l, RepV σ (G i) (R i)) → RepL σ (l.map G) (l.map R)
  | [], _ => by simp [RepL]
  | a :: l, h => by
    simp only [List.map_cons, RepL]
    exact ⟨R a, l.map R, rfl, h a List.mem_cons_self, RepL.range l fun i hi => h i (List.mem_cons_of_mem _ hi)⟩

theorem keyRows_range (K : Nat → ByteArray) (R : Nat → List AT) : ∀ l : List Nat, keyRows (l.map K) (l.map R) = l.map fun i => keyRow (K i) (R i)
  | [] => rfl
  | a :: l => by simp [keyRows, keyRows_range K R l]

/-- What each of its elements is, read off the memory. -/
theorem slAt_range {ao : Option Addr} {len cap sz : Nat} {R : Nat → List AT} (h1 : len ≤ cap) (h2 : ∀ i, i < len → (R i).length = sz ∧ ∀ c ∈ R i, c.lt 0)
    (h3 : len = 0 ∨ ∃ a, ao = some a ∧ ∀ i, i < len → ∀ j v, ((R i).map (AT.den β0))[j]? = some v → w.cell? (a.add (i * sz + j)) = some v) : SlAt (snapOf w) ao len cap sz ((List.range len).map R) := by
  refine ⟨by simp, h1, fun r hr => ?_, ?_⟩
  · obtain ⟨i, hi, rfl⟩ := List.mem_map.1 hr
    exact h2 i (List.mem_range.1 hi)
  · rcases h3 with h3 | ⟨a, h3, h4⟩
    · exact .inl h3
    · refine .inr ⟨a, h3, fun i r j c hr hc => ?_⟩
      rw [List.getElem?_map] at hr
      obtain ⟨i', h5, rfl⟩ := Option.map_eq_some_iff.1 hr
      obtain ⟨h6, h7⟩ := List.getElem?_eq_some_iff.1 h5
      have h8 : i < len := by simpa using h6
      have h9 : i' = i := by simpa using h7.symm
      subst h9
      rw [snapOf_cell]
      exact h4 i' h8 j _ (by rw [List.getElem?_map, hc]; rfl)

variable {tV tL tM tE tD tS tI tB : TypeId}

theorem open_str {n : Nat} {t : TypeId} {c : Value} {x : DataW H × List MemPlace} (hu : P.underlying t = some .string) (h : DataW.trod enc P w 0 sp held n t [c] = some x) (hw : ∀ k ∈ x.1.weights P t, k ≤ reachBytes) :
    ∃ s : ByteArray, c = .string s ∧ s.size ≤ mostLen := by
  obtain ⟨s, h1, rfl, _⟩ := DataW.trod_string hu h
  injection h1 with h1
  subst h1
  refine ⟨s, rfl, ?_⟩
  have := hw s.data.toList.length (by rw [DataW.weights.eq_def]; exact List.mem_cons_self)
  have h2 : s.data.toList.length = s.size := rfl
  rw [h2] at this
  exact this

/-- A VALUE THAT IS READ is a tree, and lies there. -/
theorem open_val (T : VT P tV tL tM tE tD tS tI tB) : ∀ (n : Nat) (cs : List Value) (x : DataW H × List MemPlace), DataW.trod enc P w 0 sp held n tV cs = some x → (∀ k ∈ x.1.weights P tV, k ≤ reachBytes) →
    ∃ (g : GVal) (r : List AT), cs = r.map (AT.den β0) ∧ RepV (snapOf w) g r := by
  intro n
  induction n using Nat.strongRecOn with
  | _ n ih => ?_
  intro cs x h hw
  obtain ⟨fs, hu, hl⟩ := T.v
  obtain ⟨m, hm, hlen, hf⟩ := open_struct hu hl h
  rw [T.cV] at hlen
  match cs, hlen with
  | [c0, c1, c2, c3, c4, c5, c6, c7], _ =>
  obtain ⟨y0, h0, _⟩ := hf 0 tI 0 rfl
  obtain ⟨y1, h1, _⟩ := hf 1 tB 1 rfl
  obtain ⟨y2, h2, w2⟩ := hf 2 tD 2 rfl
  obtain ⟨y3, h3, w3⟩ := hf 3 tS 5 rfl
  obtain ⟨y4, h4, w4⟩ := hf 4 tL 6 rfl
  obtain ⟨y5, h5, w5⟩ := hf 5 tM 7 rfl
  rw [T.cI] at h0
  rw [T.cB] at h1
  rw [T.cD] at h2
  rw [T.cS] at h3
  rw [T.cL] at h4
  rw [T.cM] at h5
  simp only [List.drop_zero, List.drop_succ_cons, List.take_succ_cons, List.take_zero] at h0 h1 h2 h3 h4 h5
  obtain ⟨k, e0, -, -⟩ := DataW.trod_int T.i h0
  obtain ⟨b, e1, -⟩ := DataW.trod_bool T.b h1
  obtain ⟨s, e5, hs⟩ := open_str T.s h3 fun k hk => hw k (w3 k hk)
  obtain ⟨fd, hud, hld⟩ := T.d
  obtain ⟨md, hmd, -, hfd⟩ := open_struct hud hld h2
  obtain ⟨z0, g0, _⟩ := hfd 0 tB 0 rfl
  obtain ⟨z1, g1, v1⟩ := hfd 1 tS 1 rfl
  obtain ⟨z2, g2, _⟩ := hfd 2 tI 2 rfl
  rw [T.cB] at g0
  rw [T.cS] at g1
  rw [T.cI] at g2
  simp only [List.drop_zero, List.drop_succ_cons, List.take_succ_cons, List.take_zero] at g0 g1 g2
  obtain ⟨ng, e2, -⟩ := DataW.trod_bool T.b g0
  obtain ⟨dg, e3, hdg⟩ := open_str T.s g1 fun k hk => hw k (w2 k (v1 k hk))
  obtain ⟨ex, e4, -, -⟩ := DataW.trod_int T.i g2
  injection e0 with e0
  injection e1 with e1
  injection e2 with e2
  injection e4 with e4
  subst e0 e1 e2 e3 e4 e5
  obtain ⟨la, ll, lc, ml, rfl, hml, hll, hlr, hle⟩ := open_sl T.l T.cV T.bV h4 fun k hk => hw k (w4 k hk)
  obtain ⟨ma, lm, mc, mm, rfl, hmm, hlm, hmr, hme⟩ := open_sl T.m T.cE T.bE h5 fun k hk => hw k (w5 k hk)
  have HL : ∀ i, ∃ gr : GVal × List AT, i < ll → RepV (snapOf w) gr.1 gr.2 ∧ ∀ a, la = some a → ∀ j v, (gr.2.map (AT.den β0))[j]? = some v → w.cell? (a.add (i * 8 + j)) = some v := by
    intro i
    by_cases hi : i < ll
    · rcases hle with h0 | ⟨a, rfl, hle⟩
      · omega
      · obtain ⟨cs, y, _, q2, q3, q4⟩ := hle i hi
        obtain ⟨g, r, rfl, hr⟩ := ih ml (by omega) cs y q3 fun k hk => hw k (w4 k (q4 k hk))
        exact ⟨(g, r), fun _ => ⟨hr, fun a' ha => by injection ha with ha; subst ha; exact q2⟩⟩
    · exact ⟨(.mk 0 false ⟨false, ⟨#[]⟩, 0⟩ ⟨#[]⟩ [] [] [], []), fun h => absurd h hi⟩
  have HM : ∀ i, ∃ gr : ByteArray × GVal × List AT, i < lm → gr.1.size ≤ mostLen ∧ RepV (snapOf w) gr.2.1 gr.2.2 ∧ ∀ a, ma = some a → ∀ j v, ((keyRow gr.1 gr.2.2).map (AT.den β0))[j]? = some v → w.cell? (a.add (i * 9 + j)) = some v := by
    intro i
    by_cases hi : i < lm
    · rcases hme with h0 | ⟨a, rfl, hme⟩
      · omega
      · obtain ⟨cs, y, q1, q2, q3, q4⟩ := hme i hi
        obtain ⟨fe, hue, hle'⟩ := T.e
        obtain ⟨me, hme', -, hfe⟩ := open_struct hue hle' q3
        obtain ⟨u0, p0, x0⟩ := hfe 0 tS 0 rfl
        obtain ⟨u1, p1, x1⟩ := hfe 1 tV 1 rfl
        rw [T.cS] at p0
        rw [T.cV] at p1
        match cs, q1 with
        | c :: cs', q1 =>
          simp only [List.drop_zero, List.drop_succ_cons, List.take_succ_cons, List.take_zero] at p0 p1
          rw [List.take_of_length_le (by simp at q1; omega)] at p1
          obtain ⟨key, rfl, hk⟩ := open_str T.s p0 fun k hk => hw k (w5 k (q4 k (x0 k hk)))
          obtain ⟨g, r, rfl, hr⟩ := ih me (by omega) cs' u1 p1 fun k hk => hw k (w5 k (q4 k (x1 k hk)))
          exact ⟨(key, g, r), fun _ => ⟨hk, hr, fun a' ha => by injection ha with ha; subst ha; exact q2⟩⟩
    · exact ⟨(⟨#[]⟩, .mk 0 false ⟨false, ⟨#[]⟩, 0⟩ ⟨#[]⟩ [] [] [], []), fun h => absurd h hi⟩
  obtain ⟨FL, HL⟩ := Classical.axiomOfChoice HL
  obtain ⟨FM, HM⟩ := Classical.axiomOfChoice HM
  refine ⟨.mk k b ⟨ng, dg, ex⟩ s ((List.range ll).map fun i => (FL i).1) ((List.range lm).map fun i => (FM i).1) ((List.range lm).map fun i => (FM i).2.1),
    [.v (.int .i64 k), .b b, .b ng, .v (.string dg), .v (.int .i64 ex), .v (.string s), .v (.slice la ll lc), .v (.slice ma lm mc)], rfl, ?_⟩
  simp only [RepV]
  refine ⟨la, lc, (List.range ll).map fun i => (FL i).2, ma, mc, (List.range lm).map fun i => (FM i).2.2, by simp, ?_, RepL.range _ fun i hi => (HL i (List.mem_range.1 hi)).1, by simp, ?_, RepL.range _ fun i hi => (HM i (List.mem_range.1 hi)).2.1, hdg, hs, by simpa [mostLen, reachBytes] using hlr, by simpa [mostLen, reachBytes] using hmr, ?_⟩
  · simp only [List.length_map, List.length_range]
    refine slAt_range hll (fun i hi => ⟨(HL i hi).1.len, (HL i hi).1.clo⟩) ?_
    rcases hle with h0 | ⟨a, rfl, _⟩
    · exact .inl h0
    · exact .inr ⟨a, rfl, fun i hi => (HL i hi).2 a rfl⟩
  · rw [keyRows_range]
    simp only [List.length_map, List.length_range]
    refine slAt_range hlm (fun i hi => ⟨by simp [keyRow, (HM i hi).2.1.len], fun c hc => ?_⟩) ?_
    · cases hc with
      | head => trivial
      | tail _ hc => exact (HM i hi).2.1.clo c hc
    · rcases hme with h0 | ⟨a, rfl, _⟩
      · exact .inl h0
      · exact .inr ⟨a, rfl, fun i hi => (HM i hi).2.2 a rfl⟩
  · intro key hk
    obtain ⟨i, hi, rfl⟩ := List.mem_map.1 hk
    exact (HM i (List.mem_range.1 hi)).1

end
end Go.Sy
/- The closing of a law's row, alike from law to law. -/
namespace Go.Sy
open Go.ChangeShapes Go.RowKit

section
variable {H : Type} {enc : TypeId × Value → H} {P : Program} {W W' : World} {sp : Nat → Bool}

theorem trodAll_stays {T : TypeId → Prop} (K : _root_.Go.Kids P T) (hz : ∀ t e, T t → P.underlying t = some (.slice e) → 0 < P.cellsOf e) :
    ∀ {ts : List TypeId} {vs : List Value} {ds : List (DataW H)} {ps : List MemPlace}, (∀ t ∈ ts, T t) → DataW.TrodAll enc P W 0 (fun _ => true) true ts vs ds ps →
      (∀ p ∈ ps, W.sameAt W' p) → (∀ p ∈ ps, sp p.block = true) → DataW.TrodAll enc P W' 0 sp true ts vs ds ps
  | [], [], [], _, _, h, _, _ => h
  | _ :: _, _ :: _, _ :: _, _, hT, ⟨p, q, ⟨n, h1⟩, h2, e⟩, hs, hb =>
    ⟨p, q, ⟨n, DataW.trod_stays K (fun ht hu => hz _ _ ht hu) (fun h => by cases h) (hT _ List.mem_cons_self) h1 (fun x hx => hs x (by rw [e]; exact List.mem_append_left _ hx)) (fun x hx => hb x (by rw [e]; exact List.mem_append_left _ hx))⟩,
      trodAll_stays K hz (fun t ht => hT t (List.mem_cons_of_mem _ ht)) h2 (fun x hx => hs x (by rw [e]; exact List.mem_append_right _ hx)) (fun x hx => hb x (by rw [e]; exact List.mem_append_right _ hx)), e⟩

theorem below_of_fr {M : Nat → Prop} {w w' : World} (h : Fr M w w') (hM : ∀ b, ¬ M b) : Below w.heap.size w w' := ⟨h.os, h.tape, h.output, h.size, fun k hk => h.block k hk (hM k)⟩

/-- A law's answer is true and nothing that was there has turned. -/
theorem post_of_law {f : Func} {s : ChangeSpec} {apart fresh handsOn again : Bool} {args : Array Value} {ds gs : List (DataW H)} {before : List MemPlace} {tB : TypeId}
    (hl : laidOutB P = true) (hm : mapsRowed P = true) (hz : ∀ t e, t < P.types.size → P.underlying t = some (.slice e) → 0 < P.cellsOf e)
    (hts : ∀ t ∈ f.params.toList, t < P.types.size) (hr : f.resultTypes = #[tB]) (hB : P.underlying tB = some .bool) (hv : s.vars = [])
    (hres : (s.fn H (ds ++ gs)).results = [.lit (.bool true)]) (hargs : (s.fn H (ds ++ gs)).args = ds) (hvars : (s.fn H (ds ++ gs)).vars = [])
    (hW : DataW.Whole enc P f.params.toList s.vars apart W args.toList ds gs before) (hb : Below W.heap.size W W') :
    s.post enc P f apart fresh handsOn again W args (.bool true) W' := by
  have hW' := hW
  obtain ⟨p, q, hA, hV, rfl, hfz, hnd⟩ := hW
  rw [hv] at hV
  obtain ⟨rfl, rfl⟩ := trodVars_none hV
  have hlt : ∀ x ∈ p ++ ([] : List MemPlace), x.block < W.heap.size := fun x hx => hW'.lt x hx
  have h1 : ∀ (b : Nat) (sp : Nat → Bool) (hd : Bool), DataW.TrodAll enc P W' b sp hd f.resultTypes.toList ((Value.bool true).resultList f.resultTypes.size) (s.fn H (ds ++ [])).results [] := by
    intro b sp hd
    rw [hr, hres]
    exact trodAll_mk1 (shut_bool hB true)
  have h2 : ∀ sp : Nat → Bool, (∀ x ∈ p ++ ([] : List MemPlace), sp x.block = true) → DataW.TrodAll enc P W' 0 sp true f.params.toList args.toList (s.fn H (ds ++ [])).args p := by
    intro sp hs
    rw [hargs]
    exact trodAll_stays (T := (· < P.types.size)) (kids_rows hl hm) hz hts hA (fun x hx => hb.same (hlt x (List.mem_append_left _ hx))) (fun x hx => hs x (List.mem_append_left _ hx))
  have h3 : ∀ sp : Nat → Bool, DataW.TrodVars enc P W' sp s.vars (s.fn H (ds ++ [])).vars [] := by
    intro sp
    rw [hv, hvars]
    rfl
  have hold : ∀ x ∈ p ++ ([] : List MemPlace), (fun b => decide (b < W.heap.size)) x.block = true := fun x hx => by simpa using hlt x hx
  refine ⟨ds, [], _, [], p, [], hW', h1 _ _ _, h2 _ hold, h3 _, hb.frame _, fun _ => ⟨ok_one hr rfl (okWide_bool_mk hB _), _, _, ([] ++ p) ++ [], ⟨[] ++ p, [], trodAll_append (h2 _ (fun _ _ => rfl)) (h1 _ _ _), h3 _, rfl, ?_, ?_⟩, ?_⟩⟩
  · intro b off hp
    have hp' : MemPlace.cell b off ∈ p ++ ([] : List MemPlace) := by simpa using hp
    rw [hb.frozen (p := ⟨b, off, none⟩) (hlt _ hp')]
    exact hfz b off hp'
  · intro ha
    have := hnd ha
    simpa using this
  · intro x hp _
    simpa using hp

theorem okWide_agg {tV tL tM tE tD tS tI tB : TypeId} (T : VT P tV tL tM tE tD tS tI tB) {r : Reach} {base : Nat} {v : Value} (h : Value.okWide P W r base tV v) : ∃ cs : Array Value, v = .agg cs ∧ cs.size = P.cellsOf tV := by
  obtain ⟨fs, hu, _⟩ := T.v
  unfold Value.okWide at h
  rw [hu] at h
  obtain ⟨cs, h1, h2, _⟩ := h
  exact ⟨cs, h1, h2⟩

theorem okWide_str {t : TypeId} (T : ∃ fs, P.underlying t = some (.struct fs)) {r : Reach} {base : Nat} {v : Value} (h : Value.okWide P W r base t v) : ∃ (fs : Array Field) (_ : P.underlying t = some (.struct fs)) (cs : Array Value), v = .agg cs ∧ cs.size = P.cellsOf t := by
  obtain ⟨fs, hu⟩ := T
  unfold Value.okWide at h
  rw [hu] at h
  obtain ⟨cs, h1, h2, _⟩ := h
  exact ⟨fs, hu, cs, h1, h2⟩

theorem weights_le {ts : List TypeId} {ds : List (DataW H)} (h : (DataW.weightsEach P ts ds).all (· ≤ reachBytes) = true) {j : Nat} {t : TypeId} {d : DataW H} (ht : ts[j]? = some t) (hd : ds[j]? = some d) : ∀ k ∈ d.weights P t, k ≤ reachBytes := by
  intro k hk
  have := List.all_eq_true.1 h k (DataW.weights_mem_each ht hd k hk)
  simpa using this

end
end Go.Sy
/- Closed facts of the program that every row's closing asks. -/
namespace Go.Proofs.YtadnijcgohflhaaDoor.Row
open Go Go.Proofs Go.Sy Go.ChangeShapes Go.WideShapes Go.ChangeAt Go.RowKit
set_option maxRecDepth 100000

theorem own : ownKnob Tryd.prog.godebug = none := by kernel_rfl
theorem laidOut : laidOutB Tryd.prog = true := by kernel_rfl
theorem rowed : mapsRowed Tryd.prog = true := by kernel_rfl
theorem full : ∀ t e, t < Tryd.prog.types.size → Tryd.prog.underlying t = some (.slice e) → 0 < Tryd.prog.cellsOf e := slices_full_of Tryd.prog (by kernel_rfl)
theorem vt : VT Tryd.prog 27 24 25 125 23 9 3 4 where
  v := ⟨_, Tryd.underlying27, rfl⟩
  l := by kernel_rfl
  m := by kernel_rfl
  e := ⟨_, Tryd.underlying125, rfl⟩
  d := ⟨_, Tryd.underlying23, rfl⟩
  s := by kernel_rfl
  i := by kernel_rfl
  b := by kernel_rfl
  cV := by kernel_rfl
  cE := by kernel_rfl
  cD := by kernel_rfl
  cS := by kernel_rfl
  cI := by kernel_rfl
  cB := by kernel_rfl
  cL := by kernel_rfl
  cM := by kernel_rfl
  bV := of_decide_eq_true (by kernel_rfl)
  bE := of_decide_eq_true (by kernel_rfl)
end Go.Proofs.YtadnijcgohflhaaDoor.Row
