/- ShredIsCardSaid is proved: the law answers true at every input of the card. No conditions of its own. -/
import Derived.Test.YtadnijcgohflhaaDoorM12
namespace Go.Proofs.YtadnijcgohflhaaDoor.shredIs
open Go Go.Proofs Go.Sy Go.ChangeShapes Go.WideShapes Go.ChangeAt Go.RowKit Go.Proofs.YtadnijcgohflhaaDoor.Row
set_option maxRecDepth 100000
set_option maxHeartbeats 1000000

theorem rowsOk : (Tryd.f7.params.toList.all fun t => decide (t < Tryd.prog.types.size)) = true := by kernel_rfl

theorem contract (H : Type) (enc : TypeId × Value → H) (W : World) (base : Nat) (args : Array Value) (ds gs : List (DataW H)) (before : List MemPlace)
    (hval : ∀ (j : Nat) t v, Tryd.f7.params[j]? = some t → args[j]? = some v → Value.okWide Tryd.prog W .any base t v)
    (hW : DataW.Whole enc Tryd.prog Tryd.f7.params.toList Rows.shredIsSpec.vars false W args.toList ds gs before)
    (hz : (DataW.weightsEach Tryd.prog Tryd.f7.params.toList ds).all (· ≤ reachBytes) = true) :
    Calls Tryd.prog 7 args W fun e W' => ∃ v, e = .returned v ∧ Rows.shredIsSpec.post enc Tryd.prog Tryd.f7 false true false false W args v W' := by
  have hW' := hW
  obtain ⟨p, q, hA0, hV, rfl, hfz, hnd⟩ := hW
  have hA : DataW.TrodAll enc Tryd.prog W 0 (fun _ => true) true Tryd.f7.params.toList args.toList ds p := hA0
  rw [Tryd.params7] at hA hval hz
  obtain ⟨v0, vs0, d0, ds0, p0, q0, ha0, rfl, rfl, h0, r0⟩ := trodAll_cons hA
  obtain ⟨v1, vs1, d1, ds1, p1, q1, rfl, rfl, rfl, h1, r1⟩ := trodAll_cons r0
  obtain ⟨v2, vs2, d2, ds2, p2, q2, rfl, rfl, rfl, h2, r2⟩ := trodAll_cons r1
  obtain ⟨v3, vs3, d3, ds3, p3, q3, rfl, rfl, rfl, h3, r3⟩ := trodAll_cons r2
  obtain ⟨v4, vs4, d4, ds4, p4, q4, rfl, rfl, rfl, h4, r4⟩ := trodAll_cons r3
  obtain ⟨rfl, rfl, rfl⟩ := trodAll_nil r4
  obtain rfl : args = #[v0, v1, v2, v3, v4] := by cases args; simp_all
  obtain ⟨rfl, rfl⟩ := trodVars_none hV
  obtain ⟨i1, rfl, rfl, -, -⟩ := open_int vt.i (hval 1 3 v1 rfl rfl) h1
  obtain ⟨i3, rfl, rfl, -, -⟩ := open_int vt.i (hval 3 3 v3 rfl rfl) h3
  obtain ⟨cs0, rfl, -⟩ := okWide_agg vt (hval 0 27 v0 rfl rfl)
  obtain ⟨n0, hn0⟩ := h0
  obtain ⟨g0, c0, hc0, hR0⟩ := open_val vt n0 _ _ hn0 fun k hk => weights_le hz (j := 0) rfl rfl k hk
  obtain rfl : cs0 = (c0.map (AT.den β0)).toArray := by
    apply Array.ext'
    simpa [Value.cells] using hc0
  obtain ⟨wo2, wl2, wc2, rfl⟩ := okWide_slice (show Tryd.prog.underlying 48 = some (.slice 132) by kernel_rfl) (hval 2 48 v2 rfl rfl)
  obtain ⟨n2, hn2⟩ := h2
  obtain ⟨ao2, cap2, l2, e2, P2, hf2, hl2⟩ := open_recL (t := 48) (tR := 132) vt (by kernel_rfl) Tryd.underlying132 rfl (by kernel_rfl) (of_decide_eq_true (by kernel_rfl)) hn2 fun k hk => weights_le hz (j := 2) rfl rfl k hk
  injection e2 with e1 e2 e3
  subst e1 e2 e3
  obtain ⟨wo4, wl4, wc4, rfl⟩ := okWide_slice (show Tryd.prog.underlying 45 = some (.slice 129) by kernel_rfl) (hval 4 45 v4 rfl rfl)
  obtain ⟨n4, hn4⟩ := h4
  obtain ⟨ao4, cap4, l4, e4, P4, -⟩ := open_stepL (t := 45) (tR := 129) vt (by kernel_rfl) Tryd.underlying129 rfl (by kernel_rfl) (of_decide_eq_true (by kernel_rfl)) hn4 fun k hk => weights_le hz (j := 4) rfl rfl k hk
  injection e4 with e1 e2 e3
  subst e1 e2 e3
  refine Calls.mono (ShredIs_c (snapOf W)  g0 c0 i1 i3   l2 wo2 wc2 P2 hl2 hf2 l4 wo4 wc4 P4 hR0 W (snapOf_sealed W)) fun e W' ⟨v, σ', he, hf, _, _, hv⟩ => ?_
  have hv' : v = .bool true := hv
  subst he hv'
  exact ⟨_, rfl, post_of_law laidOut rowed full (fun t ht => of_decide_eq_true (List.all_eq_true.1 rowsOk t ht)) rfl vt.b rfl rfl rfl rfl hW' (below_of_fr hf fun _ h => h)⟩

def theArgs : Array Value := #[.agg #[.int .i64 0, .bool false, .bool false, .string ⟨#[]⟩, .int .i64 0, .string ⟨#[]⟩, .slice none 0 0, .slice none 0 0], .int .i64 0, .slice none 0 0, .int .i64 0, .slice none 0 0]
noncomputable def W0 (os : Os) : World := (World.laidAll Tryd.prog os Rows.shredIsRow.laid).forCall (fun _ _ => 0) ⟨#[], theArgs, []⟩
theorem laid_met (os : Os) : laidMetH Tryd.prog Rows.shredIsRow.laid (W0 os).memory := by
  rw [MakeChecks.laidMetH_plain _ _ _ (by kernel_rfl)]
  exact laidMet_laidAll _ (by kernel_rfl) (by kernel_rfl)
theorem reads (os : Os) {H : Type} (enc : TypeId × Value → H) : DataW.whole enc Tryd.prog (W0 os).memory Tryd.f7.params.toList Rows.shredIsSpec.vars false theArgs.toList 8 =
    some ([.agg [.lit (.int .i64 0), .lit (.bool false), .agg [.lit (.bool false), .lit (.string []), .lit (.int .i64 0)], .lit (.string []), .nil, .nil], .lit (.int .i64 0), .nil, .lit (.int .i64 0), .nil], [], []) := by kernel_rfl
theorem shaped (os : Os) : (W0 os).Shaped Tryd.prog := World.shaped_of_ZipB (by kernel_rfl) (by kernel_rfl)
theorem okIn (os : Os) : Input.okWideB Tryd.prog (W0 os) 7 ⟨#[], theArgs, []⟩ = true := by kernel_rfl

theorem lifted (os : Os) (started : os.Started) (H : Type) (enc : TypeId × Value → H) (F : Stop.Interp) :
    ReturnsInHanded {} Tryd.checked os 7 .any ((OpenSpec.ofChange Rows.shredIsSpec).preRow enc Tryd.prog Tryd.f7 Rows.shredIsRow.domain false Rows.shredIsRow.laid) (((OpenSpec.ofChange Rows.shredIsSpec).at F).post enc Tryd.prog Tryd.f7 false true false false) := by
  have hx := reads os enc
  refine returnsInHanded_of_row (C := Tryd.checked) (s := OpenSpec.ofChange Rows.shredIsSpec) own started (by kernel_rfl) Tryd.func7 ?_ ?_
  · refine ⟨World.laidAll Tryd.prog os Rows.shredIsRow.laid, fun _ _ => 0, ⟨#[], theArgs, []⟩, World.laidAll_os _ _ _, shaped os, (Input.okWide_of_okWideB (base := 0) (okIn os)).1, (Input.okWide_of_okWideB (okIn os)).2,
      OpenSpec.preRow_of_cond 8 hx (by kernel_rfl) (fun k hk => by cases hk) (by kernel_rfl) (laid_met os), ?_⟩
    simp only [Assume.holds]
    exact ⟨by simp, by simp, fun _ => Modest.zero, by simp, by simp⟩
  · intro W base args ds gs before hval hW _ _ hz _ _ _
    obtain ⟨_, _, _, hV, _⟩ := id hW
    obtain ⟨rfl, _⟩ := trodVars_none hV
    rw [List.append_nil] at hz
    exact contract H enc W base args ds [] before hval hW (by rw [← hz]; exact congrArg (fun l => (DataW.weightsEach Tryd.prog l ds).all (· ≤ reachBytes)) (List.append_nil _).symm)

theorem k1 : (Rows.shredIsRow.inPlace == Tryd.pinned.checked.prog.inPlace 7) = true := by kernel_rfl
theorem k2 : (Rows.shredIsRow.unfollowed == Tryd.pinned.checked.prog.unfollowed 7) = true := by kernel_rfl
theorem k3 : (Rows.shredIsRow.recurses == Tryd.pinned.checked.prog.recurses 7) = true := by kernel_rfl
theorem k4 : (Rows.shredIsRow.named == Tryd.pinned.checked.prog.varsNamed 7) = true := by kernel_rfl
theorem facts : joinedFacts Tryd.pinned.checked.prog 7 Tryd.f7 (OpenSpec.ofChange Rows.shredIsSpec).bare Rows.shredIsRow = true := by
  unfold joinedFacts
  rw [k1, k2, k3, k4]
  kernel_rfl
theorem said : Rows.ShredIsSaid :=
  OpenClaim.holds_of_cond 7 Tryd.f7 rfl rfl rfl rfl rfl rfl rfl ⟨rfl, rfl, rfl, rfl, rfl⟩ rfl rfl rfl rfl rfl (by kernel_rfl) Tryd.func7 facts
    (of_decide_eq_true (by kernel_rfl)) (by unfold Func.isWrapper; first | (rw [if_pos (by decide +kernel)]; kernel_rfl) | (rw [if_neg (by decide +kernel)]; exact ⟨rfl, rfl⟩))
    (fun os started H enc _ F => by rw [OpenClaim.pre_eq_preRow]; exact lifted os started H enc F)

theorem plain (f : FuncId) (fn : Func) (hf : Tryd.pinned.checked.prog.funcNamed "orangery/orangerylaw11.ShredIs" = some f) (hfn : Tryd.pinned.checked.prog.funcs[f]? = some fn) :
    false = Tryd.pinned.checked.prog.looks [] ∧ ∀ (j : Nat) t, fn.params[j]? = some t → Tryd.pinned.checked.prog.wantsStandIn t = false := by
  obtain rfl : f = 7 := Option.some.inj ((show Tryd.prog.funcNamed "orangery/orangerylaw11.ShredIs" = some 7 by kernel_rfl).symm.trans hf) |>.symm
  obtain rfl : fn = Tryd.f7 := (Option.some.inj (Tryd.func7.symm.trans hfn)).symm
  refine ⟨by kernel_rfl, fun j t ht => ?_⟩
  have h : (Tryd.f7.params.toList.all fun t => !Tryd.prog.wantsStandIn t) = true := by kernel_rfl
  have := List.all_eq_true.1 h t (by simpa using Array.mem_of_getElem? ht)
  show Tryd.prog.wantsStandIn t = false
  simpa using this

theorem card : Rows.ShredIsCardSaid :=
  Claim7.holds_tied_plain_at .later [] _ _ _ _ said (fun _ h => by cases h) (by kernel_rfl) (fun _ h => by cases h) shredIs_row_tie rfl ⟨rfl, rfl⟩ (by kernel_rfl) rfl plain (by kernel_rfl)
end Go.Proofs.YtadnijcgohflhaaDoor.shredIs
