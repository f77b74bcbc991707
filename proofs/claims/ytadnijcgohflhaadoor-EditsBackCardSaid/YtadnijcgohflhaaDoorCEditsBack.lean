/- EditsBackCardSaid is proved: the law answers true at every input of the card. No conditions of its own. -/
import Derived.Test.YtadnijcgohflhaaDoorM12
namespace Go.Proofs.YtadnijcgohflhaaDoor.editsBack
open Go Go.Proofs Go.Sy Go.ChangeShapes Go.WideShapes Go.ChangeAt Go.RowKit Go.Proofs.YtadnijcgohflhaaDoor.Row
set_option maxRecDepth 100000
set_option maxHeartbeats 1000000

theorem rowsOk : (Tryd.f14.params.toList.all fun t => decide (t < Tryd.prog.types.size)) = true := by kernel_rfl

theorem contract (H : Type) (enc : TypeId × Value → H) (W : World) (base : Nat) (args : Array Value) (ds gs : List (DataW H)) (before : List MemPlace)
    (hval : ∀ (j : Nat) t v, Tryd.f14.params[j]? = some t → args[j]? = some v → Value.okWide Tryd.prog W .any base t v)
    (hW : DataW.Whole enc Tryd.prog Tryd.f14.params.toList Rows.editsBackSpec.vars false W args.toList ds gs before)
    (hz : (DataW.weightsEach Tryd.prog Tryd.f14.params.toList ds).all (· ≤ reachBytes) = true) :
    Calls Tryd.prog 14 args W fun e W' => ∃ v, e = .returned v ∧ Rows.editsBackSpec.post enc Tryd.prog Tryd.f14 false true false false W args v W' := by
  have hW' := hW
  obtain ⟨p, q, hA0, hV, rfl, hfz, hnd⟩ := hW
  have hA : DataW.TrodAll enc Tryd.prog W 0 (fun _ => true) true Tryd.f14.params.toList args.toList ds p := hA0
  rw [Tryd.params14] at hA hval hz
  obtain ⟨v0, vs0, d0, ds0, p0, q0, ha0, rfl, rfl, h0, r0⟩ := trodAll_cons hA
  obtain ⟨v1, vs1, d1, ds1, p1, q1, rfl, rfl, rfl, h1, r1⟩ := trodAll_cons r0
  obtain ⟨v2, vs2, d2, ds2, p2, q2, rfl, rfl, rfl, h2, r2⟩ := trodAll_cons r1
  obtain ⟨v3, vs3, d3, ds3, p3, q3, rfl, rfl, rfl, h3, r3⟩ := trodAll_cons r2
  obtain ⟨rfl, rfl, rfl⟩ := trodAll_nil r3
  obtain rfl : args = #[v0, v1, v2, v3] := by cases args; simp_all
  obtain ⟨rfl, rfl⟩ := trodVars_none hV
  obtain ⟨i1, rfl, rfl, -, -⟩ := open_int vt.i (hval 1 3 v1 rfl rfl) h1
  obtain ⟨i2, rfl, rfl, -, -⟩ := open_int vt.i (hval 2 3 v2 rfl rfl) h2
  obtain ⟨cs0, rfl, -⟩ := okWide_agg vt (hval 0 27 v0 rfl rfl)
  obtain ⟨n0, hn0⟩ := h0
  obtain ⟨g0, c0, hc0, hR0⟩ := open_val vt n0 _ _ hn0 fun k hk => weights_le hz (j := 0) rfl rfl k hk
  obtain rfl : cs0 = (c0.map (AT.den β0)).toArray := by
    apply Array.ext'
    simpa [Value.cells] using hc0
  obtain ⟨cs3, rfl, -⟩ := okWide_agg vt (hval 3 27 v3 rfl rfl)
  obtain ⟨n3, hn3⟩ := h3
  obtain ⟨g3, c3, hc3, hR3⟩ := open_val vt n3 _ _ hn3 fun k hk => weights_le hz (j := 3) rfl rfl k hk
  obtain rfl : cs3 = (c3.map (AT.den β0)).toArray := by
    apply Array.ext'
    simpa [Value.cells] using hc3
  refine Calls.mono (EditsBack_c (snapOf W)  g0 c0 g3 c3 i1 i2  hR0 hR3 W (snapOf_sealed W)) fun e W' ⟨v, σ', he, hf, _, _, hv⟩ => ?_
  have hv' : v = .bool true := hv
  subst he hv'
  exact ⟨_, rfl, post_of_law laidOut rowed full (fun t ht => of_decide_eq_true (List.all_eq_true.1 rowsOk t ht)) rfl vt.b rfl rfl rfl rfl hW' (below_of_fr hf fun _ h => h)⟩

def theArgs : Array Value := #[.agg #[.int .i64 0, .bool false, .bool false, .string ⟨#[]⟩, .int .i64 0, .string ⟨#[]⟩, .slice none 0 0, .slice none 0 0], .int .i64 0, .int .i64 0, .agg #[.int .i64 0, .bool false, .bool false, .string ⟨#[]⟩, .int .i64 0, .string ⟨#[]⟩, .slice none 0 0, .slice none 0 0]]
noncomputable def W0 (os : Os) : World := (World.laidAll Tryd.prog os Rows.editsBackRow.laid).forCall (fun _ _ => 0) ⟨#[], theArgs, []⟩
theorem laid_met (os : Os) : laidMetH Tryd.prog Rows.editsBackRow.laid (W0 os).memory := by
  rw [MakeChecks.laidMetH_plain _ _ _ (by kernel_rfl)]
  exact laidMet_laidAll _ (by kernel_rfl) (by kernel_rfl)
theorem reads (os : Os) {H : Type} (enc : TypeId × Value → H) : DataW.whole enc Tryd.prog (W0 os).memory Tryd.f14.params.toList Rows.editsBackSpec.vars false theArgs.toList 8 =
    some ([.agg [.lit (.int .i64 0), .lit (.bool false), .agg [.lit (.bool false), .lit (.string []), .lit (.int .i64 0)], .lit (.string []), .nil, .nil], .lit (.int .i64 0), .lit (.int .i64 0), .agg [.lit (.int .i64 0), .lit (.bool false), .agg [.lit (.bool false), .lit (.string []), .lit (.int .i64 0)], .lit (.string []), .nil, .nil]], [], []) := by kernel_rfl
theorem shaped (os : Os) : (W0 os).Shaped Tryd.prog := World.shaped_of_ZipB (by kernel_rfl) (by kernel_rfl)
theorem okIn (os : Os) : Input.okWideB Tryd.prog (W0 os) 14 ⟨#[], theArgs, []⟩ = true := by kernel_rfl

theorem lifted (os : Os) (started : os.Started) (H : Type) (enc : TypeId × Value → H) (F : Stop.Interp) :
    ReturnsInHanded {} Tryd.checked os 14 .any ((OpenSpec.ofChange Rows.editsBackSpec).preRow enc Tryd.prog Tryd.f14 Rows.editsBackRow.domain false Rows.editsBackRow.laid) (((OpenSpec.ofChange Rows.editsBackSpec).at F).post enc Tryd.prog Tryd.f14 false true false false) := by
  have hx := reads os enc
  refine returnsInHanded_of_row (C := Tryd.checked) (s := OpenSpec.ofChange Rows.editsBackSpec) own started (by kernel_rfl) Tryd.func14 ?_ ?_
  · refine ⟨World.laidAll Tryd.prog os Rows.editsBackRow.laid, fun _ _ => 0, ⟨#[], theArgs, []⟩, World.laidAll_os _ _ _, shaped os, (Input.okWide_of_okWideB (base := 0) (okIn os)).1, (Input.okWide_of_okWideB (okIn os)).2,
      OpenSpec.preRow_of_cond 8 hx (by kernel_rfl) (fun k hk => by cases hk) (by kernel_rfl) (laid_met os), ?_⟩
    simp only [Assume.holds]
    exact ⟨by simp, by simp, fun _ => Modest.zero, by simp, by simp⟩
  · intro W base args ds gs before hval hW _ _ hz _ _ _
    obtain ⟨_, _, _, hV, _⟩ := id hW
    obtain ⟨rfl, _⟩ := trodVars_none hV
    rw [List.append_nil] at hz
    exact contract H enc W base args ds [] before hval hW (by rw [← hz]; exact congrArg (fun l => (DataW.weightsEach Tryd.prog l ds).all (· ≤ reachBytes)) (List.append_nil _).symm)

theorem said : Rows.EditsBackSaid :=
  OpenClaim.holds_of_cond 14 Tryd.f14 rfl rfl rfl rfl rfl rfl rfl ⟨rfl, rfl, rfl, rfl, rfl⟩ rfl rfl rfl rfl rfl (by kernel_rfl) Tryd.func14 (by kernel_rfl)
    (of_decide_eq_true (by kernel_rfl)) (by unfold Func.isWrapper; first | (rw [if_pos (by decide +kernel)]; kernel_rfl) | (rw [if_neg (by decide +kernel)]; exact ⟨rfl, rfl⟩))
    (fun os started H enc _ F => by rw [OpenClaim.pre_eq_preRow]; exact lifted os started H enc F)

theorem plain (f : FuncId) (fn : Func) (hf : Tryd.pinned.checked.prog.funcNamed "orangery/orangerylaw12.EditsBack" = some f) (hfn : Tryd.pinned.checked.prog.funcs[f]? = some fn) :
    false = Tryd.pinned.checked.prog.looks [] ∧ ∀ (j : Nat) t, fn.params[j]? = some t → Tryd.pinned.checked.prog.wantsStandIn t = false := by
  obtain rfl : f = 14 := Option.some.inj ((show Tryd.prog.funcNamed "orangery/orangerylaw12.EditsBack" = some 14 by kernel_rfl).symm.trans hf) |>.symm
  obtain rfl : fn = Tryd.f14 := (Option.some.inj (Tryd.func14.symm.trans hfn)).symm
  refine ⟨by kernel_rfl, fun j t ht => ?_⟩
  have h : (Tryd.f14.params.toList.all fun t => !Tryd.prog.wantsStandIn t) = true := by kernel_rfl
  have := List.all_eq_true.1 h t (by simpa using Array.mem_of_getElem? ht)
  show Tryd.prog.wantsStandIn t = false
  simpa using this

theorem card : Rows.EditsBackCardSaid :=
  Claim7.holds_tied_plain_at .later [] _ _ _ _ said (fun _ h => by cases h) (by kernel_rfl) (fun _ h => by cases h) editsBack_row_tie rfl ⟨rfl, rfl⟩ (by kernel_rfl) rfl plain (by kernel_rfl)
end Go.Proofs.YtadnijcgohflhaaDoor.editsBack
