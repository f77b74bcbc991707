/- JoinsPathsCardSaid is proved: the law answers true at every input of the card. No conditions of its own. -/
import Derived.Test.YtlonlnagmfdlbaaGreatDoorM11
namespace Go.Proofs.YtlonlnagmfdlbaaGreatDoor.joinsPaths
open Go Go.Proofs Go.Sy Go.ChangeShapes Go.WideShapes Go.ChangeAt Go.RowKit Go.Proofs.YtlonlnagmfdlbaaGreatDoor.Row
set_option maxRecDepth 100000
set_option maxHeartbeats 1000000
theorem rowsOk:(Tryz.f5.params.toList.all fun t=>decide (t<Tryz.prog.types.size))=true:=by kernel_rfl
theorem contract (H:Type) (enc:TypeId×Value->H) (W:World) (base:Nat) (args:Array Value) (ds gs:List (DataW H)) (before:List MemPlace)
    (hval:∀ (j:Nat) t v,Tryz.f5.params[j]?=some t->args[j]?=some v->Value.okWide Tryz.prog W .any base t v)
    (hW:DataW.Whole enc Tryz.prog Tryz.f5.params.toList Rows.joinsPathsSpec.vars false W args.toList ds gs before)
    (hz:(DataW.weightsEach Tryz.prog Tryz.f5.params.toList ds).all (·<=reachBytes)=true) :
    Calls Tryz.prog 5 args W fun e W'=>∃ v,e=.returned v/\Rows.joinsPathsSpec.post enc Tryz.prog Tryz.f5 false true false false W args v W':=by
  have hW':=hW
  obtain ⟨p,q,hA0,hV,rfl,hfz,hnd⟩:=hW
  have hA:DataW.TrodAll enc Tryz.prog W 0 (fun _=>true) true Tryz.f5.params.toList args.toList ds p:=hA0
  rw [Tryz.params5] at hA hval hz
  obtain ⟨v0,vs0,d0,ds0,p0,q0,ha0,rfl,rfl,h0,r0⟩:=trodAll_cons hA
  obtain ⟨v1,vs1,d1,ds1,p1,q1,rfl,rfl,rfl,h1,r1⟩:=trodAll_cons r0
  obtain ⟨v2,vs2,d2,ds2,p2,q2,rfl,rfl,rfl,h2,r2⟩:=trodAll_cons r1
  obtain ⟨v3,vs3,d3,ds3,p3,q3,rfl,rfl,rfl,h3,r3⟩:=trodAll_cons r2
  obtain ⟨rfl,rfl,rfl⟩:=trodAll_nil r3
  obtain rfl:args=#[v0,v1,v2,v3]:=by cases args;simp_all
  obtain ⟨rfl,rfl⟩:=trodVars_none hV
  obtain ⟨t1,rfl⟩:=okWide_string vt.s (hval 1 9 v1 rfl rfl)
  obtain ⟨t2,rfl⟩:=okWide_string vt.s (hval 2 9 v2 rfl rfl)
  obtain ⟨b3,rfl⟩:=okWide_bool vt.b (hval 3 4 v3 rfl rfl)
  obtain ⟨wo0,wl0,wc0,rfl⟩:=okWide_slice (show Tryz.prog.underlying 25=some (.slice 28) by kernel_rfl) (hval 0 25 v0 rfl rfl)
  obtain ⟨n0,hn0⟩:=h0
  obtain ⟨ao0,cap0,l0,r0w,e0,P0,hl0,hR0⟩:=open_valL vt hn0 fun k hk=>weights_le hz (j:=0) rfl rfl k hk
  injection e0 with e1 e2 e3
  subst e1 e2 e3
  refine Calls.mono (JoinsPaths_c (snapOf W) l0 r0w wo0 wc0 P0 hl0 hR0 t1 t2 b3     W (snapOf_sealed W)) fun e W' ⟨v,σ',he,hf,_,_,hv⟩=>?_
  have hv':v=.bool true:=hv
  subst he hv'
  exact ⟨_,rfl,post_of_law laidOut rowed full (fun t ht=>of_decide_eq_true (List.all_eq_true.1 rowsOk t ht)) rfl vt.b rfl rfl rfl rfl hW' (below_of_fr hf fun _ h=>h)⟩
def theArgs:Array Value:=#[.slice none 0 0,.string ⟨#[]⟩,.string ⟨#[]⟩,.bool false]
noncomputable def W0 (os:Os):World:=(World.laidAll Tryz.prog os Rows.joinsPathsRow.laid).forCall (fun _ _=>0) ⟨#[],theArgs,[]⟩
theorem laid_met (os:Os):laidMetH Tryz.prog Rows.joinsPathsRow.laid (W0 os).memory:=by
  rw [MakeChecks.laidMetH_plain _ _ _ (by kernel_rfl)]
  exact laidMet_laidAll _ (by kernel_rfl) (by kernel_rfl)
theorem reads (os:Os) {H:Type} (enc:TypeId×Value->H):DataW.whole enc Tryz.prog (W0 os).memory Tryz.f5.params.toList Rows.joinsPathsSpec.vars false theArgs.toList 8 =
    some ([.nil,.lit (.string []),.lit (.string []),.lit (.bool false)],[],[]):=by kernel_rfl
theorem shaped (os:Os):(W0 os).Shaped Tryz.prog:=World.shaped_of_ZipB (by kernel_rfl) (by kernel_rfl)
theorem okIn (os:Os):Input.okWideB Tryz.prog (W0 os) 5 ⟨#[],theArgs,[]⟩=true:=by kernel_rfl
theorem lifted (os:Os) (started:os.Started) (H:Type) (enc:TypeId×Value->H) (F:Stop.Interp) :
    ReturnsInHanded {} Tryz.checked os 5 .any ((OpenSpec.ofChange Rows.joinsPathsSpec).preRow enc Tryz.prog Tryz.f5 Rows.joinsPathsRow.domain false Rows.joinsPathsRow.laid) (((OpenSpec.ofChange Rows.joinsPathsSpec).at F).post enc Tryz.prog Tryz.f5 false true false false):=by
  have hx:=reads os enc
  refine returnsInHanded_of_row (C:=Tryz.checked) (s:=OpenSpec.ofChange Rows.joinsPathsSpec) own started (by kernel_rfl) Tryz.func5 ?_ ?_
  · refine ⟨World.laidAll Tryz.prog os Rows.joinsPathsRow.laid,fun _ _=>0,⟨#[],theArgs,[]⟩,World.laidAll_os _ _ _,shaped os,(Input.okWide_of_okWideB (base:=0) (okIn os)).1,(Input.okWide_of_okWideB (okIn os)).2,
      OpenSpec.preRow_of_cond 8 hx (by kernel_rfl) (fun k hk=>by cases hk) (by kernel_rfl) (laid_met os),?_⟩
    simp only [Assume.holds]
    exact ⟨by simp,by simp,fun _=>Modest.zero,by simp,by simp⟩
  · intro W base args ds gs before hval hW _ _ hz _ _ _
    obtain ⟨_,_,_,hV,_⟩:=id hW
    obtain ⟨rfl,_⟩:=trodVars_none hV
    rw [List.append_nil] at hz
    exact contract H enc W base args ds [] before hval hW (by rw [<-hz];exact congrArg (fun l=>(DataW.weightsEach Tryz.prog l ds).all (·<=reachBytes)) (List.append_nil _).symm)
theorem k1:(Rows.joinsPathsRow.inPlace == Tryz.pinned.checked.prog.inPlace 5)=true:=by kernel_rfl
theorem k2:(Rows.joinsPathsRow.unfollowed == Tryz.pinned.checked.prog.unfollowed 5)=true:=by kernel_rfl
theorem k3:(Rows.joinsPathsRow.recurses == Tryz.pinned.checked.prog.recurses 5)=true:=by kernel_rfl
theorem k4:(Rows.joinsPathsRow.named == Tryz.pinned.checked.prog.varsNamed 5)=true:=by kernel_rfl
theorem facts:joinedFacts Tryz.pinned.checked.prog 5 Tryz.f5 (OpenSpec.ofChange Rows.joinsPathsSpec).bare Rows.joinsPathsRow=true:=by
  unfold joinedFacts
  rw [k1,k2,k3,k4]
  kernel_rfl
theorem said:Rows.JoinsPathsSaid :=
  OpenClaim.holds_of_cond 5 Tryz.f5 rfl rfl rfl rfl rfl rfl rfl ⟨rfl,rfl,rfl,rfl,rfl⟩ rfl rfl rfl rfl rfl (by kernel_rfl) Tryz.func5 facts
    (of_decide_eq_true (by kernel_rfl)) (by unfold Func.isWrapper;first | (rw [if_pos (by decide +kernel)];kernel_rfl) | (rw [if_neg (by decide +kernel)];exact ⟨rfl,rfl⟩))
    (fun os started H enc _ F=>by rw [OpenClaim.pre_eq_preRow];exact lifted os started H enc F)
theorem plain (f : FuncId) (fn : Func) (hf : Tryz.pinned.checked.prog.funcNamed "orangery/orangerylaw20.JoinsPaths" = some f) (hfn : Tryz.pinned.checked.prog.funcs[f]? = some fn) :
    false=Tryz.pinned.checked.prog.looks []/\∀ (j:Nat) t,fn.params[j]?=some t->Tryz.pinned.checked.prog.wantsStandIn t=false:=by
  obtain rfl : f = 5 := Option.some.inj ((show Tryz.prog.funcNamed "orangery/orangerylaw20.JoinsPaths" = some 5 by kernel_rfl).symm.trans hf) |>.symm
  obtain rfl:fn=Tryz.f5:=(Option.some.inj (Tryz.func5.symm.trans hfn)).symm
  refine ⟨by kernel_rfl,fun j t ht=>?_⟩
  have h:(Tryz.f5.params.toList.all fun t=>!Tryz.prog.wantsStandIn t)=true:=by kernel_rfl
  have:=List.all_eq_true.1 h t (by simpa using Array.mem_of_getElem? ht)
  show Tryz.prog.wantsStandIn t=false
  simpa using this
theorem card:Rows.JoinsPathsCardSaid :=
  Claim7.holds_tied_plain_at .later [] _ _ _ _ said (fun _ h=>by cases h) (by kernel_rfl) (fun _ h=>by cases h) joinsPaths_row_tie rfl ⟨rfl,rfl⟩ (by kernel_rfl) rfl plain (by kernel_rfl)
end Go.Proofs.YtlonlnagmfdlbaaGreatDoor.joinsPaths
