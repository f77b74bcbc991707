/- StreamsUpCardSaid is proved: the law answers true at every input of the card. No conditions of its own. -/
import Derived.Test.YtlonlnagmfdlbaaGreatDoorM11
namespace Go.Proofs.YtlonlnagmfdlbaaGreatDoor.streamsUp
open Go Go.Proofs Go.Sy Go.ChangeShapes Go.WideShapes Go.ChangeAt Go.RowKit Go.Proofs.YtlonlnagmfdlbaaGreatDoor.Row
set_option maxRecDepth 100000
set_option maxHeartbeats 1000000
theorem rowsOk:(Tryz.f7.params.toList.all fun t=>decide (t<Tryz.prog.types.size))=true:=by kernel_rfl
theorem contract (H:Type) (enc:TypeId×Value->H) (W:World) (base:Nat) (args:Array Value) (ds gs:List (DataW H)) (before:List MemPlace) (hsh:W.ShapedOpen Tryz.prog)
    (hval:∀ (j:Nat) t v,Tryz.f7.params[j]?=some t->args[j]?=some v->Value.okWide Tryz.prog W .any base t v)
    (hW:DataW.Whole enc Tryz.prog Tryz.f7.params.toList Rows.streamsUpSpec.vars false W args.toList ds gs before)
    (hz:(DataW.weightsEach Tryz.prog Tryz.f7.params.toList ds).all (·<=reachBytes)=true) :
    Calls Tryz.prog 7 args W fun e W'=>∃ v,e=.returned v/\Rows.streamsUpSpec.post enc Tryz.prog Tryz.f7 false true false false W args v W':=by
  have hW':=hW
  obtain ⟨p,q,hA0,hV,rfl,hfz,hnd⟩:=hW
  have hA:DataW.TrodAll enc Tryz.prog W 0 (fun _=>true) true Tryz.f7.params.toList args.toList ds p:=hA0
  rw [Tryz.params7] at hA hval hz
  obtain ⟨v0,vs0,d0,ds0,p0,q0,ha0,rfl,rfl,h0,r0⟩:=trodAll_cons hA
  obtain ⟨rfl,rfl,rfl⟩:=trodAll_nil r0
  obtain rfl:args=#[v0]:=by cases args;simp_all
  obtain ⟨rfl,rfl⟩:=trodVars_none hV
  obtain ⟨wo0,wl0,wc0,rfl⟩:=okWide_slice (show Tryz.prog.underlying 25=some (.slice 28) by kernel_rfl) (hval 0 25 v0 rfl rfl)
  obtain ⟨n0,hn0⟩:=h0
  obtain ⟨ao0,cap0,l0,r0w,e0,P0,hl0,hR0⟩:=open_valL vt hn0 fun k hk=>weights_le hz (j:=0) rfl rfl k hk
  injection e0 with e1 e2 e3
  subst e1 e2 e3
  obtain ⟨m,hm⟩:=farLen W hsh
  have hm:(snapOf W).cell ⟨0,0,none⟩=some (.int .i64 m):=hm
  refine Calls.mono (StreamsUp_c (snapOf W) m hm l0 r0w wo0 wc0 P0 hl0 hR0 W (snapOf_sealed W)) fun e W' ⟨v,σ',he,hf,_,_,hv⟩=>?_
  have hv':v=.bool true:=hv
  subst he hv'
  exact ⟨_,rfl,post_of_law laidOut rowed full (fun t ht=>of_decide_eq_true (List.all_eq_true.1 rowsOk t ht)) rfl vt.b rfl rfl rfl rfl hW' (below_of_fr hf fun _ h=>h)⟩
def theArgs:Array Value:=#[.slice none 0 0]
noncomputable def W0 (os:Os):World:=(World.laidAll Tryz.prog os Rows.streamsUpRow.laid).forCall (fun _ _=>0) ⟨#[],theArgs,[]⟩
theorem laid_met (os:Os):laidMetH Tryz.prog Rows.streamsUpRow.laid (W0 os).memory:=by
  rw [MakeChecks.laidMetH_plain _ _ _ (by kernel_rfl)]
  exact laidMet_laidAll _ (by kernel_rfl) (by kernel_rfl)
theorem reads (os:Os) {H:Type} (enc:TypeId×Value->H):DataW.whole enc Tryz.prog (W0 os).memory Tryz.f7.params.toList Rows.streamsUpSpec.vars false theArgs.toList 8 =
    some ([.nil],[],[]):=by kernel_rfl
theorem shaped (os:Os):(W0 os).Shaped Tryz.prog:=World.shaped_of_ZipB (by kernel_rfl) (by kernel_rfl)
theorem okIn (os:Os):Input.okWideB Tryz.prog (W0 os) 7 ⟨#[],theArgs,[]⟩=true:=by kernel_rfl
theorem lifted (os:Os) (started:os.Started) (H:Type) (enc:TypeId×Value->H) (F:Stop.Interp) :
    ReturnsInHanded {} Tryz.checked os 7 .any ((OpenSpec.ofChange Rows.streamsUpSpec).preRow enc Tryz.prog Tryz.f7 Rows.streamsUpRow.domain false Rows.streamsUpRow.laid) (((OpenSpec.ofChange Rows.streamsUpSpec).at F).post enc Tryz.prog Tryz.f7 false true false false):=by
  have hx:=reads os enc
  refine returnsInHanded_of_row (C:=Tryz.checked) (s:=OpenSpec.ofChange Rows.streamsUpSpec) own started (by kernel_rfl) Tryz.func7 ?_ ?_
  · refine ⟨World.laidAll Tryz.prog os Rows.streamsUpRow.laid,fun _ _=>0,⟨#[],theArgs,[]⟩,World.laidAll_os _ _ _,shaped os,(Input.okWide_of_okWideB (base:=0) (okIn os)).1,(Input.okWide_of_okWideB (okIn os)).2,
      OpenSpec.preRow_of_cond 8 hx (by kernel_rfl) (fun k hk=>by cases hk) (by kernel_rfl) (laid_met os),?_⟩
    simp only [Assume.holds]
    exact ⟨by simp,by simp,fun _=>Modest.zero,by simp,by simp⟩
  · intro W base args ds gs before hval hW _ _ hz _ hsh _
    obtain ⟨_,_,_,hV,_⟩:=id hW
    obtain ⟨rfl,_⟩:=trodVars_none hV
    rw [List.append_nil] at hz
    exact contract H enc W base args ds [] before hsh hval hW (by rw [<-hz];exact congrArg (fun l=>(DataW.weightsEach Tryz.prog l ds).all (·<=reachBytes)) (List.append_nil _).symm)
theorem k1:(Rows.streamsUpRow.inPlace == Tryz.pinned.checked.prog.inPlace 7)=true:=by kernel_rfl
theorem k2:(Rows.streamsUpRow.unfollowed == Tryz.pinned.checked.prog.unfollowed 7)=true:=by kernel_rfl
theorem k3:(Rows.streamsUpRow.recurses == Tryz.pinned.checked.prog.recurses 7)=true:=by kernel_rfl
theorem k4:(Rows.streamsUpRow.named == Tryz.pinned.checked.prog.varsNamed 7)=true:=by kernel_rfl
theorem facts:joinedFacts Tryz.pinned.checked.prog 7 Tryz.f7 (OpenSpec.ofChange Rows.streamsUpSpec).bare Rows.streamsUpRow=true:=by
  unfold joinedFacts
  rw [k1,k2,k3,k4]
  kernel_rfl
theorem said:Rows.StreamsUpSaid :=
  OpenClaim.holds_of_cond 7 Tryz.f7 rfl rfl rfl rfl rfl rfl rfl ⟨rfl,rfl,rfl,rfl,rfl⟩ rfl rfl rfl rfl rfl (by kernel_rfl) Tryz.func7 facts
    (of_decide_eq_true (by kernel_rfl)) (by unfold Func.isWrapper;first | (rw [if_pos (by decide +kernel)];kernel_rfl) | (rw [if_neg (by decide +kernel)];exact ⟨rfl,rfl⟩))
    (fun os started H enc _ F=>by rw [OpenClaim.pre_eq_preRow];exact lifted os started H enc F)
theorem plain (f : FuncId) (fn : Func) (hf : Tryz.pinned.checked.prog.funcNamed "orangery/orangerylaw19.StreamsUp" = some f) (hfn : Tryz.pinned.checked.prog.funcs[f]? = some fn) :
    false=Tryz.pinned.checked.prog.looks []/\∀ (j:Nat) t,fn.params[j]?=some t->Tryz.pinned.checked.prog.wantsStandIn t=false:=by
  obtain rfl : f = 7 := Option.some.inj ((show Tryz.prog.funcNamed "orangery/orangerylaw19.StreamsUp" = some 7 by kernel_rfl).symm.trans hf) |>.symm
  obtain rfl:fn=Tryz.f7:=(Option.some.inj (Tryz.func7.symm.trans hfn)).symm
  refine ⟨by kernel_rfl,fun j t ht=>?_⟩
  have h:(Tryz.f7.params.toList.all fun t=>!Tryz.prog.wantsStandIn t)=true:=by kernel_rfl
  have:=List.all_eq_true.1 h t (by simpa using Array.mem_of_getElem? ht)
  show Tryz.prog.wantsStandIn t=false
  simpa using this
theorem card:Rows.StreamsUpCardSaid :=
  Claim7.holds_tied_plain_at .later [] _ _ _ _ said (fun _ h=>by cases h) (by kernel_rfl) (fun _ h=>by cases h) streamsUp_row_tie rfl ⟨rfl,rfl⟩ (by kernel_rfl) rfl plain (by kernel_rfl)
end Go.Proofs.YtlonlnagmfdlbaaGreatDoor.streamsUp
