/- StreamsValuesCardSaid is proved: the law answers true at every input of the card. No conditions of its own. -/
import Derived.Test.YtlonlnagmfdlbaaGreatDoorM12
namespace Go.Proofs.YtlonlnagmfdlbaaGreatDoor.streamsValues
open Go Go.Proofs Go.Sy Go.ChangeShapes Go.WideShapes Go.ChangeAt Go.RowKit Go.Proofs.YtlonlnagmfdlbaaGreatDoor.Row
set_option maxRecDepth 100000
set_option maxHeartbeats 1000000
theorem rowsOk:(Tryz.f9.params.toList.all fun t=>decide (t<Tryz.prog.types.size))=true:=by kernel_rfl
theorem contract (H:Type) (enc:TypeId×Value->H) (W:World) (base:Nat) (args:Array Value) (ds gs:List (DataW H)) (before:List MemPlace) (hsh:W.ShapedOpen Tryz.prog)
    (hval:∀ (j:Nat) t v,Tryz.f9.params[j]?=some t->args[j]?=some v->Value.okWide Tryz.prog W .any base t v)
    (hW:DataW.Whole enc Tryz.prog Tryz.f9.params.toList Rows.streamsValuesSpec.vars false W args.toList ds gs before)
    (hz:(DataW.weightsEach Tryz.prog Tryz.f9.params.toList ds).all (·<=reachBytes)=true) :
    Calls Tryz.prog 9 args W fun e W'=>∃ v,e=.returned v/\Rows.streamsValuesSpec.post enc Tryz.prog Tryz.f9 false true false false W args v W':=by
  have hW':=hW
  obtain ⟨p,q,hA0,hV,rfl,hfz,hnd⟩:=hW
  have hA:DataW.TrodAll enc Tryz.prog W 0 (fun _=>true) true Tryz.f9.params.toList args.toList ds p:=hA0
  rw [Tryz.params9] at hA hval hz
  obtain ⟨v0,vs0,d0,ds0,p0,q0,ha0,rfl,rfl,h0,r0⟩:=trodAll_cons hA
  obtain ⟨v1,vs1,d1,ds1,p1,q1,rfl,rfl,rfl,h1,r1⟩:=trodAll_cons r0
  obtain ⟨v2,vs2,d2,ds2,p2,q2,rfl,rfl,rfl,h2,r2⟩:=trodAll_cons r1
  obtain ⟨v3,vs3,d3,ds3,p3,q3,rfl,rfl,rfl,h3,r3⟩:=trodAll_cons r2
  obtain ⟨v4,vs4,d4,ds4,p4,q4,rfl,rfl,rfl,h4,r4⟩:=trodAll_cons r3
  obtain ⟨rfl,rfl,rfl⟩:=trodAll_nil r4
  obtain rfl:args=#[v0,v1,v2,v3,v4]:=by cases args;simp_all
  obtain ⟨rfl,rfl⟩:=trodVars_none hV
  obtain ⟨i1,rfl,rfl,-,-⟩:=open_int vt.i (hval 1 3 v1 rfl rfl) h1
  obtain ⟨t2,rfl⟩:=okWide_string vt.s (hval 2 9 v2 rfl rfl)
  obtain ⟨n2,hn2⟩:=h2
  obtain ⟨s2,es2,ht2⟩:=open_str vt.s hn2 fun k hk=>weights_le hz (j:=2) rfl rfl k hk
  injection es2 with es2
  subst es2
  obtain ⟨t3,rfl⟩:=okWide_string vt.s (hval 3 9 v3 rfl rfl)
  obtain ⟨n3,hn3⟩:=h3
  obtain ⟨s3,es3,ht3⟩:=open_str vt.s hn3 fun k hk=>weights_le hz (j:=3) rfl rfl k hk
  injection es3 with es3
  subst es3
  obtain ⟨t4,rfl⟩:=okWide_string vt.s (hval 4 9 v4 rfl rfl)
  obtain ⟨n4,hn4⟩:=h4
  obtain ⟨s4,es4,ht4⟩:=open_str vt.s hn4 fun k hk=>weights_le hz (j:=4) rfl rfl k hk
  injection es4 with es4
  subst es4
  obtain ⟨wo0,wl0,wc0,rfl⟩:=okWide_slice (show Tryz.prog.underlying 25=some (.slice 28) by kernel_rfl) (hval 0 25 v0 rfl rfl)
  obtain ⟨n0,hn0⟩:=h0
  obtain ⟨ao0,cap0,l0,r0w,e0,P0,hl0,hR0⟩:=open_valL vt hn0 fun k hk=>weights_le hz (j:=0) rfl rfl k hk
  injection e0 with e1 e2 e3
  subst e1 e2 e3
  obtain ⟨m,hm⟩:=farLen W hsh
  have hm:(snapOf W).cell ⟨0,0,none⟩=some (.int .i64 m):=hm
  refine Calls.mono (StreamsValues_c (snapOf W) m hm l0 r0w wo0 wc0 P0 hl0 hR0 i1 t2 t3 t4 ht2 ht3 ht4 W (snapOf_sealed W)) fun e W' ⟨v,σ',he,hf,_,_,hv⟩=>?_
  have hv':v=.bool true:=hv
  subst he hv'
  exact ⟨_,rfl,post_of_law laidOut rowed full (fun t ht=>of_decide_eq_true (List.all_eq_true.1 rowsOk t ht)) rfl vt.b rfl rfl rfl rfl hW' (below_of_fr hf fun _ h=>h)⟩
def theArgs:Array Value:=#[.slice none 0 0,.int .i64 0,.string ⟨#[]⟩,.string ⟨#[]⟩,.string ⟨#[]⟩]
noncomputable def W0 (os:Os):World:=(World.laidAll Tryz.prog os Rows.streamsValuesRow.laid).forCall (fun _ _=>0) ⟨#[],theArgs,[]⟩
theorem laid_met (os:Os):laidMetH Tryz.prog Rows.streamsValuesRow.laid (W0 os).memory:=by
  rw [MakeChecks.laidMetH_plain _ _ _ (by kernel_rfl)]
  exact laidMet_laidAll _ (by kernel_rfl) (by kernel_rfl)
theorem reads (os:Os) {H:Type} (enc:TypeId×Value->H):DataW.whole enc Tryz.prog (W0 os).memory Tryz.f9.params.toList Rows.streamsValuesSpec.vars false theArgs.toList 8 =
    some ([.nil,.lit (.int .i64 0),.lit (.string []),.lit (.string []),.lit (.string [])],[],[]):=by kernel_rfl
theorem shaped (os:Os):(W0 os).Shaped Tryz.prog:=World.shaped_of_ZipB (by kernel_rfl) (by kernel_rfl)
theorem okIn (os:Os):Input.okWideB Tryz.prog (W0 os) 9 ⟨#[],theArgs,[]⟩=true:=by kernel_rfl
theorem lifted (os:Os) (started:os.Started) (H:Type) (enc:TypeId×Value->H) (F:Stop.Interp) :
    ReturnsInHanded {} Tryz.checked os 9 .any ((OpenSpec.ofChange Rows.streamsValuesSpec).preRow enc Tryz.prog Tryz.f9 Rows.streamsValuesRow.domain false Rows.streamsValuesRow.laid) (((OpenSpec.ofChange Rows.streamsValuesSpec).at F).post enc Tryz.prog Tryz.f9 false true false false):=by
  have hx:=reads os enc
  refine returnsInHanded_of_row (C:=Tryz.checked) (s:=OpenSpec.ofChange Rows.streamsValuesSpec) own started (by kernel_rfl) Tryz.func9 ?_ ?_
  · refine ⟨World.laidAll Tryz.prog os Rows.streamsValuesRow.laid,fun _ _=>0,⟨#[],theArgs,[]⟩,World.laidAll_os _ _ _,shaped os,(Input.okWide_of_okWideB (base:=0) (okIn os)).1,(Input.okWide_of_okWideB (okIn os)).2,
      OpenSpec.preRow_of_cond 8 hx (by kernel_rfl) (fun k hk=>by cases hk) (by kernel_rfl) (laid_met os),?_⟩
    simp only [Assume.holds]
    exact ⟨by simp,by simp,fun _=>Modest.zero,by simp,by simp⟩
  · intro W base args ds gs before hval hW _ _ hz _ hsh _
    obtain ⟨_,_,_,hV,_⟩:=id hW
    obtain ⟨rfl,_⟩:=trodVars_none hV
    rw [List.append_nil] at hz
    exact contract H enc W base args ds [] before hsh hval hW (by rw [<-hz];exact congrArg (fun l=>(DataW.weightsEach Tryz.prog l ds).all (·<=reachBytes)) (List.append_nil _).symm)
theorem k1:(Rows.streamsValuesRow.inPlace == Tryz.pinned.checked.prog.inPlace 9)=true:=by kernel_rfl
theorem k2:(Rows.streamsValuesRow.unfollowed == Tryz.pinned.checked.prog.unfollowed 9)=true:=by kernel_rfl
theorem k3:(Rows.streamsValuesRow.recurses == Tryz.pinned.checked.prog.recurses 9)=true:=by kernel_rfl
theorem k4:(Rows.streamsValuesRow.named == Tryz.pinned.checked.prog.varsNamed 9)=true:=by kernel_rfl
theorem facts:joinedFacts Tryz.pinned.checked.prog 9 Tryz.f9 (OpenSpec.ofChange Rows.streamsValuesSpec).bare Rows.streamsValuesRow=true:=by
  unfold joinedFacts
  rw [k1,k2,k3,k4]
  kernel_rfl
theorem said:Rows.StreamsValuesSaid :=
  OpenClaim.holds_of_cond 9 Tryz.f9 rfl rfl rfl rfl rfl rfl rfl ⟨rfl,rfl,rfl,rfl,rfl⟩ rfl rfl rfl rfl rfl (by kernel_rfl) Tryz.func9 facts
    (of_decide_eq_true (by kernel_rfl)) (by unfold Func.isWrapper;first | (rw [if_pos (by decide +kernel)];kernel_rfl) | (rw [if_neg (by decide +kernel)];exact ⟨rfl,rfl⟩))
    (fun os started H enc _ F=>by rw [OpenClaim.pre_eq_preRow];exact lifted os started H enc F)
theorem plain (f : FuncId) (fn : Func) (hf : Tryz.pinned.checked.prog.funcNamed "orangery/orangerylaw19.StreamsValues" = some f) (hfn : Tryz.pinned.checked.prog.funcs[f]? = some fn) :
    false=Tryz.pinned.checked.prog.looks []/\∀ (j:Nat) t,fn.params[j]?=some t->Tryz.pinned.checked.prog.wantsStandIn t=false:=by
  obtain rfl : f = 9 := Option.some.inj ((show Tryz.prog.funcNamed "orangery/orangerylaw19.StreamsValues" = some 9 by kernel_rfl).symm.trans hf) |>.symm
  obtain rfl:fn=Tryz.f9:=(Option.some.inj (Tryz.func9.symm.trans hfn)).symm
  refine ⟨by kernel_rfl,fun j t ht=>?_⟩
  have h:(Tryz.f9.params.toList.all fun t=>!Tryz.prog.wantsStandIn t)=true:=by kernel_rfl
  have:=List.all_eq_true.1 h t (by simpa using Array.mem_of_getElem? ht)
  show Tryz.prog.wantsStandIn t=false
  simpa using this
theorem card:Rows.StreamsValuesCardSaid :=
  Claim7.holds_tied_plain_at .later [] _ _ _ _ said (fun _ h=>by cases h) (by kernel_rfl) (fun _ h=>by cases h) streamsValues_row_tie rfl ⟨rfl,rfl⟩ (by kernel_rfl) rfl plain (by kernel_rfl)
end Go.Proofs.YtlonlnagmfdlbaaGreatDoor.streamsValues
