import Derived.Test.YtlonlnagmfdlbaaGreatDoorM14
/- StreamsPlayCardSaid is proved: the law answers true at every input of the card. No conditions of its own. -/
namespace Go.Proofs.YtlonlnagmfdlbaaGreatDoor.streamsPlay
open Go Go.Proofs Go.Sy Go.ChangeShapes Go.WideShapes Go.ChangeAt Go.RowKit Go.Proofs.YtlonlnagmfdlbaaGreatDoor.Row
set_option maxRecDepth 100000
set_option maxHeartbeats 1000000
theorem rowsOk:(Tryz.f10.params.toList.all fun t=>decide (t<Tryz.prog.types.size))=true:=by kernel_rfl
theorem contract (H:Type) (enc:TypeId×Value->H) (W:World) (base:Nat) (args:Array Value) (ds gs:List (DataW H)) (before:List MemPlace) (WS:W.ShapedOpen Tryz.prog)
    (AP:∀ (j:Nat) t v,Tryz.f10.params[j]?=some t->args[j]?=some v->Value.okWide Tryz.prog W .any base t v)
    (hW:DataW.Whole enc Tryz.prog Tryz.f10.params.toList Rows.streamsPlaySpec.vars false W args.toList ds gs before)
    (hz:(DataW.weightsEach Tryz.prog Tryz.f10.params.toList ds).all (·<=reachBytes)=true) :
    Calls Tryz.prog 10 args W fun e W'=>∃ v,e=.returned v/\Rows.streamsPlaySpec.post enc Tryz.prog Tryz.f10 false true false false W args v W':=by
  have hW':=hW
  obtain ⟨p,q,hA0,hV,rfl,hfz,ZD⟩:=hW
  have hA:DataW.TrodAll enc Tryz.prog W 0 (fun _=>true) true Tryz.f10.params.toList args.toList ds p:=hA0
  rw [Tryz.params10] at hA AP hz
  obtain ⟨v0,vs0,d0,ds0,p0,q0,ha0,rfl,rfl,h0,r0⟩:=trodAll_cons hA
  obtain ⟨v1,vs1,d1,ds1,p1,q1,rfl,rfl,rfl,h1,r1⟩:=trodAll_cons r0
  obtain ⟨v2,vs2,d2,ds2,p2,q2,rfl,rfl,rfl,h2,r2⟩:=trodAll_cons r1
  obtain ⟨v3,vs3,d3,ds3,p3,q3,rfl,rfl,rfl,h3,r3⟩:=trodAll_cons r2
  obtain ⟨v4,vs4,d4,ds4,p4,q4,rfl,rfl,rfl,h4,r4⟩:=trodAll_cons r3
  obtain ⟨v5,vs5,d5,ds5,p5,q5,rfl,rfl,rfl,h5,r5⟩:=trodAll_cons r4
  obtain ⟨rfl,rfl,rfl⟩:=trodAll_nil r5
  obtain rfl:args=#[v0,v1,v2,v3,v4,v5]:=by cases args;simp_all
  obtain ⟨rfl,rfl⟩:=trodVars_none hV
  obtain ⟨i4,rfl,rfl,-,-⟩:=open_int vt.i (AP 4 3 v4 rfl rfl) h4
  obtain ⟨i5,rfl,rfl,-,-⟩:=open_int vt.i (AP 5 3 v5 rfl rfl) h5
  obtain ⟨wo0,wl0,wc0,rfl⟩:=okWide_slice (show Tryz.prog.underlying 103=some (.slice 118) by kernel_rfl) (AP 0 103 v0 rfl rfl)
  obtain ⟨n0,Hu⟩:=h0
  obtain ⟨ao0,as3,l0,e0,P0,LX,hO0⟩:=Rn (t:=103) (tO:=118) (tR:=131) (Uz:=22) vt (by kernel_rfl) Tryz.underlying118 rfl (by kernel_rfl) (of_decide_eq_true (by kernel_rfl)) (by kernel_rfl) (by kernel_rfl) Tryz.underlying131 rfl (by kernel_rfl) (of_decide_eq_true (by kernel_rfl)) Hu fun k hk=>sU hz (j:=0) rfl rfl k hk
  injection e0 with e1 e2 e3
  subst e1 e2 e3
  obtain ⟨wo1,wl1,wc1,rfl⟩:=okWide_slice (show Tryz.prog.underlying 104=some (.slice 119) by kernel_rfl) (AP 1 104 v1 rfl rfl)
  obtain ⟨n1,Al⟩:=h1
  obtain ⟨TG,rR,l1,e1,P1,lJ⟩:=OE (t:=104) (tR:=119) vt (by kernel_rfl) Tryz.underlying119 rfl (by kernel_rfl) (of_decide_eq_true (by kernel_rfl)) Al fun k hk=>sU hz (j:=1) rfl rfl k hk
  injection e1 with e1 e2 e3
  subst e1 e2 e3
  obtain ⟨fg2,sQ,cs2,rfl,-⟩:=CB (show ∃ fs,Tryz.prog.underlying 105=some (.struct fs) from ⟨_,Tryz.underlying105⟩) (AP 2 105 v2 rfl rfl)
  obtain ⟨n2,Qc⟩:=h2
  obtain ⟨g2,e2⟩:=Cy (tR:=105) vt Tryz.underlying105 rfl (by kernel_rfl) Qc fun k hk=>sU hz (j:=2) rfl rfl k hk
  obtain rfl:cs2=((cc g2).map (AT.den fy)).toArray:=by
    apply Array.ext'
    simpa [Value.cells] using e2
  obtain ⟨fg3,hg3,cs3,rfl,-⟩:=CB (show ∃ fs,Tryz.prog.underlying 105=some (.struct fs) from ⟨_,Tryz.underlying105⟩) (AP 3 105 v3 rfl rfl)
  obtain ⟨n3,hn3⟩:=h3
  obtain ⟨g3,e3⟩:=Cy (tR:=105) vt Tryz.underlying105 rfl (by kernel_rfl) hn3 fun k hk=>sU hz (j:=3) rfl rfl k hk
  obtain rfl:cs3=((cc g3).map (AT.den fy)).toArray:=by
    apply Array.ext'
    simpa [Value.cells] using e3
  obtain ⟨m,hm⟩:=YY W WS
  have hm:(m4 W).cell ⟨0,0,none⟩=some (.int .i64 m):=hm
  refine Calls.mono (EC (m4 W) m hm l0 LX wo0 wc0 P0 hO0 l1 lJ wo1 wc1 P1 g2 g3 i4 i5 W (D7 W)) fun e W' ⟨v,bD,he,hf,_,_,hv⟩=>?_
  have Zx:v=.bool true:=hv
  subst he Zx
  exact ⟨_,rfl,IK laidOut aa2 full (fun t ht=>of_decide_eq_true (List.all_eq_true.1 rowsOk t ht)) rfl vt.b rfl rfl rfl rfl hW' (Kk hf fun _ h=>h)⟩
def theArgs:Array Value:=#[.slice none 0 0,.slice none 0 0,.agg #[.int .i64 0,.bool false,.bool false,.string ⟨#[]⟩,.int .i64 0,.string ⟨#[]⟩,.int .i64 0],.agg #[.int .i64 0,.bool false,.bool false,.string ⟨#[]⟩,.int .i64 0,.string ⟨#[]⟩,.int .i64 0],.int .i64 0,.int .i64 0]
noncomputable def W0 (os:Os):World:=(World.laidAll Tryz.prog os Rows.streamsPlayRow.laid).forCall (fun _ _=>0) ⟨#[],theArgs,[]⟩
theorem laid_met (os:Os):laidMetH Tryz.prog Rows.streamsPlayRow.laid (W0 os).memory:=by
  rw [MakeChecks.laidMetH_plain _ _ _ (by kernel_rfl)]
  exact laidMet_laidAll _ (by kernel_rfl) (by kernel_rfl)
theorem reads (os:Os) {H:Type} (enc:TypeId×Value->H):DataW.whole enc Tryz.prog (W0 os).memory Tryz.f10.params.toList Rows.streamsPlaySpec.vars false theArgs.toList 8 =
    some ([.nil,.nil,.agg [.lit (.int .i64 0),.lit (.bool false),.agg [.lit (.bool false),.lit (.string []),.lit (.int .i64 0)],.lit (.string []),.lit (.int .i64 0)],.agg [.lit (.int .i64 0),.lit (.bool false),.agg [.lit (.bool false),.lit (.string []),.lit (.int .i64 0)],.lit (.string []),.lit (.int .i64 0)],.lit (.int .i64 0),.lit (.int .i64 0)],[],[]):=by kernel_rfl
theorem shaped (os:Os):(W0 os).Shaped Tryz.prog:=World.shaped_of_ZipB (by kernel_rfl) (by kernel_rfl)
theorem okIn (os:Os):Input.okWideB Tryz.prog (W0 os) 10 ⟨#[],theArgs,[]⟩=true:=by kernel_rfl
theorem lifted (os:Os) (started:os.Started) (H:Type) (enc:TypeId×Value->H) (F:Stop.Interp) :
    ReturnsInHanded {} Tryz.checked os 10 .any ((OpenSpec.ofChange Rows.streamsPlaySpec).preRow enc Tryz.prog Tryz.f10 Rows.streamsPlayRow.domain false Rows.streamsPlayRow.laid) (((OpenSpec.ofChange Rows.streamsPlaySpec).at F).post enc Tryz.prog Tryz.f10 false true false false):=by
  have hx:=reads os enc
  refine returnsInHanded_of_row (C:=Tryz.checked) (s:=OpenSpec.ofChange Rows.streamsPlaySpec) own started (by kernel_rfl) Tryz.func10 ?_ ?_
  · refine ⟨World.laidAll Tryz.prog os Rows.streamsPlayRow.laid,fun _ _=>0,⟨#[],theArgs,[]⟩,World.laidAll_os _ _ _,shaped os,(Input.okWide_of_okWideB (base:=0) (okIn os)).1,(Input.okWide_of_okWideB (okIn os)).2,
      OpenSpec.preRow_of_cond 8 hx (by kernel_rfl) (fun k hk=>by cases hk) (by kernel_rfl) (laid_met os),?_⟩
    simp only [Assume.holds]
    exact ⟨by simp,by simp,fun _=>Modest.zero,by simp,by simp⟩
  · intro W base args ds gs before AP hW _ _ hz _ WS _
    obtain ⟨_,_,_,hV,_⟩:=id hW
    obtain ⟨rfl,_⟩:=trodVars_none hV
    rw [List.append_nil] at hz
    exact contract H enc W base args ds [] before WS AP hW (by rw [<-hz];exact congrArg (fun l=>(DataW.weightsEach Tryz.prog l ds).all (·<=reachBytes)) (List.append_nil _).symm)
theorem k1:(Rows.streamsPlayRow.inPlace == Tryz.pinned.checked.prog.inPlace 10)=true:=by kernel_rfl
theorem k2:(Rows.streamsPlayRow.unfollowed == Tryz.pinned.checked.prog.unfollowed 10)=true:=by kernel_rfl
theorem k3:(Rows.streamsPlayRow.recurses == Tryz.pinned.checked.prog.recurses 10)=true:=by kernel_rfl
theorem k4:(Rows.streamsPlayRow.named == Tryz.pinned.checked.prog.varsNamed 10)=true:=by kernel_rfl
theorem facts:joinedFacts Tryz.pinned.checked.prog 10 Tryz.f10 (OpenSpec.ofChange Rows.streamsPlaySpec).bare Rows.streamsPlayRow=true:=by
  unfold joinedFacts
  rw [k1,k2,k3,k4]
  kernel_rfl
theorem said:Rows.StreamsPlaySaid :=
  OpenClaim.holds_of_cond 10 Tryz.f10 rfl rfl rfl rfl rfl rfl rfl ⟨rfl,rfl,rfl,rfl,rfl⟩ rfl rfl rfl rfl rfl (by kernel_rfl) Tryz.func10 facts
    (of_decide_eq_true (by kernel_rfl)) (by unfold Func.isWrapper;first | (rw [if_pos (by decide +kernel)];kernel_rfl) | (rw [if_neg (by decide +kernel)];exact ⟨rfl,rfl⟩))
    (fun os started H enc _ F=>by rw [OpenClaim.pre_eq_preRow];exact lifted os started H enc F)
theorem plain (f : FuncId) (fn : Func) (hf : Tryz.pinned.checked.prog.funcNamed "orangery/orangerylaw19.StreamsPlay" = some f) (hfn : Tryz.pinned.checked.prog.funcs[f]? = some fn) :
    false=Tryz.pinned.checked.prog.looks []/\∀ (j:Nat) t,fn.params[j]?=some t->Tryz.pinned.checked.prog.wantsStandIn t=false:=by
  obtain rfl : f = 10 := Option.some.inj ((show Tryz.prog.funcNamed "orangery/orangerylaw19.StreamsPlay" = some 10 by kernel_rfl).symm.trans hf) |>.symm
  obtain rfl:fn=Tryz.f10:=(Option.some.inj (Tryz.func10.symm.trans hfn)).symm
  refine ⟨by kernel_rfl,fun j t ht=>?_⟩
  have h:(Tryz.f10.params.toList.all fun t=>!Tryz.prog.wantsStandIn t)=true:=by kernel_rfl
  have:=List.all_eq_true.1 h t (by simpa using Array.mem_of_getElem? ht)
  show Tryz.prog.wantsStandIn t=false
  simpa using this
theorem card:Rows.StreamsPlayCardSaid :=
  Claim7.holds_tied_plain_at .later [] _ _ _ _ said (fun _ h=>by cases h) (by kernel_rfl) (fun _ h=>by cases h) streamsPlay_row_tie rfl ⟨rfl,rfl⟩ (by kernel_rfl) rfl plain (by kernel_rfl)
end Go.Proofs.YtlonlnagmfdlbaaGreatDoor.streamsPlay
