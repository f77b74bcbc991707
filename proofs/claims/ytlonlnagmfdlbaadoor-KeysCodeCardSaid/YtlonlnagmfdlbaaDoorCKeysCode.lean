/- KeysCodeCardSaid is proved: the law answers true at every input of the card. No conditions of its own. -/
import Derived.Test.YtlonlnagmfdlbaaDoorM9
namespace Go.Proofs.YtlonlnagmfdlbaaDoor.keysCode
open Go Go.Proofs Go.Sy Go.ChangeShapes Go.WideShapes Go.ChangeAt Go.RowKit Go.Proofs.YtlonlnagmfdlbaaDoor.Row
set_option maxRecDepth 100000
set_option maxHeartbeats 1000000
theorem rowsOk:(Tryd.f7.params.toList.all fun t=>decide (t<Tryd.prog.types.size))=true:=by kernel_rfl
theorem contract (H:Type) (enc:TypeId×Value->H) (W:World) (base:Nat) (args:Array Value) (ds gs:List (DataW H)) (before:List MemPlace) (hsh:W.ShapedOpen Tryd.prog)
    (hval:∀ (j:Nat) t v,Tryd.f7.params[j]?=some t->args[j]?=some v->Value.okWide Tryd.prog W .any base t v)
    (hW:DataW.Whole enc Tryd.prog Tryd.f7.params.toList Rows.keysCodeSpec.vars false W args.toList ds gs before)
    (hz:(DataW.weightsEach Tryd.prog Tryd.f7.params.toList ds).all (·<=reachBytes)=true) :
    Calls Tryd.prog 7 args W fun e W'=>∃ v,e=.returned v/\Rows.keysCodeSpec.post enc Tryd.prog Tryd.f7 false true false false W args v W':=by
  have hW':=hW
  obtain ⟨p,q,hA0,hV,rfl,hfz,hnd⟩:=hW
  have hA:DataW.TrodAll enc Tryd.prog W 0 (fun _=>true) true Tryd.f7.params.toList args.toList ds p:=hA0
  rw [Tryd.params7] at hA hval hz
  obtain ⟨v0,vs0,d0,ds0,p0,q0,ha0,rfl,rfl,h0,r0⟩:=trodAll_cons hA
  obtain ⟨v1,vs1,d1,ds1,p1,q1,rfl,rfl,rfl,h1,r1⟩:=trodAll_cons r0
  obtain ⟨v2,vs2,d2,ds2,p2,q2,rfl,rfl,rfl,h2,r2⟩:=trodAll_cons r1
  obtain ⟨rfl,rfl,rfl⟩:=trodAll_nil r2
  obtain rfl:args=#[v0,v1,v2]:=by cases args;simp_all
  obtain ⟨rfl,rfl⟩:=trodVars_none hV
  obtain ⟨cs2,rfl,-⟩:=okWide_agg vt (hval 2 44 v2 rfl rfl)
  obtain ⟨n2,hn2⟩:=h2
  obtain ⟨g2,c2,hc2,hR2⟩:=open_val vt n2 _ _ hn2 fun k hk=>weights_le hz (j:=2) rfl rfl k hk
  obtain rfl:cs2=(c2.map (AT.den β0)).toArray:=by
    apply Array.ext'
    simpa [Value.cells] using hc2
  obtain ⟨wo0,wl0,wc0,rfl⟩:=okWide_slice (show Tryd.prog.underlying 27=some (.slice 52) by kernel_rfl) (hval 0 27 v0 rfl rfl)
  obtain ⟨n0,hn0⟩:=h0
  obtain ⟨ao0,cap0,l0,e0,P0,hl0⟩:=open_partL (t:=27) (tR:=52) vt (by kernel_rfl) Tryd.underlying52 rfl (by kernel_rfl) (of_decide_eq_true (by kernel_rfl)) hn0 fun k hk=>weights_le hz (j:=0) rfl rfl k hk
  injection e0 with e1 e2 e3
  subst e1 e2 e3
  obtain ⟨wo1,wl1,wc1,rfl⟩:=okWide_slice (show Tryd.prog.underlying 22=some (.slice 5) by kernel_rfl) (hval 1 22 v1 rfl rfl)
  obtain ⟨n1,hn1⟩:=h1
  obtain ⟨ao1,cap1,l1,e1,P1,hl1⟩:=open_u8L (t:=22) (e:=5) (by kernel_rfl) (by kernel_rfl) (by kernel_rfl) (of_decide_eq_true (by kernel_rfl)) hn1 fun k hk=>weights_le hz (j:=1) rfl rfl k hk
  injection e1 with e1 e2 e3
  subst e1 e2 e3
  obtain ⟨m,hm⟩:=farLen W hsh
  have hm:(snapOf W).cell ⟨0,0,none⟩=some (.int .i64 m):=hm
  refine Calls.mono (KeysCode_c (snapOf W) m hm g2 c2 hR2 l0 wo0 wc0 P0 hl0 l1 wo1 wc1 P1 hl1 W (snapOf_sealed W)) fun e W' ⟨v,σ',he,hf,_,_,hv⟩=>?_
  have hv':v=.bool true:=hv
  subst he hv'
  exact ⟨_,rfl,post_of_law laidOut rowed full (fun t ht=>of_decide_eq_true (List.all_eq_true.1 rowsOk t ht)) rfl vt.b rfl rfl rfl rfl hW' (below_of_fr hf fun _ h=>h)⟩
def theArgs:Array Value:=#[.slice none 0 0,.slice none 0 0,.agg #[.int .i64 0,.bool false,.bool false,.string ⟨#[]⟩,.int .i64 0,.string ⟨#[]⟩,.slice none 0 0,.slice none 0 0]]
noncomputable def W0 (os:Os):World:=(World.laidAll Tryd.prog os Rows.keysCodeRow.laid).forCall (fun _ _=>0) ⟨#[],theArgs,[]⟩
theorem laid_met (os:Os):laidMetH Tryd.prog Rows.keysCodeRow.laid (W0 os).memory:=by
  rw [MakeChecks.laidMetH_plain _ _ _ (by kernel_rfl)]
  exact laidMet_laidAll _ (by kernel_rfl) (by kernel_rfl)
theorem reads (os:Os) {H:Type} (enc:TypeId×Value->H):DataW.whole enc Tryd.prog (W0 os).memory Tryd.f7.params.toList Rows.keysCodeSpec.vars false theArgs.toList 8 =
    some ([.nil,.nil,.agg [.lit (.int .i64 0),.lit (.bool false),.agg [.lit (.bool false),.lit (.string []),.lit (.int .i64 0)],.lit (.string []),.nil,.nil]],[],[]):=by kernel_rfl
theorem shaped (os:Os):(W0 os).Shaped Tryd.prog:=World.shaped_of_ZipB (by kernel_rfl) (by kernel_rfl)
theorem okIn (os:Os):Input.okWideB Tryd.prog (W0 os) 7 ⟨#[],theArgs,[]⟩=true:=by kernel_rfl
theorem lifted (os:Os) (started:os.Started) (H:Type) (enc:TypeId×Value->H) (F:Stop.Interp) :
    ReturnsInHanded {} Tryd.checked os 7 .any ((OpenSpec.ofChange Rows.keysCodeSpec).preRow enc Tryd.prog Tryd.f7 Rows.keysCodeRow.domain false Rows.keysCodeRow.laid) (((OpenSpec.ofChange Rows.keysCodeSpec).at F).post enc Tryd.prog Tryd.f7 false true false false):=by
  have hx:=reads os enc
  refine returnsInHanded_of_row (C:=Tryd.checked) (s:=OpenSpec.ofChange Rows.keysCodeSpec) own started (by kernel_rfl) Tryd.func7 ?_ ?_
  · refine ⟨World.laidAll Tryd.prog os Rows.keysCodeRow.laid,fun _ _=>0,⟨#[],theArgs,[]⟩,World.laidAll_os _ _ _,shaped os,(Input.okWide_of_okWideB (base:=0) (okIn os)).1,(Input.okWide_of_okWideB (okIn os)).2,
      OpenSpec.preRow_of_cond 8 hx (by kernel_rfl) (fun k hk=>by cases hk) (by kernel_rfl) (laid_met os),?_⟩
    simp only [Assume.holds]
    exact ⟨by simp,by simp,fun _=>Modest.zero,by simp,by simp⟩
  · intro W base args ds gs before hval hW _ _ hz _ hsh _
    obtain ⟨_,_,_,hV,_⟩:=id hW
    obtain ⟨rfl,_⟩:=trodVars_none hV
    rw [List.append_nil] at hz
    exact contract H enc W base args ds [] before hsh hval hW (by rw [<-hz];exact congrArg (fun l=>(DataW.weightsEach Tryd.prog l ds).all (·<=reachBytes)) (List.append_nil _).symm)
theorem k1:(Rows.keysCodeRow.inPlace == Tryd.pinned.checked.prog.inPlace 7)=true:=by kernel_rfl
theorem k2:(Rows.keysCodeRow.unfollowed == Tryd.pinned.checked.prog.unfollowed 7)=true:=by kernel_rfl
theorem k3:(Rows.keysCodeRow.recurses == Tryd.pinned.checked.prog.recurses 7)=true:=by kernel_rfl
theorem k4:(Rows.keysCodeRow.named == Tryd.pinned.checked.prog.varsNamed 7)=true:=by kernel_rfl
theorem facts:joinedFacts Tryd.pinned.checked.prog 7 Tryd.f7 (OpenSpec.ofChange Rows.keysCodeSpec).bare Rows.keysCodeRow=true:=by
  unfold joinedFacts
  rw [k1,k2,k3,k4]
  kernel_rfl
theorem said:Rows.KeysCodeSaid :=
  OpenClaim.holds_of_cond 7 Tryd.f7 rfl rfl rfl rfl rfl rfl rfl ⟨rfl,rfl,rfl,rfl,rfl⟩ rfl rfl rfl rfl rfl (by kernel_rfl) Tryd.func7 facts
    (of_decide_eq_true (by kernel_rfl)) (by unfold Func.isWrapper;first | (rw [if_pos (by decide +kernel)];kernel_rfl) | (rw [if_neg (by decide +kernel)];exact ⟨rfl,rfl⟩))
    (fun os started H enc _ F=>by rw [OpenClaim.pre_eq_preRow];exact lifted os started H enc F)
theorem plain (f : FuncId) (fn : Func) (hf : Tryd.pinned.checked.prog.funcNamed "orangery/orangerylaw09.KeysCode" = some f) (hfn : Tryd.pinned.checked.prog.funcs[f]? = some fn) :
    false=Tryd.pinned.checked.prog.looks []/\∀ (j:Nat) t,fn.params[j]?=some t->Tryd.pinned.checked.prog.wantsStandIn t=false:=by
  obtain rfl : f = 7 := Option.some.inj ((show Tryd.prog.funcNamed "orangery/orangerylaw09.KeysCode" = some 7 by kernel_rfl).symm.trans hf) |>.symm
  obtain rfl:fn=Tryd.f7:=(Option.some.inj (Tryd.func7.symm.trans hfn)).symm
  refine ⟨by kernel_rfl,fun j t ht=>?_⟩
  have h:(Tryd.f7.params.toList.all fun t=>!Tryd.prog.wantsStandIn t)=true:=by kernel_rfl
  have:=List.all_eq_true.1 h t (by simpa using Array.mem_of_getElem? ht)
  show Tryd.prog.wantsStandIn t=false
  simpa using this
theorem card:Rows.KeysCodeCardSaid :=
  Claim7.holds_tied_plain_at .later [] _ _ _ _ said (fun _ h=>by cases h) (by kernel_rfl) (fun _ h=>by cases h) keysCode_row_tie rfl ⟨rfl,rfl⟩ (by kernel_rfl) rfl plain (by kernel_rfl)
end Go.Proofs.YtlonlnagmfdlbaaDoor.keysCode
