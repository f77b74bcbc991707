/- Parts of the proof of CJoinsPairs: XRow, CFacts, Cv. No conditions. -/
import Derived.Test.YtadnijcgohflhaaGreatDoorM10
import Derived.ProofKit
import Derived.OpenShut
import Derived.Lay
import Derived.SevenTiedAt
import Derived.Stop.Joined
import Derived.Test.YtadnijcgohflhaaGreatDoorCards
import Derived.Test.YtadnijcgohflhaaGreatDoorTie
/- The closing of a law's row, alike from law to law. -/
namespace Go.Sy
open Go.ChangeShapes Go.RowKit
section
variable {H:Type} {enc:TypeId×Value->H} {P:Program} {W W':World} {sp:Nat->Bool}
theorem trodAll_stays {T:TypeId->Prop} (K:_root_.Go.Kids P T) (hz:∀ t e,T t->P.underlying t=some (.slice e)->0<P.cellsOf e) :
    ∀ {ts:List TypeId} {vs:List Value} {ds:List (DataW H)} {ps:List MemPlace},(∀ t∈ts,T t)->DataW.TrodAll enc P W 0 (fun _=>true) true ts vs ds ps ->
      (∀ p∈ps,W.sameAt W' p)->(∀ p∈ps,sp p.block=true)->DataW.TrodAll enc P W' 0 sp true ts vs ds ps
  | [],[],[],_,_,h,_,_=>h
  | _::_,_::_,_::_,_,hT,⟨p,q,⟨n,h1⟩,h2,e⟩,hs,hb =>
    ⟨p,q,⟨n,DataW.trod_stays K (fun ht hu=>hz _ _ ht hu) (fun h=>by cases h) (hT _ List.mem_cons_self) h1 (fun x hx=>hs x (by rw [e];exact List.mem_append_left _ hx)) (fun x hx=>hb x (by rw [e];exact List.mem_append_left _ hx))⟩,
      trodAll_stays K hz (fun t ht=>hT t (List.mem_cons_of_mem _ ht)) h2 (fun x hx=>hs x (by rw [e];exact List.mem_append_right _ hx)) (fun x hx=>hb x (by rw [e];exact List.mem_append_right _ hx)),e⟩
theorem below_of_fr {M:Nat->Prop} {w w':World} (h:Fr M w w') (hM:∀ b,¬ M b):Below w.heap.size w w':=⟨h.os,h.tape,h.output,h.size,fun k hk=>h.block k hk (hM k)⟩
theorem post_of_law {f:Func} {s:ChangeSpec} {apart fresh handsOn again:Bool} {args:Array Value} {ds gs:List (DataW H)} {before:List MemPlace} {tB:TypeId}
    (hl:laidOutB P=true) (hm:mapsRowed P=true) (hz:∀ t e,t<P.types.size->P.underlying t=some (.slice e)->0<P.cellsOf e)
    (hts:∀ t∈f.params.toList,t<P.types.size) (hr:f.resultTypes=#[tB]) (hB:P.underlying tB=some .bool) (hv:s.vars=[])
    (hres:(s.fn H (ds++gs)).results=[.lit (.bool true)]) (hargs:(s.fn H (ds++gs)).args=ds) (hvars:(s.fn H (ds++gs)).vars=[])
    (hW:DataW.Whole enc P f.params.toList s.vars apart W args.toList ds gs before) (hb:Below W.heap.size W W') :
    s.post enc P f apart fresh handsOn again W args (.bool true) W':=by
  have hW':=hW
  obtain ⟨p,q,hA,hV,rfl,hfz,hnd⟩:=hW
  rw [hv] at hV
  obtain ⟨rfl,rfl⟩:=trodVars_none hV
  have hlt:∀ x∈p++([]:List MemPlace),x.block<W.heap.size:=fun x hx=>hW'.lt x hx
  have h1:∀ (b:Nat) (sp:Nat->Bool) (hd:Bool),DataW.TrodAll enc P W' b sp hd f.resultTypes.toList ((Value.bool true).resultList f.resultTypes.size) (s.fn H (ds++[])).results []:=by
    intro b sp hd
    rw [hr,hres]
    exact trodAll_mk1 (shut_bool hB true)
  have h2:∀ sp:Nat->Bool,(∀ x∈p++([]:List MemPlace),sp x.block=true)->DataW.TrodAll enc P W' 0 sp true f.params.toList args.toList (s.fn H (ds++[])).args p:=by
    intro sp hs
    rw [hargs]
    exact trodAll_stays (T:=(·<P.types.size)) (kids_rows hl hm) hz hts hA (fun x hx=>hb.same (hlt x (List.mem_append_left _ hx))) (fun x hx=>hs x (List.mem_append_left _ hx))
  have h3:∀ sp:Nat->Bool,DataW.TrodVars enc P W' sp s.vars (s.fn H (ds++[])).vars []:=by
    intro sp
    rw [hv,hvars]
    rfl
  have hold:∀ x∈p++([]:List MemPlace),(fun b=>decide (b<W.heap.size)) x.block=true:=fun x hx=>by simpa using hlt x hx
  refine ⟨ds,[],_,[],p,[],hW',h1 _ _ _,h2 _ hold,h3 _,hb.frame _,fun _=>⟨ok_one hr rfl (okWide_bool_mk hB _),_,_,([]++p)++[],⟨[]++p,[],trodAll_append (h2 _ (fun _ _=>rfl)) (h1 _ _ _),h3 _,rfl,?_,?_⟩,?_⟩⟩
  · intro b off hp
    have hp':MemPlace.cell b off∈p++([]:List MemPlace):=by simpa using hp
    rw [hb.frozen (p:=⟨b,off,none⟩) (hlt _ hp')]
    exact hfz b off hp'
  · intro ha
    have:=hnd ha
    simpa using this
  · intro x hp _
    simpa using hp
theorem okWide_agg {tV tL tM tE tD tS tI tB:TypeId} (T:VT P tV tL tM tE tD tS tI tB) {r:Reach} {base:Nat} {v:Value} (h:Value.okWide P W r base tV v):∃ cs:Array Value,v=.agg cs/\cs.size=P.cellsOf tV:=by
  obtain ⟨fs,hu,_⟩:=T.v
  unfold Value.okWide at h
  rw [hu] at h
  obtain ⟨cs,h1,h2,_⟩:=h
  exact ⟨cs,h1,h2⟩
theorem okWide_str {t:TypeId} (T:∃ fs,P.underlying t=some (.struct fs)) {r:Reach} {base:Nat} {v:Value} (h:Value.okWide P W r base t v):∃ (fs:Array Field) (_:P.underlying t=some (.struct fs)) (cs:Array Value),v=.agg cs/\cs.size=P.cellsOf t:=by
  obtain ⟨fs,hu⟩:=T
  unfold Value.okWide at h
  rw [hu] at h
  obtain ⟨cs,h1,h2,_⟩:=h
  exact ⟨fs,hu,cs,h1,h2⟩
theorem weights_le {ts:List TypeId} {ds:List (DataW H)} (h:(DataW.weightsEach P ts ds).all (·<=reachBytes)=true) {j:Nat} {t:TypeId} {d:DataW H} (ht:ts[j]?=some t) (hd:ds[j]?=some d):∀ k∈d.weights P t,k<=reachBytes:=by
  intro k hk
  have:=List.all_eq_true.1 h k (DataW.weights_mem_each ht hd k hk)
  simpa using this
end
end Go.Sy
/- Closed facts of the program that every row's closing asks. -/
namespace Go.Proofs.YtadnijcgohflhaaGreatDoor.Row
open Go Go.Proofs Go.Sy Go.ChangeShapes Go.WideShapes Go.ChangeAt Go.RowKit
set_option maxRecDepth 100000
theorem own:ownKnob Tryz.prog.godebug=none:=by kernel_rfl
theorem laidOut:laidOutB Tryz.prog=true:=by kernel_rfl
theorem rowed:mapsRowed Tryz.prog=true:=by kernel_rfl
theorem full:∀ t e,t<Tryz.prog.types.size->Tryz.prog.underlying t=some (.slice e)->0<Tryz.prog.cellsOf e:=slices_full_of Tryz.prog (by kernel_rfl)
theorem vt:VT Tryz.prog 28 25 26 184 24 9 3 4 where
  v:=⟨_,Tryz.underlying28,rfl⟩
  l:=by kernel_rfl
  m:=by kernel_rfl
  e:=⟨_,Tryz.underlying184,rfl⟩
  d:=⟨_,Tryz.underlying24,rfl⟩
  s:=by kernel_rfl
  i:=by kernel_rfl
  b:=by kernel_rfl
  cV:=by kernel_rfl
  cE:=by kernel_rfl
  cD:=by kernel_rfl
  cS:=by kernel_rfl
  cI:=by kernel_rfl
  cB:=by kernel_rfl
  cL:=by kernel_rfl
  cM:=by kernel_rfl
  bV:=of_decide_eq_true (by kernel_rfl)
  bE:=of_decide_eq_true (by kernel_rfl)
end Go.Proofs.YtadnijcgohflhaaGreatDoor.Row
/- More of what rows hand in: lists of values. No program in sight. -/
namespace Go.Sy
open Go.ChangeShapes Go.RowKit
section
variable {H:Type} {enc:TypeId×Value->H} {P:Program} {w:World} {sp:Nat->Bool} {held:Bool} {tV tL tM tE tD tS tI tB:TypeId}
theorem open_valL (T:VT P tV tL tM tE tD tS tI tB) {n:Nat} {c:Value} {x:DataW H×List MemPlace} (h:DataW.trod enc P w 0 sp held n tL [c]=some x) (hw:∀ k∈x.1.weights P tL,k<=reachBytes) :
    ∃ (ao:Option Addr) (cap:Nat) (gs:List GVal) (rows:List (List AT)),c=.slice ao gs.length cap/\SlAt (snapOf w) ao gs.length cap 8 rows/\gs.length<=140737488355328/\RepL (snapOf w) gs rows:=by
  obtain ⟨la,ll,lc,ml,rfl,hml,hll,hlr,hle⟩:=open_sl T.l T.cV T.bV h hw
  have HL:∀ i,∃ gr:GVal×List AT,i<ll->RepV (snapOf w) gr.1 gr.2/\∀ a,la=some a->∀ j v,(gr.2.map (AT.den β0))[j]?=some v->w.cell? (a.add (i*8+j))=some v:=by
    intro i
    by_cases hi:i<ll
    · rcases hle with h0 | ⟨a,rfl,hle⟩
      · omega
      · obtain ⟨cs,y,_,q2,q3,q4⟩:=hle i hi
        obtain ⟨g,r,rfl,hr⟩:=open_val T ml cs y q3 fun k hk=>hw k (q4 k hk)
        exact ⟨(g,r),fun _=>⟨hr,fun a' ha=>by injection ha with ha;subst ha;exact q2⟩⟩
    · exact ⟨(.mk 0 false ⟨false,⟨#[]⟩,0⟩ ⟨#[]⟩ [] [] [],[]),fun h=>absurd h hi⟩
  obtain ⟨FL,HL⟩:=Classical.axiomOfChoice HL
  refine ⟨la,lc,(List.range ll).map fun i=>(FL i).1,(List.range ll).map fun i=>(FL i).2,by simp,?_,?_,RepL.range _ fun i hi=>(HL i (List.mem_range.1 hi)).1⟩
  · simp only [List.length_map,List.length_range]
    refine slAt_range hll (fun i hi=>⟨(HL i hi).1.len,(HL i hi).1.clo⟩) ?_
    rcases hle with h0 | ⟨a,rfl,_⟩
    · exact .inl h0
    · exact .inr ⟨a,rfl,fun i hi=>(HL i hi).2 a rfl⟩
  · simp only [List.length_map,List.length_range]
    simp only [reachBytes] at hlr
    omega
end
end Go.Sy
