/- Parts of the proof of CJoinsPairs: CFacts, Cv. No conditions. -/
import Derived.Test.YtadnijcgohflhaaGreatDoorM10
import Derived.Test.YtadnijcgohflhaaGreatDoorCards
import Derived.Test.YtadnijcgohflhaaGreatDoorTie
/- Closed facts of the program that every row's closing asks. -/
namespace Go.Proofs.YtadnijcgohflhaaGreatDoor.Row
open Go Go.Proofs Go.Sy Go.ChangeShapes Go.WideShapes Go.ChangeAt Go.RowKit
set_option maxRecDepth 100000
theorem own:ownKnob Tryz.prog.godebug=none:=by kernel_rfl
theorem laidOut:laidOutB Tryz.prog=true:=by kernel_rfl
theorem rowed:mapsRowed Tryz.prog=true:=by kernel_rfl
theorem full:∀ t e,t<Tryz.prog.types.size->Tryz.prog.underlying t=some (.slice e)->0<Tryz.prog.cellsOf e:=slices_full_of Tryz.prog (by kernel_rfl)
theorem vt:VT Tryz.prog 28 25 26 184 24 9 3 4 where
  v:=⟨_,Tryz.underlying28,rfl⟩
  l:=by kernel_rfl
  m:=by kernel_rfl
  e:=⟨_,Tryz.underlying184,rfl⟩
  d:=⟨_,Tryz.underlying24,rfl⟩
  s:=by kernel_rfl
  i:=by kernel_rfl
  b:=by kernel_rfl
  cV:=by kernel_rfl
  cE:=by kernel_rfl
  cD:=by kernel_rfl
  cS:=by kernel_rfl
  cI:=by kernel_rfl
  cB:=by kernel_rfl
  cL:=by kernel_rfl
  cM:=by kernel_rfl
  bV:=of_decide_eq_true (by kernel_rfl)
  bE:=of_decide_eq_true (by kernel_rfl)
end Go.Proofs.YtadnijcgohflhaaGreatDoor.Row
/- More of what rows hand in: lists of values. No program in sight. -/
namespace Go.Sy
open Go.ChangeShapes Go.RowKit
section
variable {H:Type} {enc:TypeId×Value->H} {P:Program} {w:World} {sp:Nat->Bool} {held:Bool} {tV tL tM tE tD tS tI tB:TypeId}
theorem open_valL (T:VT P tV tL tM tE tD tS tI tB) {n:Nat} {c:Value} {x:DataW H×List MemPlace} (h:DataW.trod enc P w 0 sp held n tL [c]=some x) (hw:∀ k∈x.1.weights P tL,k<=reachBytes) :
    ∃ (ao:Option Addr) (cap:Nat) (gs:List GVal) (rows:List (List AT)),c=.slice ao gs.length cap/\SlAt (snapOf w) ao gs.length cap 8 rows/\gs.length<=140737488355328/\RepL (snapOf w) gs rows:=by
  obtain ⟨la,ll,lc,ml,rfl,hml,hll,hlr,hle⟩:=open_sl T.l T.cV T.bV h hw
  have HL:∀ i,∃ gr:GVal×List AT,i<ll->RepV (snapOf w) gr.1 gr.2/\∀ a,la=some a->∀ j v,(gr.2.map (AT.den β0))[j]?=some v->w.cell? (a.add (i*8+j))=some v:=by
    intro i
    by_cases hi:i<ll
    · rcases hle with h0 | ⟨a,rfl,hle⟩
      · omega
      · obtain ⟨cs,y,_,q2,q3,q4⟩:=hle i hi
        obtain ⟨g,r,rfl,hr⟩:=open_val T ml cs y q3 fun k hk=>hw k (q4 k hk)
        exact ⟨(g,r),fun _=>⟨hr,fun a' ha=>by injection ha with ha;subst ha;exact q2⟩⟩
    · exact ⟨(.mk 0 false ⟨false,⟨#[]⟩,0⟩ ⟨#[]⟩ [] [] [],[]),fun h=>absurd h hi⟩
  obtain ⟨FL,HL⟩:=Classical.axiomOfChoice HL
  refine ⟨la,lc,(List.range ll).map fun i=>(FL i).1,(List.range ll).map fun i=>(FL i).2,by simp,?_,?_,RepL.range _ fun i hi=>(HL i (List.mem_range.1 hi)).1⟩
  · simp only [List.length_map,List.length_range]
    refine slAt_range hll (fun i hi=>⟨(HL i hi).1.len,(HL i hi).1.clo⟩) ?_
    rcases hle with h0 | ⟨a,rfl,_⟩
    · exact .inl h0
    · exact .inr ⟨a,rfl,fun i hi=>(HL i hi).2 a rfl⟩
  · simp only [List.length_map,List.length_range]
    simp only [reachBytes] at hlr
    omega
end
end Go.Sy
