/- Parts of the proof of CKeysCode: XCl, XRow, KFacts, Ck, KC. No conditions. -/
import Derived.Test.YtlonlnagmfdlbaaDoorM8
import Derived.Carry
import Derived.RowKit
import Derived.ChangeStays
import Derived.ChangeSame
import Derived.ReadAgain
import Derived.SizedLaws
import Derived.Deep.DeepHandedRow
import Derived.ProofKit
import Derived.OpenShut
import Derived.Lay
import Derived.SevenTiedAt
import Derived.Stop.Joined
import Derived.Shelf.Vars
import Derived.Test.YtlonlnagmfdlbaaDoorCards
import Derived.Test.YtlonlnagmfdlbaaDoorTie
import Derived.WideShapes
/- From a row's data to what the walks ask: a value that is read in the world is a tree that lies in memory, all of it sealed. -/
namespace Go.Sy
open Go.ChangeShapes Go.RowKit
def snapOf (W:World):Snap:=fun b=>W.heap[b]?
theorem snapOf_sealed (W:World):Sealed (snapOf W) W:=fun _ _ h=>h
theorem snapOf_cell (W:World) (a:Addr):(snapOf W).cell a=W.cell? a:=rfl
structure VT (P:Program) (tV tL tM tE tD tS tI tB:TypeId):Prop where
  v:∃ fs:Array Field,P.underlying tV=some (.struct fs)/\fs.toList.map (fun f=>(f.type,f.offset))=[(tI,0),(tB,1),(tD,2),(tS,5),(tL,6),(tM,7)]
  l:P.underlying tL=some (.slice tV)
  m:P.underlying tM=some (.slice tE)
  e:∃ fs:Array Field,P.underlying tE=some (.struct fs)/\fs.toList.map (fun f=>(f.type,f.offset))=[(tS,0),(tV,1)]
  d:∃ fs:Array Field,P.underlying tD=some (.struct fs)/\fs.toList.map (fun f=>(f.type,f.offset))=[(tB,0),(tS,1),(tI,2)]
  s:P.underlying tS=some .string
  i:P.underlying tI=some (.int .i64)
  b:P.underlying tB=some .bool
  cV:P.cellsOf tV=8
  cE:P.cellsOf tE=9
  cD:P.cellsOf tD=3
  cS:P.cellsOf tS=1
  cI:P.cellsOf tI=1
  cB:P.cellsOf tB=1
  cL:P.cellsOf tL=1
  cM:P.cellsOf tM=1
  bV:0<P.bytesOf tV
  bE:0<P.bytesOf tE
section
variable {H:Type} {enc:TypeId×Value->H} {P:Program} {w:World} {sp:Nat->Bool} {held:Bool}
theorem field_at {fs:Array Field} {l:List (TypeId×Nat)} (h:fs.toList.map (fun f=>(f.type,f.offset))=l) {i:Nat} {t:TypeId} {o:Nat} (hi:l[i]?=some (t,o)) :
    ∃ f,fs[i]?=some f/\f.type=t/\f.offset=o:=by
  subst h
  rw [List.getElem?_map] at hi
  simp only [Option.map_eq_some_iff,Prod.mk.injEq] at hi
  obtain ⟨f,h1,h2,h3⟩:=hi
  exact ⟨f,by simpa using h1,h2,h3⟩
theorem open_struct {t:TypeId} {fs:Array Field} {l:List (TypeId×Nat)} {n:Nat} {cs:List Value} {x:DataW H×List MemPlace} (hu:P.underlying t=some (.struct fs)) (hl:fs.toList.map (fun f=>(f.type,f.offset))=l)
    (h:DataW.trod enc P w 0 sp held n t cs=some x) :
    ∃ m,m<n/\cs.length=P.cellsOf t/\∀ (i:Nat) (u:TypeId) (o:Nat),l[i]?=some (u,o)->∃ y:DataW H×List MemPlace,DataW.trod enc P w 0 sp held m u ((cs.drop o).take (P.cellsOf u))=some y/\∀ k∈y.1.weights P u,k∈x.1.weights P t:=by
  obtain ⟨xs,m,rfl,rfl,h1,h2,h3⟩:=DataW.trod_struct hu h
  refine ⟨m,by omega,h1,fun i u o hi=>?_⟩
  obtain ⟨f,hf,rfl,rfl⟩:=field_at hl hi
  have hi':i<xs.length:=by
    rw [h2]
    have:=(List.getElem?_eq_some_iff.1 (show fs.toList[i]?=some f by simpa using hf)).1
    simpa using this
  refine ⟨xs[i],by rw [h3 i f hf,List.getElem?_eq_getElem hi'],fun k hk=>?_⟩
  rw [DataW.weights.eq_def]
  simp only [hu]
  exact DataW.weights_mem_each (j:=i) (t:=f.type) (d:=xs[i].1) (by simp;exact ⟨f,by simpa using hf,rfl⟩) (by simp [List.getElem?_eq_getElem hi']) k hk
theorem weightsAll_mem {e:TypeId}:∀ {ds:List (DataW H)} {d:DataW H},d∈ds->∀ k∈d.weights P e,k∈DataW.weightsAll P e ds
  | _::_,_,.head _,k,hk=>by rw [DataW.weightsAll];exact List.mem_append_left _ hk
  | _::_,_,.tail _ h,k,hk=>by rw [DataW.weightsAll];exact List.mem_append_right _ (weightsAll_mem h k hk)
theorem open_sl {t e:TypeId} {n sz:Nat} {c:Value} {x:DataW H×List MemPlace} (hu:P.underlying t=some (.slice e)) (hc:P.cellsOf e=sz) (hb:0<P.bytesOf e) (h:DataW.trod enc P w 0 sp held n t [c]=some x)
    (hw:∀ k∈x.1.weights P t,k<=reachBytes) :
    ∃ (ao:Option Addr) (len cap m:Nat),c=.slice ao len cap/\m<n/\len<=cap/\len<=reachBytes /\
      (len=0\/∃ a,ao=some a/\∀ i,i<len->∃ (cs:List Value) (y:DataW H×List MemPlace),cs.length=sz/\(∀ j v,cs[j]?=some v->w.cell? (a.add (i*sz+j))=some v) /\
        DataW.trod enc P w 0 sp held m e cs=some y/\∀ k∈y.1.weights P e,k∈x.1.weights P t):=by
  rcases DataW.trod_slice hu h with ⟨h1,rfl⟩ | ⟨a,len,cap,elems,rest,m,rfl,h1,rfl,_,h3,h4,h5,h6,_,_⟩
  · injection h1 with h1
    subst h1
    refine ⟨none,0,0,0,rfl,?_,Nat.le_refl _,by decide,.inl rfl⟩
    cases n with
    | zero=>simp [DataW.trod] at h
    | succ n=>omega
  · injection h1 with h1
    subst h1
    have hwt:(DataW.slice (elems.map (·.1)) (rest.map (·.1)):DataW H).weights P t=((elems.map (·.1)).length+(rest.map (·.1)).length)*P.bytesOf e::(DataW.weightsAll P e (elems.map (·.1))++DataW.weightsAll P e (rest.map (·.1))):=by
      rw [DataW.weights.eq_def]
      simp only [hu]
    refine ⟨some a,len,cap,m,rfl,by omega,h3,?_,.inr ⟨a,rfl,fun i hi=>?_⟩⟩
    · have:=hw _ (by rw [hwt];exact List.mem_cons_self)
      simp only [List.length_map] at this
      have h7:elems.length<=(elems.length+rest.length)*P.bytesOf e:=Nat.le_trans (Nat.le_add_right _ _) (Nat.le_mul_of_pos_right _ hb)
      omega
    · have hi':i<elems.length:=by omega
      have h8:=h6 i hi
      rw [List.getElem?_eq_getElem hi',hc] at h8
      obtain ⟨cs,h9,h10⟩:=Option.bind_eq_some_iff.1 h8
      obtain ⟨_,h11,h12⟩:=World.cells?_some h9
      refine ⟨cs,elems[i],h11,fun j v hj=>?_,h10,fun k hk=>?_⟩
      · have hj':j<sz:=by rw [<-h11];exact (List.getElem?_eq_some_iff.1 hj).1
        have:=h12 j hj'
        rw [hj] at this
        rw [<-this]
        congr 1
        exact (Addr.add_add _ _ _).symm
      · rw [hwt]
        exact List.mem_cons_of_mem _ (List.mem_append_left _ (weightsAll_mem (List.mem_map.2 ⟨elems[i],List.getElem_mem hi',rfl⟩) k hk))
theorem RepL.range {σ:Snap} {G:Nat->GVal} {R:Nat->List AT}:∀ l:List Nat,(∀ i∈l,RepV σ (G i) (R i))->RepL σ (l.map G) (l.map R)
  | [],_=>by simp [RepL]
  | a::l,h=>by
    simp only [List.map_cons,RepL]
    exact ⟨R a,l.map R,rfl,h a List.mem_cons_self,RepL.range l fun i hi=>h i (List.mem_cons_of_mem _ hi)⟩
theorem keyRows_range (K:Nat->ByteArray) (R:Nat->List AT):∀ l:List Nat,keyRows (l.map K) (l.map R)=l.map fun i=>keyRow (K i) (R i)
  | []=>rfl
  | a::l=>by simp [keyRows,keyRows_range K R l]
theorem slAt_range {ao:Option Addr} {len cap sz:Nat} {R:Nat->List AT} (h1:len<=cap) (h2:∀ i,i<len->(R i).length=sz/\∀ c∈R i,c.lt 0)
    (h3:len=0\/∃ a,ao=some a/\∀ i,i<len->∀ j v,((R i).map (AT.den β0))[j]?=some v->w.cell? (a.add (i*sz+j))=some v):SlAt (snapOf w) ao len cap sz ((List.range len).map R):=by
  refine ⟨by simp,h1,fun r hr=>?_,?_⟩
  · obtain ⟨i,hi,rfl⟩:=List.mem_map.1 hr
    exact h2 i (List.mem_range.1 hi)
  · rcases h3 with h3 | ⟨a,h3,h4⟩
    · exact .inl h3
    · refine .inr ⟨a,h3,fun i r j c hr hc=>?_⟩
      rw [List.getElem?_map] at hr
      obtain ⟨i',h5,rfl⟩:=Option.map_eq_some_iff.1 hr
      obtain ⟨h6,h7⟩:=List.getElem?_eq_some_iff.1 h5
      have h8:i<len:=by simpa using h6
      have h9:i'=i:=by simpa using h7.symm
      subst h9
      rw [snapOf_cell]
      exact h4 i' h8 j _ (by rw [List.getElem?_map,hc];rfl)
variable {tV tL tM tE tD tS tI tB:TypeId}
theorem open_str {n:Nat} {t:TypeId} {c:Value} {x:DataW H×List MemPlace} (hu:P.underlying t=some .string) (h:DataW.trod enc P w 0 sp held n t [c]=some x) (hw:∀ k∈x.1.weights P t,k<=reachBytes) :
    ∃ s:ByteArray,c=.string s/\s.size<=mostLen:=by
  obtain ⟨s,h1,rfl,_⟩:=DataW.trod_string hu h
  injection h1 with h1
  subst h1
  refine ⟨s,rfl,?_⟩
  have:=hw s.data.toList.length (by rw [DataW.weights.eq_def];exact List.mem_cons_self)
  have h2:s.data.toList.length=s.size:=rfl
  rw [h2] at this
  exact this
theorem open_val (T:VT P tV tL tM tE tD tS tI tB):∀ (n:Nat) (cs:List Value) (x:DataW H×List MemPlace),DataW.trod enc P w 0 sp held n tV cs=some x->(∀ k∈x.1.weights P tV,k<=reachBytes) ->
    ∃ (g:GVal) (r:List AT),cs=r.map (AT.den β0)/\RepV (snapOf w) g r:=by
  intro n
  induction n using Nat.strongRecOn with
  | _ n ih=>?_
  intro cs x h hw
  obtain ⟨fs,hu,hl⟩:=T.v
  obtain ⟨m,hm,hlen,hf⟩:=open_struct hu hl h
  rw [T.cV] at hlen
  match cs,hlen with
  | [c0,c1,c2,c3,c4,c5,c6,c7],_ =>
  obtain ⟨y0,h0,_⟩:=hf 0 tI 0 rfl
  obtain ⟨y1,h1,_⟩:=hf 1 tB 1 rfl
  obtain ⟨y2,h2,w2⟩:=hf 2 tD 2 rfl
  obtain ⟨y3,h3,w3⟩:=hf 3 tS 5 rfl
  obtain ⟨y4,h4,w4⟩:=hf 4 tL 6 rfl
  obtain ⟨y5,h5,w5⟩:=hf 5 tM 7 rfl
  rw [T.cI] at h0
  rw [T.cB] at h1
  rw [T.cD] at h2
  rw [T.cS] at h3
  rw [T.cL] at h4
  rw [T.cM] at h5
  simp only [List.drop_zero,List.drop_succ_cons,List.take_succ_cons,List.take_zero] at h0 h1 h2 h3 h4 h5
  obtain ⟨k,e0,-,-⟩:=DataW.trod_int T.i h0
  obtain ⟨b,e1,-⟩:=DataW.trod_bool T.b h1
  obtain ⟨s,e5,hs⟩:=open_str T.s h3 fun k hk=>hw k (w3 k hk)
  obtain ⟨fd,hud,hld⟩:=T.d
  obtain ⟨md,hmd,-,hfd⟩:=open_struct hud hld h2
  obtain ⟨z0,g0,_⟩:=hfd 0 tB 0 rfl
  obtain ⟨z1,g1,v1⟩:=hfd 1 tS 1 rfl
  obtain ⟨z2,g2,_⟩:=hfd 2 tI 2 rfl
  rw [T.cB] at g0
  rw [T.cS] at g1
  rw [T.cI] at g2
  simp only [List.drop_zero,List.drop_succ_cons,List.take_succ_cons,List.take_zero] at g0 g1 g2
  obtain ⟨ng,e2,-⟩:=DataW.trod_bool T.b g0
  obtain ⟨dg,e3,hdg⟩:=open_str T.s g1 fun k hk=>hw k (w2 k (v1 k hk))
  obtain ⟨ex,e4,-,-⟩:=DataW.trod_int T.i g2
  injection e0 with e0
  injection e1 with e1
  injection e2 with e2
  injection e4 with e4
  subst e0 e1 e2 e3 e4 e5
  obtain ⟨la,ll,lc,ml,rfl,hml,hll,hlr,hle⟩:=open_sl T.l T.cV T.bV h4 fun k hk=>hw k (w4 k hk)
  obtain ⟨ma,lm,mc,mm,rfl,hmm,hlm,hmr,hme⟩:=open_sl T.m T.cE T.bE h5 fun k hk=>hw k (w5 k hk)
  have HL:∀ i,∃ gr:GVal×List AT,i<ll->RepV (snapOf w) gr.1 gr.2/\∀ a,la=some a->∀ j v,(gr.2.map (AT.den β0))[j]?=some v->w.cell? (a.add (i*8+j))=some v:=by
    intro i
    by_cases hi:i<ll
    · rcases hle with h0 | ⟨a,rfl,hle⟩
      · omega
      · obtain ⟨cs,y,_,q2,q3,q4⟩:=hle i hi
        obtain ⟨g,r,rfl,hr⟩:=ih ml (by omega) cs y q3 fun k hk=>hw k (w4 k (q4 k hk))
        exact ⟨(g,r),fun _=>⟨hr,fun a' ha=>by injection ha with ha;subst ha;exact q2⟩⟩
    · exact ⟨(.mk 0 false ⟨false,⟨#[]⟩,0⟩ ⟨#[]⟩ [] [] [],[]),fun h=>absurd h hi⟩
  have HM:∀ i,∃ gr:ByteArray×GVal×List AT,i<lm->gr.1.size<=mostLen/\RepV (snapOf w) gr.2.1 gr.2.2/\∀ a,ma=some a->∀ j v,((keyRow gr.1 gr.2.2).map (AT.den β0))[j]?=some v->w.cell? (a.add (i*9+j))=some v:=by
    intro i
    by_cases hi:i<lm
    · rcases hme with h0 | ⟨a,rfl,hme⟩
      · omega
      · obtain ⟨cs,y,q1,q2,q3,q4⟩:=hme i hi
        obtain ⟨fe,hue,hle'⟩:=T.e
        obtain ⟨me,hme',-,hfe⟩:=open_struct hue hle' q3
        obtain ⟨u0,p0,x0⟩:=hfe 0 tS 0 rfl
        obtain ⟨u1,p1,x1⟩:=hfe 1 tV 1 rfl
        rw [T.cS] at p0
        rw [T.cV] at p1
        match cs,q1 with
        | c::cs',q1 =>
          simp only [List.drop_zero,List.drop_succ_cons,List.take_succ_cons,List.take_zero] at p0 p1
          rw [List.take_of_length_le (by simp at q1;omega)] at p1
          obtain ⟨key,rfl,hk⟩:=open_str T.s p0 fun k hk=>hw k (w5 k (q4 k (x0 k hk)))
          obtain ⟨g,r,rfl,hr⟩:=ih me (by omega) cs' u1 p1 fun k hk=>hw k (w5 k (q4 k (x1 k hk)))
          exact ⟨(key,g,r),fun _=>⟨hk,hr,fun a' ha=>by injection ha with ha;subst ha;exact q2⟩⟩
    · exact ⟨(⟨#[]⟩,.mk 0 false ⟨false,⟨#[]⟩,0⟩ ⟨#[]⟩ [] [] [],[]),fun h=>absurd h hi⟩
  obtain ⟨FL,HL⟩:=Classical.axiomOfChoice HL
  obtain ⟨FM,HM⟩:=Classical.axiomOfChoice HM
  refine ⟨.mk k b ⟨ng,dg,ex⟩ s ((List.range ll).map fun i=>(FL i).1) ((List.range lm).map fun i=>(FM i).1) ((List.range lm).map fun i=>(FM i).2.1),
    [.v (.int .i64 k),.b b,.b ng,.v (.string dg),.v (.int .i64 ex),.v (.string s),.v (.slice la ll lc),.v (.slice ma lm mc)],rfl,?_⟩
  simp only [RepV]
  refine ⟨la,lc,(List.range ll).map fun i=>(FL i).2,ma,mc,(List.range lm).map fun i=>(FM i).2.2,by simp,?_,RepL.range _ fun i hi=>(HL i (List.mem_range.1 hi)).1,by simp,?_,RepL.range _ fun i hi=>(HM i (List.mem_range.1 hi)).2.1,hdg,hs,by simpa [mostLen,reachBytes] using hlr,by simpa [mostLen,reachBytes] using hmr,?_⟩
  · simp only [List.length_map,List.length_range]
    refine slAt_range hll (fun i hi=>⟨(HL i hi).1.len,(HL i hi).1.clo⟩) ?_
    rcases hle with h0 | ⟨a,rfl,_⟩
    · exact .inl h0
    · exact .inr ⟨a,rfl,fun i hi=>(HL i hi).2 a rfl⟩
  · rw [keyRows_range]
    simp only [List.length_map,List.length_range]
    refine slAt_range hlm (fun i hi=>⟨by simp [keyRow,(HM i hi).2.1.len],fun c hc=>?_⟩) ?_
    · cases hc with
      | head=>trivial
      | tail _ hc=>exact (HM i hi).2.1.clo c hc
    · rcases hme with h0 | ⟨a,rfl,_⟩
      · exact .inl h0
      · exact .inr ⟨a,rfl,fun i hi=>(HM i hi).2.2 a rfl⟩
  · intro key hk
    obtain ⟨i,hi,rfl⟩:=List.mem_map.1 hk
    exact (HM i (List.mem_range.1 hi)).1
end
end Go.Sy
/- The closing of a law's row, alike from law to law. -/
namespace Go.Sy
open Go.ChangeShapes Go.RowKit
section
variable {H:Type} {enc:TypeId×Value->H} {P:Program} {W W':World} {sp:Nat->Bool}
theorem trodAll_stays {T:TypeId->Prop} (K:_root_.Go.Kids P T) (hz:∀ t e,T t->P.underlying t=some (.slice e)->0<P.cellsOf e) :
    ∀ {ts:List TypeId} {vs:List Value} {ds:List (DataW H)} {ps:List MemPlace},(∀ t∈ts,T t)->DataW.TrodAll enc P W 0 (fun _=>true) true ts vs ds ps ->
      (∀ p∈ps,W.sameAt W' p)->(∀ p∈ps,sp p.block=true)->DataW.TrodAll enc P W' 0 sp true ts vs ds ps
  | [],[],[],_,_,h,_,_=>h
  | _::_,_::_,_::_,_,hT,⟨p,q,⟨n,h1⟩,h2,e⟩,hs,hb =>
    ⟨p,q,⟨n,DataW.trod_stays K (fun ht hu=>hz _ _ ht hu) (fun h=>by cases h) (hT _ List.mem_cons_self) h1 (fun x hx=>hs x (by rw [e];exact List.mem_append_left _ hx)) (fun x hx=>hb x (by rw [e];exact List.mem_append_left _ hx))⟩,
      trodAll_stays K hz (fun t ht=>hT t (List.mem_cons_of_mem _ ht)) h2 (fun x hx=>hs x (by rw [e];exact List.mem_append_right _ hx)) (fun x hx=>hb x (by rw [e];exact List.mem_append_right _ hx)),e⟩
theorem below_of_fr {M:Nat->Prop} {w w':World} (h:Fr M w w') (hM:∀ b,¬ M b):Below w.heap.size w w':=⟨h.os,h.tape,h.output,h.size,fun k hk=>h.block k hk (hM k)⟩
theorem post_of_law {f:Func} {s:ChangeSpec} {apart fresh handsOn again:Bool} {args:Array Value} {ds gs:List (DataW H)} {before:List MemPlace} {tB:TypeId}
    (hl:laidOutB P=true) (hm:mapsRowed P=true) (hz:∀ t e,t<P.types.size->P.underlying t=some (.slice e)->0<P.cellsOf e)
    (hts:∀ t∈f.params.toList,t<P.types.size) (hr:f.resultTypes=#[tB]) (hB:P.underlying tB=some .bool) (hv:s.vars=[])
    (hres:(s.fn H (ds++gs)).results=[.lit (.bool true)]) (hargs:(s.fn H (ds++gs)).args=ds) (hvars:(s.fn H (ds++gs)).vars=[])
    (hW:DataW.Whole enc P f.params.toList s.vars apart W args.toList ds gs before) (hb:Below W.heap.size W W') :
    s.post enc P f apart fresh handsOn again W args (.bool true) W':=by
  have hW':=hW
  obtain ⟨p,q,hA,hV,rfl,hfz,hnd⟩:=hW
  rw [hv] at hV
  obtain ⟨rfl,rfl⟩:=trodVars_none hV
  have hlt:∀ x∈p++([]:List MemPlace),x.block<W.heap.size:=fun x hx=>hW'.lt x hx
  have h1:∀ (b:Nat) (sp:Nat->Bool) (hd:Bool),DataW.TrodAll enc P W' b sp hd f.resultTypes.toList ((Value.bool true).resultList f.resultTypes.size) (s.fn H (ds++[])).results []:=by
    intro b sp hd
    rw [hr,hres]
    exact trodAll_mk1 (shut_bool hB true)
  have h2:∀ sp:Nat->Bool,(∀ x∈p++([]:List MemPlace),sp x.block=true)->DataW.TrodAll enc P W' 0 sp true f.params.toList args.toList (s.fn H (ds++[])).args p:=by
    intro sp hs
    rw [hargs]
    exact trodAll_stays (T:=(·<P.types.size)) (kids_rows hl hm) hz hts hA (fun x hx=>hb.same (hlt x (List.mem_append_left _ hx))) (fun x hx=>hs x (List.mem_append_left _ hx))
  have h3:∀ sp:Nat->Bool,DataW.TrodVars enc P W' sp s.vars (s.fn H (ds++[])).vars []:=by
    intro sp
    rw [hv,hvars]
    rfl
  have hold:∀ x∈p++([]:List MemPlace),(fun b=>decide (b<W.heap.size)) x.block=true:=fun x hx=>by simpa using hlt x hx
  refine ⟨ds,[],_,[],p,[],hW',h1 _ _ _,h2 _ hold,h3 _,hb.frame _,fun _=>⟨ok_one hr rfl (okWide_bool_mk hB _),_,_,([]++p)++[],⟨[]++p,[],trodAll_append (h2 _ (fun _ _=>rfl)) (h1 _ _ _),h3 _,rfl,?_,?_⟩,?_⟩⟩
  · intro b off hp
    have hp':MemPlace.cell b off∈p++([]:List MemPlace):=by simpa using hp
    rw [hb.frozen (p:=⟨b,off,none⟩) (hlt _ hp')]
    exact hfz b off hp'
  · intro ha
    have:=hnd ha
    simpa using this
  · intro x hp _
    simpa using hp
theorem okWide_agg {tV tL tM tE tD tS tI tB:TypeId} (T:VT P tV tL tM tE tD tS tI tB) {r:Reach} {base:Nat} {v:Value} (h:Value.okWide P W r base tV v):∃ cs:Array Value,v=.agg cs/\cs.size=P.cellsOf tV:=by
  obtain ⟨fs,hu,_⟩:=T.v
  unfold Value.okWide at h
  rw [hu] at h
  obtain ⟨cs,h1,h2,_⟩:=h
  exact ⟨cs,h1,h2⟩
theorem okWide_str {t:TypeId} (T:∃ fs,P.underlying t=some (.struct fs)) {r:Reach} {base:Nat} {v:Value} (h:Value.okWide P W r base t v):∃ (fs:Array Field) (_:P.underlying t=some (.struct fs)) (cs:Array Value),v=.agg cs/\cs.size=P.cellsOf t:=by
  obtain ⟨fs,hu⟩:=T
  unfold Value.okWide at h
  rw [hu] at h
  obtain ⟨cs,h1,h2,_⟩:=h
  exact ⟨fs,hu,cs,h1,h2⟩
theorem weights_le {ts:List TypeId} {ds:List (DataW H)} (h:(DataW.weightsEach P ts ds).all (·<=reachBytes)=true) {j:Nat} {t:TypeId} {d:DataW H} (ht:ts[j]?=some t) (hd:ds[j]?=some d):∀ k∈d.weights P t,k<=reachBytes:=by
  intro k hk
  have:=List.all_eq_true.1 h k (DataW.weights_mem_each ht hd k hk)
  simpa using this
end
end Go.Sy
/- Closed facts of the program that every row's closing asks. -/
namespace Go.Proofs.YtlonlnagmfdlbaaDoor.Row
open Go Go.Proofs Go.Sy Go.ChangeShapes Go.WideShapes Go.ChangeAt Go.RowKit
set_option maxRecDepth 100000
theorem own:ownKnob Tryd.prog.godebug=none:=by kernel_rfl
theorem laidOut:laidOutB Tryd.prog=true:=by kernel_rfl
theorem rowed:mapsRowed Tryd.prog=true:=by kernel_rfl
theorem full:∀ t e,t<Tryd.prog.types.size->Tryd.prog.underlying t=some (.slice e)->0<Tryd.prog.cellsOf e:=slices_full_of Tryd.prog (by kernel_rfl)
theorem vt:VT Tryd.prog 44 41 42 139 40 9 3 4 where
  v:=⟨_,Tryd.underlying44,rfl⟩
  l:=by kernel_rfl
  m:=by kernel_rfl
  e:=⟨_,Tryd.underlying139,rfl⟩
  d:=⟨_,Tryd.underlying40,rfl⟩
  s:=by kernel_rfl
  i:=by kernel_rfl
  b:=by kernel_rfl
  cV:=by kernel_rfl
  cE:=by kernel_rfl
  cD:=by kernel_rfl
  cS:=by kernel_rfl
  cI:=by kernel_rfl
  cB:=by kernel_rfl
  cL:=by kernel_rfl
  cM:=by kernel_rfl
  bV:=of_decide_eq_true (by kernel_rfl)
  bE:=of_decide_eq_true (by kernel_rfl)
theorem farLen (w:World) (h:w.ShapedOpen Tryd.prog):∃ m,w.cell? ⟨0,0,none⟩=some (.int .i64 m):=Go.Proofs.cell_of_shapedOpen_int (zero:=#[.int .i64 0]) (t:=3) h (of_decide_eq_true (by kernel_rfl)) (by kernel_rfl) rfl (by kernel_rfl) (by kernel_rfl) Tryd.underlying3
end Go.Proofs.YtlonlnagmfdlbaaDoor.Row
/- More of what rows hand in: lists, and bytes. No program in sight. -/
namespace Go.Sy
open Go.ChangeShapes Go.RowKit
section
variable {H:Type} {enc:TypeId×Value->H} {P:Program} {w:World} {sp:Nat->Bool} {held:Bool}
theorem open_listK {α:Type} {t e:TypeId} {n sz:Nat} {c:Value} {x:DataW H×List MemPlace} (cells:α->List AT) (ok:α->Prop) (a0:α) (hu:P.underlying t=some (.slice e)) (hc:P.cellsOf e=sz) (hb:0<P.bytesOf e)
    (h:DataW.trod enc P w 0 sp held n t [c]=some x) (hw:∀ k∈x.1.weights P t,k<=reachBytes) (hcl:∀ a,ok a->(cells a).length=sz/\∀ c∈cells a,c.lt 0)
    (hel:∀ (m:Nat) (cs:List Value) (y:DataW H×List MemPlace),cs.length=sz->DataW.trod enc P w 0 sp held m e cs=some y->(∀ k∈y.1.weights P e,k<=reachBytes)->∃ a,ok a/\cs=(cells a).map (AT.den β0)) :
    ∃ (ao:Option Addr) (cap:Nat) (l:List α),c=.slice ao l.length cap/\SlAt (snapOf w) ao l.length cap sz (l.map cells)/\(∀ a∈l,ok a)/\l.length<=reachBytes:=by
  obtain ⟨ao,len,cap,m,rfl,-,hlc,hlr,hle⟩:=open_sl hu hc hb h hw
  have HF:∀ i,∃ a:α,i<len->ok a/\∀ ad,ao=some ad->∀ j v,((cells a).map (AT.den β0))[j]?=some v->w.cell? (ad.add (i*sz+j))=some v:=by
    intro i
    by_cases hi:i<len
    · rcases hle with h0 | ⟨ad,rfl,hle⟩
      · omega
      · obtain ⟨cs,y,q1,q2,q3,q4⟩:=hle i hi
        obtain ⟨a,ha,rfl⟩:=hel m cs y q1 q3 fun k hk=>hw k (q4 k hk)
        exact ⟨a,fun _=>⟨ha,fun a' ha'=>by injection ha' with ha';subst ha';exact q2⟩⟩
    · exact ⟨a0,fun h=>absurd h hi⟩
  obtain ⟨F,HF⟩:=Classical.axiomOfChoice HF
  refine ⟨ao,cap,(List.range len).map F,by simp,?_,fun a ha=>?_,by simpa using hlr⟩
  · rw [List.map_map,List.length_map,List.length_range]
    refine slAt_range (R:=cells ∘ F) hlc (fun i hi=>hcl _ (HF i hi).1) ?_
    rcases hle with h0 | ⟨ad,rfl,_⟩
    · exact .inl h0
    · exact .inr ⟨ad,rfl,fun i hi=>(HF i hi).2 ad rfl⟩
  · obtain ⟨i,hi,rfl⟩:=List.mem_map.1 ha
    exact (HF i (List.mem_range.1 hi)).1
theorem open_u8L {t e:TypeId} {n:Nat} {c:Value} {x:DataW H×List MemPlace} (hu:P.underlying t=some (.slice e)) (he:P.underlying e=some (.int .u8)) (hc:P.cellsOf e=1) (hb:0<P.bytesOf e)
    (h:DataW.trod enc P w 0 sp held n t [c]=some x) (hw:∀ k∈x.1.weights P t,k<=reachBytes) :
    ∃ (ao:Option Addr) (cap:Nat) (l:List UInt8),c=.slice ao l.length cap/\SlAt (snapOf w) ao l.length cap 1 (u8Rows l)/\l.length<=140737488355328:=by
  obtain ⟨ao,cap,l,h1,h2,_,h4⟩:=open_listK (fun u:UInt8=>[.v (.int .u8 u.toNat)]) (fun _=>True) 0 hu hc hb h hw (fun a _=>⟨rfl,fun c hc=>by rw [List.mem_singleton] at hc;subst hc;trivial⟩) fun m cs y hl hy hk=>by
    obtain ⟨k,rfl,-,hwf⟩:=DataW.trod_int he hy
    have hwf':(decide ((0:Int)<=k)&&decide (k<=255))=true:=hwf
    have hr:0<=k/\k<=255:=by rw [Bool.and_eq_true,decide_eq_true_eq,decide_eq_true_eq] at hwf';exact hwf'
    refine ⟨UInt8.ofNat k.toNat,trivial,?_⟩
    show [Value.int .u8 k]=[Value.int .u8 ((UInt8.ofNat k.toNat).toNat:Int)]
    rw [UInt8.toNat_ofNat']
    congr 2
    omega
  exact ⟨ao,cap,l,h1,h2,Nat.le_trans h4 (by decide)⟩
end
end Go.Sy
/- Lists of parts that are handed in. -/
namespace Go.Sy
open Go.ChangeShapes Go.RowKit
section
variable {H:Type} {enc:TypeId×Value->H} {P:Program} {w:World} {sp:Nat->Bool} {held:Bool} {tV tL tM tE tD tS tI tB:TypeId}
theorem open_part {tR:TypeId} {n:Nat} {cs:List Value} {x:DataW H×List MemPlace} {fs:Array Field} (T:VT P tV tL tM tE tD tS tI tB) (hu:P.underlying tR=some (.struct fs))
    (hl:fs.toList.map (fun f=>(f.type,f.offset))=[(tI,0),(tB,1),(tD,2),(tS,5),(tI,6)]) (cR:P.cellsOf tR=7)
    (h:DataW.trod enc P w 0 sp held n tR cs=some x) (hw:∀ k∈x.1.weights P tR,k<=reachBytes):∃ r:GPart,True/\cs=(paCells r).map (AT.den β0):=by
  obtain ⟨m,hm,hlen,hf⟩:=open_struct hu hl h
  rw [cR] at hlen
  match cs,hlen with
  | [c0,c1,c2,c3,c4,c5,c6],_ =>
  obtain ⟨y0,h0,_⟩:=hf 0 tI 0 rfl
  obtain ⟨y1,h1,_⟩:=hf 1 tB 1 rfl
  obtain ⟨y2,h2,w2⟩:=hf 2 tD 2 rfl
  obtain ⟨y3,h3,w3⟩:=hf 3 tS 5 rfl
  obtain ⟨y4,h4,_⟩:=hf 4 tI 6 rfl
  rw [T.cI] at h0 h4
  rw [T.cB] at h1
  rw [T.cS] at h3
  rw [T.cD] at h2
  simp only [List.drop_zero,List.drop_succ_cons,List.take_succ_cons,List.take_zero] at h0 h1 h2 h3 h4
  obtain ⟨kd,e0,-,-⟩:=DataW.trod_int T.i h0
  obtain ⟨b,e1,-⟩:=DataW.trod_bool T.b h1
  obtain ⟨s,e5,_⟩:=open_str T.s h3 fun k hk=>hw k (w3 k hk)
  obtain ⟨i,e6,-,-⟩:=DataW.trod_int T.i h4
  obtain ⟨fd,hud,hld⟩:=T.d
  obtain ⟨md,hmd,-,hfd⟩:=open_struct hud hld h2
  obtain ⟨z0,g0,_⟩:=hfd 0 tB 0 rfl
  obtain ⟨z1,g1,v1⟩:=hfd 1 tS 1 rfl
  obtain ⟨z2,g2,_⟩:=hfd 2 tI 2 rfl
  rw [T.cB] at g0
  rw [T.cS] at g1
  rw [T.cI] at g2
  simp only [List.drop_zero,List.drop_succ_cons,List.take_succ_cons,List.take_zero] at g0 g1 g2
  obtain ⟨ng,e2,-⟩:=DataW.trod_bool T.b g0
  obtain ⟨dg,e3,_⟩:=open_str T.s g1 fun k hk=>hw k (w2 k (v1 k hk))
  obtain ⟨ex,e4,-,-⟩:=DataW.trod_int T.i g2
  injection e0 with e0
  injection e1 with e1
  injection e2 with e2
  injection e4 with e4
  injection e6 with e6
  subst e0 e1 e2 e3 e4 e5 e6
  exact ⟨⟨kd,b,⟨ng,dg,ex⟩,s,i⟩,trivial,rfl⟩
theorem open_partL {t tR:TypeId} {n:Nat} {c:Value} {x:DataW H×List MemPlace} {fs:Array Field} (T:VT P tV tL tM tE tD tS tI tB) (ht:P.underlying t=some (.slice tR)) (hu:P.underlying tR=some (.struct fs))
    (hl:fs.toList.map (fun f=>(f.type,f.offset))=[(tI,0),(tB,1),(tD,2),(tS,5),(tI,6)]) (cR:P.cellsOf tR=7) (bR:0<P.bytesOf tR)
    (h:DataW.trod enc P w 0 sp held n t [c]=some x) (hw:∀ k∈x.1.weights P t,k<=reachBytes) :
    ∃ (ao:Option Addr) (cap:Nat) (l:List GPart),c=.slice ao l.length cap/\SlAt (snapOf w) ao l.length cap 7 (paRows l)/\l.length<=140737488355328:=by
  obtain ⟨ao,cap,l,h1,h2,_,h4⟩:=open_listK paCells (fun _=>True) ⟨0,false,⟨false,⟨#[]⟩,0⟩,⟨#[]⟩,0⟩ ht cR bR h hw (fun a _=>⟨rfl,paCells_lt 0 a⟩) fun m cs y _ hy hk =>
    open_part T hu hl cR hy hk
  exact ⟨ao,cap,l,h1,h2,Nat.le_trans h4 (by decide)⟩
end
end Go.Sy
