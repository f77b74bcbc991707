/- Parts of the proof of CKeysBack: Ck, KC. No conditions. -/
import Derived.Test.YtlonlnagmfdlbaaDoorM6
import Derived.WideShapes
import Derived.Shelf.Vars
/- More of what rows hand in: lists, and bytes. No program in sight. -/
namespace Go.Sy
open Go.ChangeShapes Go.RowKit
section
variable {H:Type} {enc:TypeId×Value->H} {P:Program} {w:World} {sp:Nat->Bool} {held:Bool}
theorem open_listK {α:Type} {t e:TypeId} {n sz:Nat} {c:Value} {x:DataW H×List MemPlace} (cells:α->List AT) (ok:α->Prop) (a0:α) (hu:P.underlying t=some (.slice e)) (hc:P.cellsOf e=sz) (hb:0<P.bytesOf e)
    (h:DataW.trod enc P w 0 sp held n t [c]=some x) (hw:∀ k∈x.1.weights P t,k<=reachBytes) (hcl:∀ a,ok a->(cells a).length=sz/\∀ c∈cells a,c.lt 0)
    (hel:∀ (m:Nat) (cs:List Value) (y:DataW H×List MemPlace),cs.length=sz->DataW.trod enc P w 0 sp held m e cs=some y->(∀ k∈y.1.weights P e,k<=reachBytes)->∃ a,ok a/\cs=(cells a).map (AT.den β0)) :
    ∃ (ao:Option Addr) (cap:Nat) (l:List α),c=.slice ao l.length cap/\SlAt (snapOf w) ao l.length cap sz (l.map cells)/\(∀ a∈l,ok a)/\l.length<=reachBytes:=by
  obtain ⟨ao,len,cap,m,rfl,-,hlc,hlr,hle⟩:=open_sl hu hc hb h hw
  have HF:∀ i,∃ a:α,i<len->ok a/\∀ ad,ao=some ad->∀ j v,((cells a).map (AT.den β0))[j]?=some v->w.cell? (ad.add (i*sz+j))=some v:=by
    intro i
    by_cases hi:i<len
    · rcases hle with h0 | ⟨ad,rfl,hle⟩
      · omega
      · obtain ⟨cs,y,q1,q2,q3,q4⟩:=hle i hi
        obtain ⟨a,ha,rfl⟩:=hel m cs y q1 q3 fun k hk=>hw k (q4 k hk)
        exact ⟨a,fun _=>⟨ha,fun a' ha'=>by injection ha' with ha';subst ha';exact q2⟩⟩
    · exact ⟨a0,fun h=>absurd h hi⟩
  obtain ⟨F,HF⟩:=Classical.axiomOfChoice HF
  refine ⟨ao,cap,(List.range len).map F,by simp,?_,fun a ha=>?_,by simpa using hlr⟩
  · rw [List.map_map,List.length_map,List.length_range]
    refine slAt_range (R:=cells ∘ F) hlc (fun i hi=>hcl _ (HF i hi).1) ?_
    rcases hle with h0 | ⟨ad,rfl,_⟩
    · exact .inl h0
    · exact .inr ⟨ad,rfl,fun i hi=>(HF i hi).2 ad rfl⟩
  · obtain ⟨i,hi,rfl⟩:=List.mem_map.1 ha
    exact (HF i (List.mem_range.1 hi)).1
theorem open_u8L {t e:TypeId} {n:Nat} {c:Value} {x:DataW H×List MemPlace} (hu:P.underlying t=some (.slice e)) (he:P.underlying e=some (.int .u8)) (hc:P.cellsOf e=1) (hb:0<P.bytesOf e)
    (h:DataW.trod enc P w 0 sp held n t [c]=some x) (hw:∀ k∈x.1.weights P t,k<=reachBytes) :
    ∃ (ao:Option Addr) (cap:Nat) (l:List UInt8),c=.slice ao l.length cap/\SlAt (snapOf w) ao l.length cap 1 (u8Rows l)/\l.length<=140737488355328:=by
  obtain ⟨ao,cap,l,h1,h2,_,h4⟩:=open_listK (fun u:UInt8=>[.v (.int .u8 u.toNat)]) (fun _=>True) 0 hu hc hb h hw (fun a _=>⟨rfl,fun c hc=>by rw [List.mem_singleton] at hc;subst hc;trivial⟩) fun m cs y hl hy hk=>by
    obtain ⟨k,rfl,-,hwf⟩:=DataW.trod_int he hy
    have hwf':(decide ((0:Int)<=k)&&decide (k<=255))=true:=hwf
    have hr:0<=k/\k<=255:=by rw [Bool.and_eq_true,decide_eq_true_eq,decide_eq_true_eq] at hwf';exact hwf'
    refine ⟨UInt8.ofNat k.toNat,trivial,?_⟩
    show [Value.int .u8 k]=[Value.int .u8 ((UInt8.ofNat k.toNat).toNat:Int)]
    rw [UInt8.toNat_ofNat']
    congr 2
    omega
  exact ⟨ao,cap,l,h1,h2,Nat.le_trans h4 (by decide)⟩
end
end Go.Sy
/- Lists of parts that are handed in. -/
namespace Go.Sy
open Go.ChangeShapes Go.RowKit
section
variable {H:Type} {enc:TypeId×Value->H} {P:Program} {w:World} {sp:Nat->Bool} {held:Bool} {tV tL tM tE tD tS tI tB:TypeId}
theorem open_part {tR:TypeId} {n:Nat} {cs:List Value} {x:DataW H×List MemPlace} {fs:Array Field} (T:VT P tV tL tM tE tD tS tI tB) (hu:P.underlying tR=some (.struct fs))
    (hl:fs.toList.map (fun f=>(f.type,f.offset))=[(tI,0),(tB,1),(tD,2),(tS,5),(tI,6)]) (cR:P.cellsOf tR=7)
    (h:DataW.trod enc P w 0 sp held n tR cs=some x) (hw:∀ k∈x.1.weights P tR,k<=reachBytes):∃ r:GPart,True/\cs=(paCells r).map (AT.den β0):=by
  obtain ⟨m,hm,hlen,hf⟩:=open_struct hu hl h
  rw [cR] at hlen
  match cs,hlen with
  | [c0,c1,c2,c3,c4,c5,c6],_ =>
  obtain ⟨y0,h0,_⟩:=hf 0 tI 0 rfl
  obtain ⟨y1,h1,_⟩:=hf 1 tB 1 rfl
  obtain ⟨y2,h2,w2⟩:=hf 2 tD 2 rfl
  obtain ⟨y3,h3,w3⟩:=hf 3 tS 5 rfl
  obtain ⟨y4,h4,_⟩:=hf 4 tI 6 rfl
  rw [T.cI] at h0 h4
  rw [T.cB] at h1
  rw [T.cS] at h3
  rw [T.cD] at h2
  simp only [List.drop_zero,List.drop_succ_cons,List.take_succ_cons,List.take_zero] at h0 h1 h2 h3 h4
  obtain ⟨kd,e0,-,-⟩:=DataW.trod_int T.i h0
  obtain ⟨b,e1,-⟩:=DataW.trod_bool T.b h1
  obtain ⟨s,e5,_⟩:=open_str T.s h3 fun k hk=>hw k (w3 k hk)
  obtain ⟨i,e6,-,-⟩:=DataW.trod_int T.i h4
  obtain ⟨fd,hud,hld⟩:=T.d
  obtain ⟨md,hmd,-,hfd⟩:=open_struct hud hld h2
  obtain ⟨z0,g0,_⟩:=hfd 0 tB 0 rfl
  obtain ⟨z1,g1,v1⟩:=hfd 1 tS 1 rfl
  obtain ⟨z2,g2,_⟩:=hfd 2 tI 2 rfl
  rw [T.cB] at g0
  rw [T.cS] at g1
  rw [T.cI] at g2
  simp only [List.drop_zero,List.drop_succ_cons,List.take_succ_cons,List.take_zero] at g0 g1 g2
  obtain ⟨ng,e2,-⟩:=DataW.trod_bool T.b g0
  obtain ⟨dg,e3,_⟩:=open_str T.s g1 fun k hk=>hw k (w2 k (v1 k hk))
  obtain ⟨ex,e4,-,-⟩:=DataW.trod_int T.i g2
  injection e0 with e0
  injection e1 with e1
  injection e2 with e2
  injection e4 with e4
  injection e6 with e6
  subst e0 e1 e2 e3 e4 e5 e6
  exact ⟨⟨kd,b,⟨ng,dg,ex⟩,s,i⟩,trivial,rfl⟩
theorem open_partL {t tR:TypeId} {n:Nat} {c:Value} {x:DataW H×List MemPlace} {fs:Array Field} (T:VT P tV tL tM tE tD tS tI tB) (ht:P.underlying t=some (.slice tR)) (hu:P.underlying tR=some (.struct fs))
    (hl:fs.toList.map (fun f=>(f.type,f.offset))=[(tI,0),(tB,1),(tD,2),(tS,5),(tI,6)]) (cR:P.cellsOf tR=7) (bR:0<P.bytesOf tR)
    (h:DataW.trod enc P w 0 sp held n t [c]=some x) (hw:∀ k∈x.1.weights P t,k<=reachBytes) :
    ∃ (ao:Option Addr) (cap:Nat) (l:List GPart),c=.slice ao l.length cap/\SlAt (snapOf w) ao l.length cap 7 (paRows l)/\l.length<=140737488355328:=by
  obtain ⟨ao,cap,l,h1,h2,_,h4⟩:=open_listK paCells (fun _=>True) ⟨0,false,⟨false,⟨#[]⟩,0⟩,⟨#[]⟩,0⟩ ht cR bR h hw (fun a _=>⟨rfl,paCells_lt 0 a⟩) fun m cs y _ hy hk =>
    open_part T hu hl cR hy hk
  exact ⟨ao,cap,l,h1,h2,Nat.le_trans h4 (by decide)⟩
end
end Go.Sy
