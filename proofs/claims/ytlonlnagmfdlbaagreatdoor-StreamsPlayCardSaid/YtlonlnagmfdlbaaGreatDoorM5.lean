/- Parts of the proof of CStreamsPlay: F3, F4, F5, F6, F7, F8, Vb, F9, F10, Vc, F11, F12, F13. No conditions. -/
import Derived.Test.YtlonlnagmfdlbaaGreatDoorM4
set_option maxRecDepth 100000
set_option maxHeartbeats 16000000
namespace Go.Sy
open Go.Proofs
def iA (p:UInt8->Bool):List AT:=(List.range 256).map fun i=>.b (p (UInt8.ofNat i))
theorem DI(p:UInt8->Bool): (iA p).length=256:=by simp[iA]
theorem lF(p:UInt8->Bool)(n:Nat): ∀ c∈iA p,c.lt n:=by
 intro c hc
 obtain⟨i,_,rfl⟩:=bL.1 hc
 trivial
theorem DJ(p:UInt8->Bool)(u:UInt8): (iA p)[u.toNat]?=some (.b (p u)):=by
 have:=u.toNat_lt
 simp[iA,this]
theorem DH(p:UInt8->Bool)(u:UInt8)(β:Nat->Addr): ((iA p).set u.toNat .tt).map (AT.den β)=(iA fun x=>p x||x == u).map (AT.den β):=by
 apply List.ext_getElem?
 intro j
 simp only[aO,eZ,iA,aR,List.length_range]
 by_cases hj:j<256
 ·by_cases huj:u.toNat=j
  ·subst huj
   rw[au rfl,au hj]
   simp[hj,AT.den]
  ·rw[ai huj]
   have jv:UInt8.ofNat j≠u:=fun e=>huj (by rw[<-e];simp;omega)
   simp[hj,AT.den,jv]
 ·have:=u.toNat_lt
  rw[ai Zo]
  simp[hj]
theorem CN(σ:al)(l:List UInt8)(hl:l.length<=1000)(an8:∀ u∈l,u.toNat<128):
  bZ Tryz.prog 252 [.a (.v (.string (ju l)))] σ (fun v=>v=(SV.ik [.agg (iA l.contains),.a .tt]).den fy):=by
 refine bW Tryz.func252 Z Z Zl fun w=>?_
 have jZ:=gB l
 refine Zd ?_
 refine PG 0 (iA fun _=>false) rfl (fun β=>?_) (lF _ _) ?_
 ·show(List.replicate 256 AT.ff).map _=_
  rw[List.map_replicate,iA,jm]
  exact((List.map_const' (l:=List.range 256) (b:=Value.bool false)).trans (by rw[List.length_range];rfl)).symm
 refine bX (fun _=>σ) (fun(k:Nat)=>[(0,.a (.v (.string (ju l)))),(2,.a (.p 0 0)),(4,.a (.v (.int .i64 k)))]) (fun k=>[(0,.loc 354,iA (l.take k).contains)]) (fun _=>[]) 1
  (fun k=>k<=l.length) (fun k=>l.length - k) 0 (ay _) rfl Zs Zs rfl Zl ⟨⟨aj,lF _ _⟩,trivial⟩ fun k hk=>?_
 refine Za ?_
 refine aG rfl (fun hc=>?_) (fun hc=>?_)
 ·have dj:k<l.length:=by rw[jZ] at hc;simpa using hc
  have hu:=an8 _ (aP dj)
  refine Zd ?_
  refine fz (u:=l[k]) TT Z Z Z Z Z Z Z Z Zo (by simp[dj]) (Zr ?_)
  refine Za ?_
  refine aG rfl (fun hp=>?_) (fun hp=>?_)
  ·simp at hp;omega
  refine Zc ?_
  refine Lh 4 256 Qt D6 Z Z Z Z Z Z Zo Zo l[k].toNat (by rw[show Tryz.prog.cellsOf 4=1 from Tr];simp) ?_
  refine OI (c:=.tt) TT Z Z Z Z Z Z Z Z Z Z (by rw[DI];omega) ?_
  refine Zc ?_
  refine qq 0 (iA (l.take (k+1)).contains) rfl (fun β=>?_) (lF _ _) ?_
  ·rw[DH]
   congr 2
   funext x
   rw[cg]
   simp only[jx,beq_iff_eq,jP]
   rw[ak dj,bz,aU]
  refine an (k+1) dj Zo rfl Zs Zs rfl Zl ⟨⟨aj,lF _ _⟩,trivial⟩
 ·have fQ:k=l.length:=by rw[jZ] at hc;simp at hc;omega
  subst fQ
  rw[aI]
  refine Ze ?_
  refine aw TT rfl fun β w' _ _=>?_
  rfl
def fh (u:UInt8):Bool:=[48,49,50,51,52,53,54,55,56,57].contains u
def V7:ByteArray:=⟨#[48,49,50,51,52,53,54,55,56,57]⟩
theorem Zh(σ:al)(l:List UInt8)(hl:l.length<=bJ):
  bZ Tryz.prog 244 [.a (.v (.string (ju l))),.a (.v (.string V7))] σ (fun v=>v=.string (ju ((nN fh l).dropWhile fh))):=by
 have jZ:=gB l
 refine bW Tryz.func244 Z Z Zl fun w=>?_
 refine Za ?_
 refine ax 9 rfl (fun h=>?_) (fun h=>?_)
 ·have h0:l=[]:=Bk (ae h)
  subst h0
  refine gn ?_
  refine aw TT rfl fun β w' _ _=>?_
  rfl
 refine gX ?_
 refine aG rfl (fun h=>?_) (fun h=>?_)
 ·exact absurd h (by decide)
 refine Zc ?_
 refine ax 17 rfl (fun h=>?_) (fun h=>?_)
 ·exact absurd h (by decide)
 refine pC ?_
 refine aT Z Z Z Z Z Tryz.call252 Zl (CN σ [48,49,50,51,52,53,54,55,56,57] (by decide) (by decide)) fun v hv=>⟨_,?_,hv.symm,?_⟩
 ·intro x hx
  simp only[bM,dA,or_false] at hx
  rcases hx with rfl | rfl
  ·exact lF _ _
  ·trivial
 refine gn ?_
 refine gP 0 1 256 rfl (by exact lF fh 0) rfl (by decide) fun g=>?_
 refine iI 0 Z Z Z fun bD hle hS=>?_
 have mV:∀ u:UInt8,bD.cell ⟨g,u.toNat,none⟩=some (.bool (fh u)):=by
  intro u
  rcases hS with⟨h1,_⟩ | ⟨g',h1,h2⟩
  ·cases h1
  ·injection h1 with h1
   simp only[Addr.mk.injEq,and_true] at h1
   subst h1
   refine h2 u.toNat _ ?_
   show((iA fh).map AT.val)[u.toNat]?=_
   rw[aO,DJ]
   rfl
 refine aT Z Z Z Z Z Tryz.call254 Zl (yC bD fh g mV l hl) fun v hv=>⟨.a (.v (.string (ju (nN fh l)))),trivial,hv.symm,?_⟩
 refine aT Z Z Z Z Z Tryz.call253 Zl (AH bD fh g mV (nN fh l)) fun v hv=>⟨.a (.v (.string (ju ((nN fh l).dropWhile fh)))),trivial,hv.symm,?_⟩
 refine gn ?_
 refine aw TT rfl fun β w' _ _=>?_
 rfl
theorem dropWhile_nil(p:UInt8->Bool): ∀(l:List UInt8),l.dropWhile p=[]↔∀ u∈l,p u=true
 | []=>by simp
 | x::l=>by
  rw[List.dropWhile_cons]
  split
  ·rename_i h
   rw[dropWhile_nil p l]
   simp[h]
  ·rename_i h
   simp[h]
theorem H6(l:List UInt8): (nN fh l).dropWhile fh=[]↔∀ u∈l,fh u=true:=by
 have hR:nN fh l=[]↔∀ u∈l,fh u=true:=by
  unfold nN
  rw[List.reverse_eq_nil_iff,dropWhile_nil]
  simp
 constructor
 ·intro h
  rw[dropWhile_nil] at h
  by_cases h0:nN fh l=[]
  ·exact hR.1 h0
  ·exfalso
   have Am:∀ u,(nN fh l).getLast?=some u->fh u=false:=by
    intro u hu
    unfold nN at hu
    rw[List.getLast?_reverse] at hu
    have:=List.head?_dropWhile_not fh l.reverse
    rw[hu] at this
    simpa using this
   cases hg:(nN fh l).getLast? with
   | none=>rw[List.getLast?_eq_none_iff] at hg;exact h0 hg
   | some u =>
    have h1:=Am u hg
    have h2:=h u (List.mem_of_getLast? hg)
    rw[h1] at h2;cases h2
 ·intro h
  rw[hR.2 h]
  rfl
def dv (d:oh):Bool :=
 let l:=d.dg.data.toList
 if l.length=0 then !d.neg&&decide (d.ex=0)
 else decide (l.length<=40)&&l.all fh&&decide (-800<=d.ex)&&decide (d.ex<=800)&&decide (-400<=l.length+d.ex)&&decide (l.length+d.ex<=400)&&l.head? != some 48&&l.getLast? != some 48
theorem SA(σ:al)(d:oh)(h1:d.dg.size<=1000)(h2:-1000<=d.ex)(h3:d.ex<=1000): bZ Tryz.prog 245 [.agg (lC d)] σ (fun v=>v=.int .i64 (d.dg.size+d.ex)):=by
 refine bW Tryz.func245 Z Z Zl fun w=>?_
 refine Zg ?_
 refine aw TT rfl fun β w' _ _=>?_
 rfl
theorem Qs: Tryz.prog.underlying 24=some (.struct (Tryz.prog.fieldsOf 24)):=by kernel_rfl
def mF:List Field->List (Nat×Nat)->Bool
 | [],[]=>true
 | f :: fs, (t, o) :: l => f.name != "_" && Nat.beq f.type t && Nat.beq f.offset o && mF fs l
 | _,_=>false
theorem cA{l : List Field}{t o : Nat}{r : List (Nat × Nat)}(h : mF l ((t, o) :: r) = true): ∃ f fs, l = f :: fs ∧ f.name ≠ "_" ∧ f.type = t ∧ f.offset = o ∧ mF fs r = true := by
 cases l with
 | nil=>cases h
 | cons f fs =>
  simp only[mF,aQ,bne_iff_ne,ne_eq] at h
  exact⟨f,fs,rfl,h.1.1.1,dX h.1.1.2,dX h.1.2,h.2⟩
theorem cW{P : Program}{w : World}{d : Nat}{xs ys : Array Value}{f : Field}{fs : List Field}{a b : Value}{r : Bool}(hn : f.name ≠ "_")(ha : (part f.type xs f.offset).run P w = .ok a w)(hb : (part f.type ys f.offset).run P w = .ok b w)(he : (Op.equalIn d f.type a b).run P w = .ok r w): (Op.eqFields d xs ys (f :: fs)).run P w = if r then (Op.eqFields d xs ys fs).run P w else .ok false w := by
 simp only[Op.eqFields,au hn,Sem.run_bind,ha,hb,he,Result.andThen_ok]
 cases r<;>simp
theorem jg{P:Program}{w:World}{t:TypeId}{xs:Array Value}{o:Nat}{d:TypeDesc}{v:Value}(hu:P.underlying t=some d)(hd:AY d=false)(hv:xs[o]?=some v): (part t xs o).run P w=.ok v w:=by
 simp only[part,Sem.run_bind,jK hu,hd,Result.andThen_ok,dI,if_false,hv,Sem.run_pure]
theorem D5: Tryz.prog.underlying 9=some .string:=by kernel_rfl
theorem pF: Tryz.prog.underlying 3=some (.int .i64):=by kernel_rfl
theorem vj{P:Program}{w:World}(d:Nat)(t:TypeId)(a b:ByteArray)(h:P.underlying t=some .string): (Op.equalIn (d+1) t (.string a) (.string b)).run P w=.ok (decide (a=b)) w:=by
 simp only[Op.equalIn,Sem.run_bind,run_underlying h,Result.andThen_ok,Sem.run_pure]
 congr 1
 rw[beq_toListBytes,ByteArray.toList_eq,ByteArray.toList_eq,cg]
 simp only[beq_iff_eq,aX]
 exact⟨fun h=>ByteArray.ext (Array.ext' h),fun h=>by rw[h]⟩
theorem x9(m:Nat)(a b:oh)(w:World): (Op.equalIn (m+1+1) 24 (.agg #[.bool a.neg,.string a.dg,.int .i64 a.ex]) (.agg #[.bool b.neg,.string b.dg,.int .i64 b.ex])).run Tryz.prog w=.ok (decide (a=b)) w:=by
 rw[run_equalIn_agg w (m+1) 24 _ _ Qs Zk]
 have h:mF (Tryz.prog.fieldsOf 24).toList [(4,0),(9,1),(3,2)]=true:=by kernel_rfl
 generalize (Tryz.prog.fieldsOf 24).toList=fl at h
 obtain⟨f0,fl,rfl,n0,t0,o0,h⟩:=cA h
 obtain⟨f1,fl,rfl,n1,t1,o1,h⟩:=cA h
 obtain⟨f2,fl,rfl,n2,t2,o2,h⟩:=cA h
 cases fl with
 | cons _ _=>cases h
 | nil =>
  rw[cW (r:=a.neg == b.neg) n0 (jg (v:=.bool a.neg) (by rw[t0];exact D6) rfl (by rw[o0];rfl)) (jg (v:=.bool b.neg) (by rw[t0];exact D6) rfl (by rw[o0];rfl)) (run_equalIn_bool' w m f0.type a.neg b.neg (by rw[t0];exact D6))]
  rw[cW (r:=decide (a.dg=b.dg)) n1 (jg (v:=.string a.dg) (by rw[t1];exact D5) rfl (by rw[o1];rfl)) (jg (v:=.string b.dg) (by rw[t1];exact D5) rfl (by rw[o1];rfl)) (vj m f1.type a.dg b.dg (by rw[t1];exact D5))]
  rw[cW (r:=a.ex == b.ex) n2 (jg (v:=.int .i64 a.ex) (by rw[t2];exact pF) rfl (by rw[o2];rfl)) (jg (v:=.int .i64 b.ex) (by rw[t2];exact pF) rfl (by rw[o2];rfl)) (run_equalIn_int w m f2.type .i64 .i64 a.ex b.ex (by rw[t2];exact pF))]
  simp only[Op.eqFields,Sem.run_pure]
  have:(decide (a=b))=(a.neg == b.neg&&(decide (a.dg=b.dg)&&a.ex == b.ex)):=by
   rw[cg]
   cases a;cases b
   simp
  rw[this]
  cases (a.neg == b.neg)<;>cases decide (a.dg=b.dg)<;>cases (a.ex == b.ex)<;>rfl
theorem I3{cf:Cf}{Q:Exit->Act->World->Prop}{σ:al}{env:Env}{hp:HP}{A:List AE}{nh:Nat}{it:Item}{rest:List Item}{d:Nat}{x y:Operand}{yt:TypeId}{ca cb:List AT}(a b:oh)(hP:cf.P=Tryz.prog)(fL:it.o.op=.binOp .eql 24 x y yt)(hd:it.o.dst=some d)(hg:bt it.guard env=some true)(hN:Nat.blt d cf.N=true)(hx:bP env x=some (.agg ca))(hy:bP env y=some (.agg cb))(hca:∀ β,ca.map (AT.den β)=(lC a).map (AT.den β))(DX:∀ β,cb.map (AT.den β)=(lC b).map (AT.den β))(hk:OJ cf rest Q σ ((d,.a (.b (decide (a=b))))::env) hp A nh): OJ cf (it::rest) Q σ env hp A nh:=by
 refine jB (.a (.b (decide (a=b)))) hd hg hN trivial (fun _ ac β ha w=>?_) hk
 have h1:ac.eval x=.agg #[.bool a.neg,.string a.dg,.int .i64 a.ex]:=(aD ha hx).trans (by simp only[SV.den,hca];rfl)
 have h2:ac.eval y=.agg #[.bool b.neg,.string b.dg,.int .i64 b.ex]:=(aD ha hy).trans (by simp only[SV.den,DX];rfl)
 rw[hP]
 have hG:(eqGuard .eql 24 x y (.agg #[.bool a.neg,.string a.dg,.int .i64 a.ex]) (.agg #[.bool b.neg,.string b.dg,.int .i64 b.ex])).run Tryz.prog w=.ok () w:=run_eqGuard_agg w _ _ _ _ _ _ Zk
 have hE:(Op.equalIn 10000 24 (.agg #[.bool a.neg,.string a.dg,.int .i64 a.ex]) (.agg #[.bool b.neg,.string b.dg,.int .i64 b.ex])).run Tryz.prog w=.ok (decide (a=b)) w:=x9 9998 a b w
 have hB:(binOp .eql 24 (.agg #[.bool a.neg,.string a.dg,.int .i64 a.ex]) (.agg #[.bool b.neg,.string b.dg,.int .i64 b.ex])).run Tryz.prog w=.ok (.bool (decide (a=b))) w:=by
  rw[run_eql_struct,hE]
  rfl
 simp only[execOp,fL,h1,h2,Sem.run_bind,hG,hB,Result.andThen_ok,Sem.run_pure]
 rfl
theorem jV(ng:Bool)(l:List UInt8)(ex:Int)(h0:l.length≠0): dv ⟨ng,ju l,ex⟩=(decide (l.length<=40)&&l.all fh&&decide (-800<=ex)&&decide (ex<=800)&&decide (-400<=l.length+ex)&&decide (l.length+ex<=400)&&l.head? != some 48&&l.getLast? != some 48):=by
 unfold dv
 exact ai h0
def fA:oh:=⟨false,⟨#[]⟩,0⟩
theorem FH(σ:al)(d:oh)(hd:d.dg.size<=bJ): bZ Tryz.prog 228 [.agg (lC d)] σ (fun v=>v=.bool (dv d)):=by
 obtain⟨ng,dg,ex⟩:=d
 obtain⟨l,rfl⟩:=oS dg
 have jZ:=gB l
 simp only at hd
 rw[jZ] at hd
 have VK:=hd
 simp only[bJ] at VK
 refine bW Tryz.func228 Z Z Zl fun w=>?_
 refine Zd ?_
 refine aG rfl (fun h=>?_) (fun h=>?_)
 ·have h0:l=[]:=by simpa using h
  subst h0
  refine Za ?_
  refine I3 ⟨ng,ju [],ex⟩ fA Z Z Z Z Z Z Z (fun _=>rfl) (fun _=>rfl) (Zr ?_)
  refine Zb ?_
  refine aw TT rfl fun β w' _ _=>?_
  show Value.bool _=_
  congr 1
  simp only[dv,jr,List.length_nil,if_true,fA,oh.mk.injEq]
  rw[cg]
  cases ng<;>simp[ju]
 ·have h0:l≠[]:=by simpa using h
  have LX:l.length≠0:=by simpa using h0
  have LW:(ju l).size=l.length:=jZ
  refine Za ?_
  refine ax 17 rfl (fun h=>?_) (fun h=>?_)
  ·have h40:40<l.length:=by simp at h;omega
   refine gn ?_
   refine aw TT rfl fun β w' _ _=>?_
   show Value.bool false=_
   congr 1
   rw[jV _ _ _ LX,show decide (l.length<=40)=false by simp;omega]
   simp
  have h40:l.length<=40:=by simp at h;omega
  refine Zr ?_
  refine aT Z Z Z Z Z Tryz.call244 Zl (Zh σ l hd) fun v hv=>⟨.a (.v (.string (ju ((nN fh l).dropWhile fh)))),trivial,hv.symm,?_⟩
  refine gX ?_
  have htr:(decide (ju ((nN fh l).dropWhile fh)=⟨#[]⟩))=l.all fh:=by
   rw[cg,aX,dc,<-H6]
   exact⟨fun h=>Bk h,fun h=>by rw[h];rfl⟩
  refine aG rfl (fun h=>?_) (fun h=>?_)
  ·rw[htr] at h
   refine Zb ?_
   refine aw TT rfl fun β w' _ _=>?_
   show Value.bool false=_
   congr 1
   rw[jV _ _ _ LX,show l.all fh=false by simpa using h]
   simp
  rw[htr] at h
  have mD:l.all fh=true:=by simpa using h
  refine Za ?_
  refine ax 27 rfl (fun h=>?_) (fun h=>?_)
  ·refine gn ?_
   refine aw TT rfl fun β w' _ _=>?_
   show Value.bool false=_
   congr 1
   have:ex < -800:=by simpa using h
   rw[jV _ _ _ LX,show decide (-800<=ex)=false by simp;omega]
   simp
  have as1:-800<=ex:=by simpa using h
  refine gX ?_
  refine aG rfl (fun h=>?_) (fun h=>?_)
  ·refine Zb ?_
   refine aw TT rfl fun β w' _ _=>?_
   show Value.bool false=_
   congr 1
   have:800<ex:=by simpa using h
   rw[jV _ _ _ LX,show decide (ex<=800)=false by simp;omega]
   simp
  have as0:ex<=800:=by simpa using h
  refine Zc ?_
  refine aT Z Z Z Z Z Tryz.call245 Zl (SA σ ⟨ng,ju l,ex⟩ (by show(ju l).size<=1000;omega) (by show -1000<=ex;omega) (by show ex<=1000;omega)) fun v hv=>⟨.a (.v (.int .i64 ((ju l).size+ex))),trivial,hv.symm,?_⟩
  refine gX ?_
  have iZ:dv ⟨ng,ju l,ex⟩=(decide (-400<=l.length+ex)&&decide (l.length+ex<=400)&&l.head? != some 48&&l.getLast? != some 48):=by
   rw[jV _ _ _ LX,mD,show decide (l.length<=40)=true by simp;omega,show decide (-800<=ex)=true by simp;omega,show decide (ex<=800)=true by simp;omega]
   simp
  have hx:(((ju l).size:Nat):Int)=l.length:=by rw[jZ]
  refine ax 36 rfl (fun h=>?_) (fun h=>?_)
  rotate_left
  ·refine gn ?_
   refine aw TT rfl fun β w' _ _=>?_
   show Value.bool false=_
   congr 1
   rw[iZ,show decide (-400<=(l.length:Int)+ex)=false by rw[<-hx];exact h]
   simp
  have e1:decide (-400<=(l.length:Int)+ex)=true:=by rw[<-hx];exact h
  refine Zr ?_
  refine ax 40 rfl (fun h=>?_) (fun h=>?_)
  rotate_left
  ·refine gn ?_
   refine aw TT rfl fun β w' _ _=>?_
   show Value.bool false=_
   congr 1
   rw[iZ,show decide ((l.length:Int)+ex<=400)=false by rw[<-hx];exact h]
   simp
  have e2:decide ((l.length:Int)+ex<=400)=true:=by rw[<-hx];exact h
  refine Zr ?_
  have dj:0<l.length:=by omega
  refine fz (u:=l[0]) TT Z Z Z Z Z Z Z Z Zo (by simp[dj]) (Zr ?_)
  have e3:(l.head? != some 48)=!decide ((l[0].toNat:Int)=48):=by
   rw[kQ,aa dj,cg]
   simp[<-iM]
   omega
  refine ax 46 rfl (fun h=>?_) (fun h=>?_)
  rotate_left
  ·refine gn ?_
   refine aw TT rfl fun β w' _ _=>?_
   show Value.bool false=_
   congr 1
   rw[iZ,e3,h]
   simp
  refine Zr ?_
  refine iY Z Z Z Z Z Z (by show -9223372036854775808<=((ju l).size:Int) - 1/\((ju l).size:Int) - 1<=9223372036854775807;omega) (Zr ?_)
  refine fz (u:=l[l.length - 1]) TT Z Z Z Z Z Z Z Z (by show 0<=((ju l).size:Int) - 1;omega) (by
   show l[(((ju l).size:Int) - 1).toNat]?=_
   rw[show(((ju l).size:Int) - 1).toNat=l.length - 1 by omega,aa Zo]) (Zr ?_)
  have e4:(l.getLast? != some 48)=!decide ((l[l.length - 1].toNat:Int)=48):=by
   rw[List.getLast?_eq_getElem?,aa Zo,cg]
   simp[<-iM]
   omega
  refine Zb ?_
  refine aw TT rfl fun β w' _ _=>?_
  show Value.bool _=_
  congr 1
  rw[iZ,e1,e2,e3,e4,h]
  simp
end Go.Sy
namespace Go.Sy
open Go.Proofs
def oI:List AT:=[.v (.int .u8 128),.v (.int .u8 0),.v (.int .i32 0),.v (.int .u8 224),.v (.int .u8 192),.v (.int .i32 128),.v (.int .u8 240),.v (.int .u8 224),.v (.int .i32 2048),.v (.int .u8 248),.v (.int .u8 240),.v (.int .i32 65536)]
theorem Qu: Tryz.prog.underlying 337=some (.array 4 336):=by kernel_rfl
theorem mw(n:Nat): ∀ c∈oI,c.lt n:=by simp[oI,AT.lt]
theorem UC(σ:al): bZ Tryz.prog 231 [] σ (fun v=>v=(SV.agg oI).den fy):=by
 refine bW Tryz.func231 Z Z trivial fun w=>?_
 refine Za ?_
 refine I5 TT Qu Z Z Z Z Z Z Z Z (Zr ?_)
 refine Zb ?_
 refine aw TT rfl fun β w' _ _=>?_
 rfl
def il (r:Int):Bool:=(decide (0<=r)&&decide (r<55296))||(decide (57343<r)&&decide (r<=1114111))
theorem UD(σ:al)(r:Int): bZ Tryz.prog 232 [.a (.v (.int .i32 r))] σ (fun v=>v=.bool (il r)):=by
 refine bW Tryz.func232 Z Z Zl fun w=>?_
 refine Za ?_
 refine ax 5 rfl (fun h=>?_) (fun h=>?_)<;>refine Zr ?_
 ·refine ax 9 rfl (fun h'=>?_) (fun h'=>?_)<;>refine Zr ?_
  ·refine Zb ?_
   refine aw TT rfl fun β w' _ _=>?_
   show Value.bool true=_
   rw[il,h,h']
   rfl
  ·refine ax 12 rfl (fun h2=>?_) (fun h2=>?_)<;>(refine Zr ?_)<;>refine Zb ?_
   ·refine aw TT rfl fun β w' _ _=>?_
    show Value.bool _=_
    rw[il,h,h',h2]
    rfl
   ·refine aw TT rfl fun β w' _ _=>?_
    show Value.bool _=_
    rw[il,h,h',h2]
    rfl
 ·refine ax 12 rfl (fun h2=>?_) (fun h2=>?_)<;>(refine Zr ?_)<;>refine Zb ?_
  ·refine aw TT rfl fun β w' _ _=>?_
   show Value.bool _=_
   rw[il,h,h2]
   rfl
  ·refine aw TT rfl fun β w' _ _=>?_
   show Value.bool _=_
   rw[il,h,h2]
   rfl
def xw:Int->List UInt8->Option Int
 | r,[]=>some r
 | r,c::l=>if lU .u8 c.toNat 192=128 then xw (bOr .i32 (Mn .i32 r 6) (IntKind.i32.wrap (lU .u8 c.toNat 63))) l else none
def fg (k:Nat):Int×Int×Int:=match k with
 | 0=>(128,0,0)
 | 1=>(224,192,128)
 | 2=>(240,224,2048)
 | _=>(248,240,65536)
def lH (l:List UInt8) (k:Nat) (u:UInt8):Int×Int :=
 match xw (IntKind.i32.wrap (mH .u8 u.toNat (fg k).1)) ((l.take (k+1)).drop 1) with
 | none=>(0,0)
 | some r=>if r<(fg k).2.2\/il r=false then (0,0) else (r,k+1)
def jS (l:List UInt8):Nat->Nat->Int×Int
 | 0,_=>(0,0)
 | n+1,k =>
  match l with
  | []=>(0,0)
  | u::_=>if l.length<=k\/lU .u8 u.toNat (fg k).1≠(fg k).2.1 then jS l n (k+1) else lH l k u
def iU (l:List UInt8):Int×Int:=jS l 4 0
def oE (l:List UInt8):List (List AT):=l.map fun u=>[.v (.int .u8 u.toNat)]
theorem oY{l:List UInt8}{i:Nat}{u:UInt8}(h:l[i]?=some u): (oE l)[i]?=some [.v (.int .u8 u.toNat)]:=by simp[oE,h]
theorem yi(l:List UInt8): qT (ju l)=oE l:=rfl
theorem zO(l:List UInt8)(a b:Nat): ((oE l).take b).drop a=oE ((l.take b).drop a):=by simp[oE,dG,dR]
theorem wg{l:List UInt8}{k:Nat}(hk:k<4)(h:l.length<=k\/∃ u,l[0]?=some u/\lU .u8 u.toNat (fg k).1≠(fg k).2.1): jS l (4 - k) k=jS l (4 - (k+1)) (k+1):=by
 rw[show 4 - k=(4 - (k+1))+1 by omega]
 cases l with
 | nil=>simp only[jS];cases 4 - (k+1)<;>rfl
 | cons u l =>
  simp only[jS]
  rw[au (h.imp id fun⟨v,hv,jv⟩=>by simp at hv;subst hv;exact jv)]
theorem Eg{l:List UInt8}{k:Nat}{u:UInt8}(hk:k<4)(hl:k<l.length)(hu:l[0]?=some u)(h:lU .u8 u.toNat (fg k).1=(fg k).2.1): jS l (4 - k) k=lH l k u:=by
 rw[show 4 - k=(4 - (k+1))+1 by omega]
 cases l with
 | nil=>simp at hl
 | cons v l =>
  simp at hu
  subst hu
  simp only[jS]
  rw[ai (by simp only[not_or,Nat.not_le,ne_eq,Decidable.not_not];exact⟨hl,h⟩)]
def MG (k:Nat):List AT:=[.v (.int .u8 (fg k).1),.v (.int .u8 (fg k).2.1),.v (.int .i32 (fg k).2.2)]
theorem Ii{k:Nat}(h:k<4): m3 oI (k*3) 3=some (MG k):=by
 match k,h with
 | 0,_=>rfl
 | 1,_=>rfl
 | 2,_=>rfl
 | 3,_=>rfl
theorem Xv: Tryz.prog.underlying 336=some (.struct (Tryz.prog.fieldsOf 336)):=by kernel_rfl
theorem Ts: Tryz.prog.cellsOf 336=3:=by kernel_rfl
theorem N9(σ:al)(ao:Option Addr)(cap:Nat)(l:List UInt8)(H:bu σ ao l.length cap 1 (oE l))(hl:l.length<=bJ):
  bZ Tryz.prog 199 [.a (.v (.slice ao l.length cap))] σ (fun v=>v=(SV.ik [.a (.v (.int .i32 (iU l).1)),.a (.v (.int .i64 (iU l).2))]).den fy):=by
 simp only[bJ] at hl
 refine bW Tryz.func199 Z Z Zl fun w=>?_
 refine Za ?_
 refine aT Z Z Z Z Z Tryz.call231 Zl (UC σ) fun v hv=>⟨.agg oI,mw 0,hv.symm,?_⟩
 refine Hz ?_
 refine bX (fun _=>σ) (fun(k:Nat)=>[(0,.a (.v (.slice ao l.length cap))),(9,.agg oI),(10,.a (.v (.int .i64 k)))]) (fun _=>[]) (fun _=>[]) 0
  (fun k=>k<=4/\jS l (4 - k) k=iU l) (fun k=>4 - k) 0 ⟨by omega,rfl⟩ rfl Zs Zs rfl ⟨trivial,mw 0,trivial,trivial⟩ trivial fun k ⟨hk,DV⟩=>?_
 refine Za ?_
 refine aG rfl (fun h=>?_) (fun h=>?_)
 ·have hk4:k<4:=by simp at h;omega
  refine Zd ?_
  refine Gt (MG k) 336 4 _ Qu Xv Z Z Z Z Z Z Z Zo Zo (by rw[show Tryz.prog.cellsOf 336=3 from Ts];exact Ii hk4) (Zr ?_)
  refine Za ?_
  refine ck [(0,.pure),(1,.pure),(2,.pure),(3,.pure),(4,.pure),(5,.pure),(6,.pure),(7,.quiet),(8,.pure),(9,.quiet),(10,.pure),(11,.pure),(12,.quiet),(13,.pure),(14,.pure)] mixed Zk (aM TT rfl ?_)
  refine ax 18 rfl (fun h=>?_) (fun h=>?_)
  ·refine pC ?_
   refine an (k+1) ⟨by omega,?_⟩ Zo rfl Zs Zs rfl ⟨trivial,mw 0,trivial,trivial⟩ trivial
   rw[<-DV]
   exact(wg hk4 (.inl (by simp at h;omega))).symm
  have cz:k<l.length:=by simp at h;omega
  obtain⟨u,hu⟩:∃ u,l[0]?=some u:=⟨l[0],aa Zo⟩
  refine Zr ?_
  refine bk TT Z Z Z Z Z Z Z Z Z H Zo (oY hu) (Zr ?_)
  refine Zg ?_
  refine aG rfl (fun h=>?_) (fun h=>?_)
  ·refine Zg ?_
   refine an (k+1) ⟨by omega,?_⟩ Zo rfl Zs Zs rfl ⟨trivial,mw 0,trivial,trivial⟩ trivial
   rw[<-DV]
   exact(wg hk4 (.inr ⟨u,hu,by simpa using h⟩)).symm
  have heq:lU .u8 u.toNat (fg k).1=(fg k).2.1:=by simpa using h
  rw[Eg hk4 cz hu heq] at DV
  refine Zc ?_
  refine ck [(0,.pure),(1,.pure),(2,.quiet),(3,.pure),(4,.quiet),(5,.pure),(6,.pure),(7,.pure)] mixed Zk (aM TT rfl ?_)
  refine bk TT Z Z Z Z Z Z Z Z Z H Zo (oY hu) (Zr ?_)
  refine Zg ?_
  have xZ:=H.pn
  refine dL (vl:=some (.int .i64 1)) (vh:=some (.int .i64 (k+1))) TT 1 (k+1) Z Z Z Z Z Z Z Z Z Z (.inr ⟨_,_,rfl,rfl⟩) (.inr ⟨_,_,rfl,rfl⟩) Zo Zo xZ ?_
  have Ht:=H.sub (l:=1) (k:=k+1) Zo Zo
  rw[zO] at Ht
  generalize Xc:(if cap=1 then ao else ao.map (·.add (1*1)))=iB at Ht
  generalize gS:cap - 1=dk at Ht
  generalize htl:(l.take (k+1)).drop 1=tl at Ht
  have aq4:tl.length=k:=by rw[<-htl];simp;omega
  rw[show k+1 - 1=k by omega] at Ht
  refine cr 39 (.a (.v (.slice iB k dk))) rfl trivial (fun β=>?_) (Zr ?_)
  ·rw[show k+1 - 1=k by omega]
  refine Zd ?_
  refine gC (fun _ _=>σ) (fun(i:Nat) (r:Int)=>[(0,.a (.v (.slice ao l.length cap))),(4,.a (.v (.int .i64 k))),(5,.a (.p 0 0)),(6,.a (.v (.int .i32 r))),(9,.agg oI),(10,.a (.v (.int .i64 k))),(39,.a (.v (.slice iB k dk))),(40,.a (.v (.int .i64 k))),(41,.a (.v (.int .i64 i)))])
   (fun _ _=>[(0,.loc 336,[.v (.int .u8 (fg k).1),.v (.int .u8 (fg k).2.1),.v (.int .i32 (fg k).2.2)])]) (fun _ _=>[]) 1
   (fun i r=>i<=k/\xw r (tl.drop i)=xw (IntKind.i32.wrap (mH .u8 u.toNat (fg k).1)) tl) (fun i _=>k - i) 0 (IntKind.i32.wrap (mH .u8 u.toNat (fg k).1)) ⟨by omega,rfl⟩ rfl Zs Zs rfl ⟨trivial,trivial,aj,trivial,mw 1,trivial,trivial,trivial,trivial,trivial⟩ Zl fun i r ⟨hi,VC⟩=>?_
  refine Za ?_
  refine aG rfl (fun h=>?_) (fun h=>?_)
  ·have KE:i<k:=by simp at h;omega
   obtain⟨c,hc⟩:∃ c,tl[i]?=some c:=⟨tl[i],aa Zo⟩
   have af2:tl.drop i=c::tl.drop (i+1):=by
    rw[aB Zo]
    rw[aa Zo] at hc
    injection hc with hc
    rw[hc]
   rw[af2] at VC
   simp only[xw] at VC
   refine Zd ?_
   refine bk TT Z Z Z Z Z Z Z Z Z Ht Zo (oY hc) (Zr ?_)
   refine Zg ?_
   refine aG rfl (fun h=>?_) (fun h=>?_)
   ·refine Zb ?_
    refine aw TT rfl fun β w' _ _=>?_
    have jv:lU .u8 c.toNat 192≠128:=by simpa using h
    rw[ai jv] at VC
    rw[<-DV,lH,htl,<-VC]
    rfl
   ·have heq:lU .u8 c.toNat 192=128:=by simpa using h
    rw[au heq] at VC
    refine Zg ?_
    refine an (i+1,bOr .i32 (Mn .i32 r 6) (IntKind.i32.wrap (lU .u8 c.toNat 63))) ⟨KE,VC⟩ (by dsimp only;omega) rfl Zs Zs rfl ⟨trivial,trivial,aj,trivial,mw 1,trivial,trivial,trivial,trivial,trivial⟩ Zl
  ·have KE:i=k:=by simp at h;omega
   rw[dO Zo] at VC
   simp only[xw] at VC
   refine Ze ?_
   have iZ:iU l=if r<(fg k).2.2\/il r=false then (0,0) else (r,(k:Int)+1):=by
    rw[<-DV,lH,htl,<-VC]
   refine ax 59 rfl (fun h=>?_) (fun h=>?_)
   ·refine gn ?_
    refine aw TT rfl fun β w' _ _=>?_
    rw[iZ,au (.inl (by simpa using h))]
    rfl
   refine Zr ?_
   refine aT Z Z Z Z Z Tryz.call232 Zl (UD σ r) fun v hv=>⟨.a (.b (il r)),trivial,hv.symm,?_⟩
   refine gX ?_
   refine aG rfl (fun h'=>?_) (fun h'=>?_)
   ·refine Zb ?_
    refine aw TT rfl fun β w' _ _=>?_
    rw[iZ,au (.inr (by simpa using h'))]
    rfl
   ·refine Zg ?_
    refine aw TT rfl fun β w' _ _=>?_
    rw[iZ,ai (by simp at h h';simp[h'];omega)]
    rfl
 ·refine Ze ?_
  refine aw TT rfl fun β w' _ _=>?_
  have:k=4:=by simp at h;omega
  subst this
  rw[<-DV]
  rfl
end Go.Sy
namespace Go.Sy
open Go.Proofs
theorem Qy(l:List UInt8)(k:Nat)(u:UInt8): 0<=(lH l k u).2/\(lH l k u).2<=k+1:=by
 unfold lH
 split
 ·simp;omega
 ·split<;>simp<;>omega
theorem CI(l:List UInt8): ∀(n k:Nat),0<=(jS l n k).2/\(jS l n k).2<=l.length
 | 0,k=>by simp[jS]
 | n+1,k=>by
  cases l with
  | nil=>simp[jS]
  | cons u l =>
   simp only[jS]
   split
   ·exact CI (u::l) n (k+1)
   ·rename_i h
    simp only[not_or] at h
    have:=Qy (u::l) k u
    omega
def nB (l:List UInt8):Nat->Nat->Int
 | 0,_ => -1
 | n+1,at_ =>
  if at_<l.length then
   if (iU (l.drop at_)).2=0 then at_ else nB l n (at_+(iU (l.drop at_)).2.toNat)
  else -1
def gh (l:List UInt8):Int:=nB l (l.length+1) 0
theorem BL(σ:al)(ao:Option Addr)(cap:Nat)(l:List UInt8)(H:bu σ ao l.length cap 1 (oE l))(hl:l.length<=bJ):
  bZ Tryz.prog 139 [.a (.v (.slice ao l.length cap))] σ (fun v=>v=.int .i64 (gh l)):=by
 have AS:=hl
 simp only[bJ] at AS
 refine bW Tryz.func139 Z Z Zl fun w=>?_
 refine Zd ?_
 refine gC (fun _ _=>σ) (fun(n:Nat) (k:Nat)=>[(0,.a (.v (.slice ao l.length cap))),(3,.a (.v (.int .i64 k)))]) (fun _ _=>[]) (fun _ _=>[]) 0
  (fun n k=>k<=l.length/\l.length - k<n/\nB l n k=gh l) (fun n k=>l.length - k) (l.length+1) 0 ⟨by omega,by omega,rfl⟩ rfl Zs Zs rfl Zl Zl fun n k ⟨hk,hn,DV⟩=>?_
 refine Za ?_
 refine aG rfl (fun h=>?_) (fun h=>?_)
 ·have cz:k<l.length:=by simp at h;omega
  refine Zd ?_
  have xZ:=H.pn
  refine dL (vl:=some (.int .i64 k)) (vh:=none) TT k l.length Z Z Z Z Z Z Z Z Z Z (.inr ⟨_,_,rfl,rfl⟩) (.inl ⟨rfl,rfl⟩) Zo xZ xZ ?_
  have Ht:=H.sub (l:=k) (k:=l.length) Zo Zo
  rw[zO,aI] at Ht
  generalize Xc:(if cap=k then ao else ao.map (·.add (k*1)))=iB at Ht
  generalize gS:cap - k=dk at Ht
  have DW:(l.drop k).length=l.length - k:=bm
  rw[<-DW] at Ht
  refine cr 13 (.a (.v (.slice iB (l.drop k).length dk))) rfl trivial (fun β=>?_) (Zr ?_)
  ·rw[DW]
  refine aT Z Z Z Z Z Tryz.call199 Zl (N9 σ iB dk (l.drop k) Ht (by rw[DW];simp only[bJ];omega)) fun v hv=>⟨_,by (repeat' (first | exact trivial | exact bh rfl | exact dF _ _ _ _ _ _ | exact dw _ _ | refine kz.of ?_ | refine SV.iv ?_ | exact SV.ez | exact AT.ez | exact eQ.qv (by assumption) | constructor)),hv.symm,?_⟩
  refine gX ?_
  have hb:0<=(iU (l.drop k)).2/\(iU (l.drop k)).2<=(l.drop k).length:=CI (l.drop k) 4 0
  obtain⟨m,rfl⟩:∃ m,n=m+1:=⟨n - 1,by omega⟩
  rw[nB,au cz] at DV
  refine aG rfl (fun h=>?_) (fun h=>?_)
  ·refine Zb ?_
   refine aw TT rfl fun β w' _ _=>?_
   rw[au (by simpa using h)] at DV
   rw[<-DV]
   rfl
  ·have h0:(iU (l.drop k)).2≠0:=by simpa using h
   rw[ai h0] at DV
   refine Zc ?_
   have he:(k:Int)+(iU (l.drop k)).2=((k+(iU (l.drop k)).2.toNat:Nat):Int):=by omega
   rw[he]
   refine an (m,k+(iU (l.drop k)).2.toNat) ⟨?_,?_,DV⟩ ?_ rfl Zs Zs rfl Zl Zl<;>(dsimp only;omega)
 ·have cz:¬ k<l.length:=by simp at h;omega
  obtain⟨m,rfl⟩:∃ m,n=m+1:=⟨n - 1,by omega⟩
  rw[nB,ai cz] at DV
  refine Ze ?_
  refine aw TT rfl fun β w' _ _=>?_
  rw[<-DV]
  rfl
end Go.Sy
namespace Go.Sy
open Go.Proofs
theorem zh{n:Nat}{k:ByteArray}{r:List AT}(h:∀ c∈r,c.lt n): ∀ c∈qJ k r,c.lt n:=by
 intro c hc
 rcases bM.1 hc with rfl | hc
 ·trivial
 ·exact h c hc
def nu (k:ByteArray):Bool:=decide (gh k.data.toList<0)
theorem Pu(σ:al)(k:ByteArray)(r:List AT)(hk:k.size<=bJ)(hr:r.length=8/\∀ c∈r,c.lt 0):
  bZ Tryz.prog 230 [.agg (qJ k r)] σ (fun v=>v=.bool (!nu k)):=by
 obtain⟨hr8,P9⟩:=hr
 obtain⟨l,rfl⟩:=oS k
 have jZ:=gB l
 match r,hr8,P9 with
 | [a0,a1,a2,a3,a4,a5,a6,a7],_,P9 =>
 have bU:∀ c∈qJ (ju l) [a0,a1,a2,a3,a4,a5,a6,a7],c.lt 0:=by
  intro c hc
  rcases bM.1 hc with rfl | hc
  ·trivial
  ·exact P9 c hc
 refine bW Tryz.func230 Z Z ⟨bU,trivial⟩ fun w=>?_
 refine Za ?_
 refine uD (y:=ju l) TT Z Z Z Z Z Z Z Z Z Z Z fun ao cap bD hle H=>?_
 rw[jZ,yi] at H
 refine cr 5 (.a (.v (.slice ao l.length cap))) rfl trivial (fun β=>by rw[jZ]) (Zr ?_)
 refine aT Z Z Z Z Z Tryz.call139 Zl (BL bD ao cap l H (by rw[<-jZ];exact hk)) fun v hv=>⟨.a (.v (.int .i64 (gh l))),trivial,hv.symm,?_⟩
 refine gn ?_
 refine aw TT rfl fun β w' _ _=>?_
 show Value.bool _=_
 congr 1
 simp only[nu,jr]
 rw[cg]
 by_cases h:gh l<0
 ·first | (simp[h];done) | (simp[h];omega)
 ·first | (simp[h];done) | (simp[h];omega)
def tP:List ByteArray->Nat->Int
 | [],_ => -1
 | k::ks,i=>if nu k then tP ks (i+1) else i
theorem Az: ∀(ks:List ByteArray) (i:Nat),(0<=tP ks i)↔ks.all nu=false
 | [],i=>by simp[tP]
 | k::ks,i=>by
  simp only[tP,List.all_cons]
  split
  ·rename_i h;rw[Az ks (i+1),h,cp]
  ·rename_i h;simp[h]
theorem LG(σ:al)(g:aJ)(la:Option Addr)(lc:Nat)(fG:List (List AT))(ma:Option Addr)(mc:Nat)(ft:List (List AT))(V:PQ σ g la lc fG ma mc ft):
  bZ Tryz.prog 246 [.a (.v (.slice ma g.ks.length mc)),.a (.fn (.func 230) [])] σ (fun v=>v=.int .i64 (tP g.ks 0)):=by
 have cz:=V.kl
 simp only[bJ] at cz
 refine bW Tryz.func246 Z Z Zl fun w=>?_
 refine Zd ?_
 refine bX (fun _=>σ) (fun(k:Nat)=>[(0,.a (.v (.slice ma g.ks.length mc))),(1,.a (.fn (.func 230) [])),(7,.a (.v (.int .i64 g.ks.length))),(8,.a (.v (.int .i64 k)))]) (fun _=>[]) (fun _=>[]) 0
  (fun k=>k<=g.ks.length/\tP (g.ks.drop k) k=tP g.ks 0) (fun k=>g.ks.length - k) 0 ⟨ay _,rfl⟩ rfl Zs Zs rfl Zl Zl fun k ⟨hk,Ew⟩=>?_
 refine Za ?_
 refine aG rfl (fun h=>?_) (fun h=>?_)
 ·have kW:k<g.ks.length:=by simpa using h
  obtain⟨r,um,xh⟩:=V.v.get (aa (l:=g.vs) (i:=k) (by have:=V.kv;omega))
  have bU:=ia (aa kW) um
  have hkk:=V.kk _ (aP kW)
  have hr8:=xh.len
  have zj:=xh.qv
  rw[aB kW,tP] at Ew
  refine Zd ?_
  match r,hr8,zj,bU with
  | [a0,a1,a2,a3,a4,a5,a6,a7],hr8,zj,bU =>
  refine bk TT Z Z Z Z Z Z Z Z Z V.M Zo bU (Zr ?_)
  refine Za ?_
  refine aT Z Z Z Z Z Tryz.call230 ⟨zh zj,trivial⟩ (Pu σ g.ks[k] [a0,a1,a2,a3,a4,a5,a6,a7] hkk ⟨rfl,zj⟩) fun v hv=>⟨.a (.b (!nu g.ks[k])),trivial,hv.symm,?_⟩
  refine gX ?_
  refine aG rfl (fun h=>?_) (fun h=>?_)
  ·refine Zb ?_
   refine aw TT rfl fun β w' _ _=>?_
   rw[ai (by simpa using h)] at Ew
   rw[<-Ew]
   rfl
  ·rw[au (by simpa using h)] at Ew
   refine Zc ?_
   refine an (k+1) ⟨kW,Ew⟩ Zo rfl Zs Zs rfl Zl Zl
 ·have fQ:k=g.ks.length:=by simp at h;omega
  subst fQ
  rw[bC] at Ew
  refine Ze ?_
  refine aw TT rfl fun β w' _ _=>?_
  rw[<-Ew]
  rfl
theorem Ez(σ:al)(g:aJ)(la:Option Addr)(lc:Nat)(fG:List (List AT))(ma:Option Addr)(mc:Nat)(ft:List (List AT))(V:PQ σ g la lc fG ma mc ft):
  bZ Tryz.prog 229 [.a (.v (.slice ma g.ks.length mc)),.a (.fn (.func 230) [])] σ (fun v=>v=.bool (!g.ks.all nu)):=by
 refine bW Tryz.func229 Z Z Zl fun w=>?_
 refine Za ?_
 refine aT Z Z Z Z Z Tryz.call246 Zl (LG σ g la lc fG ma mc ft V) fun v hv=>⟨.a (.v (.int .i64 (tP g.ks 0))),trivial,hv.symm,?_⟩
 refine gn ?_
 refine aw TT rfl fun β w' _ _=>?_
 show Value.bool _=_
 congr 1
 have:=Az g.ks 0
 rw[cg]
 simp only[aX,this,iE]
def bF:ByteArray:=⟨#[]⟩
def fU (g:aJ):Bool :=
 let b:=!g.b
 let n:=decide (g.n=fA)
 let s:=decide (g.s=bF)
 let l:=decide (g.l.length=0)
 let m:=decide (g.ks.length=0)
 if g.kind=0 then b&&n&&s&&l&&m
 else if g.kind=1 then n&&s&&l&&m
 else if g.kind=2 then dv g.n&&b&&s&&l&&m
 else if g.kind=3 then decide (gh g.s.data.toList<0)&&b&&n&&l&&m
 else if g.kind=4 then b&&n&&s&&m
 else if g.kind=5 then g.ks.all nu&&b&&n&&s&&l
 else false
theorem vJ(a b:Nat): decide (a+b=0)=(decide (a=0)&&decide (b=0)):=by rw[cg];simp
theorem zE{g:aJ}(h:g.kind=0): fU g=(!g.b&&decide (g.n=fA)&&decide (g.s=bF)&&decide (g.l.length=0)&&decide (g.ks.length=0)):=by simp only[fU,au h]
theorem zD{g:aJ}(h:g.kind=1): fU g=(decide (g.n=fA)&&decide (g.s=bF)&&decide (g.l.length=0)&&decide (g.ks.length=0)):=by
 unfold fU;rw[ai Zo,au h]
theorem zC{g:aJ}(h:g.kind=2): fU g=(dv g.n&&!g.b&&decide (g.s=bF)&&decide (g.l.length=0)&&decide (g.ks.length=0)):=by
 unfold fU;rw[ai Zo,ai Zo,au h]
theorem zB{g:aJ}(h:g.kind=3): fU g=(decide (gh g.s.data.toList<0)&&!g.b&&decide (g.n=fA)&&decide (g.l.length=0)&&decide (g.ks.length=0)):=by
 unfold fU;rw[ai Zo,ai Zo,ai Zo,au h]
theorem zA{g:aJ}(h:g.kind=4): fU g=(!g.b&&decide (g.n=fA)&&decide (g.s=bF)&&decide (g.ks.length=0)):=by
 unfold fU;rw[ai Zo,ai Zo,ai Zo,ai Zo,au h]
theorem zz{g:aJ}(h:g.kind=5): fU g=(g.ks.all nu&&!g.b&&decide (g.n=fA)&&decide (g.s=bF)&&decide (g.l.length=0)):=by
 unfold fU;rw[ai Zo,ai Zo,ai Zo,ai Zo,ai Zo,au h]
theorem zy{g:aJ}(h0:g.kind≠0)(h1:g.kind≠1)(h2:g.kind≠2)(h3:g.kind≠3)(h4:g.kind≠4)(h5:g.kind≠5): fU g=false:=by
 unfold fU;rw[ai h0,ai h1,ai h2,ai h3,ai h4,ai h5]
structure TM where
 σ:al
 ok:Bool
 b:Bool
 n:oh
 s:ByteArray
 la:Option Addr
 ll:Nat
 lc:Nat
 ma:Option Addr
 ml:Nat
 mc:Nat
def nq (k:Int) (x:TM):List AT:=[.v (.int .i64 k),.b x.b,.b x.n.neg,.v (.string x.n.dg),.v (.int .i64 x.n.ex),.v (.string x.s),.v (.slice x.la x.ll x.lc),.v (.slice x.ma x.ml x.mc)]
theorem nP(n:Nat)(k:Int)(x:TM): ∀ c∈nq k x,c.lt n:=by simp[nq,AT.lt]
theorem SY(σ:al)(g:aJ)(r:List AT)(hr:eQ σ g r):
  bZ Tryz.prog 197 [.agg r] σ (fun v=>v=.bool (fU g)):=by
 obtain⟨la,lc,fG,ma,mc,ft,rfl,V⟩:=hr.open
 have Np:=V.ll
 have cz:=V.kl
 simp only[bJ] at cz Np
 refine bW Tryz.func197 Z Z Zl fun w=>?_
 refine Zd ?_
 refine fm (fun(x:TM)=>x.σ) (fun x=>[(4,.a (.b x.ok)),(3,.a (.p 1 0))]) (fun x=>[(1,.loc 28,nq g.kind x)]) (fun _=>[]) 2
  (fun x=>(x.ok&&!x.b&&decide (x.n=fA)&&decide (x.s=bF)&&decide (x.ll+x.ml=0))=fU g/\x.ll+x.ml<=1000000000000000) ?_ (fun x ⟨hx,hxm⟩=>?_)
 ·refine aG rfl (fun h=>?_) (fun h=>?_)
  ·have h0:g.kind=0:=by simpa using h
   refine Zc ?_
   refine gu 4 (.a (.b true)) rfl trivial (fun _=>rfl) ?_
   refine an ⟨σ,true,g.b,g.n,g.s,la,g.l.length,lc,ma,g.ks.length,mc⟩ ⟨?_,by dsimp only;omega⟩ aj rfl Zs Zs rfl Zl Zl
   rw[zE h0,vJ]
   simp only[cp,Bool.and_assoc]
  have h0:g.kind≠0:=by simpa using h
  refine Za ?_
  refine aG rfl (fun h=>?_) (fun h=>?_)
  ·have h1:g.kind=1:=by simpa using h
   refine Zc ?_
   refine gu 4 (.a (.b true)) rfl trivial (fun _=>rfl) ?_
   refine qq 1 (nq g.kind ⟨σ,true,false,g.n,g.s,la,g.l.length,lc,ma,g.ks.length,mc⟩) rfl (fun _=>rfl) (nP _ _ _) ?_
   refine an ⟨σ,true,false,g.n,g.s,la,g.l.length,lc,ma,g.ks.length,mc⟩ ⟨?_,by dsimp only;omega⟩ aj rfl Zs Zs rfl Zl Zl
   rw[zD h1,vJ]
   simp only[cp,Bool.not_false,Bool.and_assoc]
  have h1:g.kind≠1:=by simpa using h
  refine Za ?_
  refine aG rfl (fun h=>?_) (fun h=>?_)
  ·have h2:g.kind=2:=by simpa using h
   refine Za ?_
   refine aT Z Z Z Z Z Tryz.call228 Zl (FH σ g.n V.dg) fun v hv=>⟨.a (.b (dv g.n)),trivial,hv.symm,?_⟩
   refine lP ?_
   refine qq 1 (nq g.kind ⟨σ,dv g.n,g.b,fA,g.s,la,g.l.length,lc,ma,g.ks.length,mc⟩) rfl (fun _=>rfl) (nP _ _ _) ?_
   refine an ⟨σ,dv g.n,g.b,fA,g.s,la,g.l.length,lc,ma,g.ks.length,mc⟩ ⟨?_,by dsimp only;omega⟩ aj rfl Zs Zs rfl Zl Zl
   rw[zC h2,vJ]
   simp only[decide_true,mh,Bool.and_assoc]
  have h2:g.kind≠2:=by simpa using h
  refine Za ?_
  refine aG rfl (fun h=>?_) (fun h=>?_)
  ·have h3:g.kind=3:=by simpa using h
   obtain⟨sl,pv⟩:=oS g.s
   have jZ:=gB sl
   have hs:=V.s
   refine Za ?_
   refine uD (y:=g.s) TT Z Z Z Z Z Z Z Z Z Z Z fun ao cap bD hle H=>?_
   rw[pv,jZ,yi] at H
   refine cr 25 (.a (.v (.slice ao sl.length cap))) rfl trivial (fun β=>by rw[pv,jZ]) (Zr ?_)
   refine aT Z Z Z Z Z Tryz.call139 Zl (BL bD ao cap sl H (by rw[<-jZ,<-pv];exact hs)) fun v hv=>⟨.a (.v (.int .i64 (gh sl))),trivial,hv.symm,?_⟩
   refine lP ?_
   refine qq 1 (nq g.kind ⟨bD,decide (gh sl<0),g.b,g.n,bF,la,g.l.length,lc,ma,g.ks.length,mc⟩) rfl (fun _=>rfl) (nP _ _ _) ?_
   refine an ⟨bD,decide (gh sl<0),g.b,g.n,bF,la,g.l.length,lc,ma,g.ks.length,mc⟩ ⟨?_,by dsimp only;omega⟩ aj rfl Zs Zs rfl Zl Zl
   rw[zB h3,vJ,pv]
   simp only[jr,decide_true,mh,Bool.and_assoc]
   congr
  have h3:g.kind≠3:=by simpa using h
  refine Za ?_
  refine aG rfl (fun h=>?_) (fun h=>?_)
  ·have h4:g.kind=4:=by simpa using h
   refine Zc ?_
   refine gu 4 (.a (.b true)) rfl trivial (fun _=>rfl) ?_
   refine qq 1 (nq g.kind ⟨σ,true,g.b,g.n,g.s,none,0,0,ma,g.ks.length,mc⟩) rfl (fun _=>rfl) (nP _ _ _) ?_
   refine an ⟨σ,true,g.b,g.n,g.s,none,0,0,ma,g.ks.length,mc⟩ ⟨?_,by dsimp only;omega⟩ aj rfl Zs Zs rfl Zl Zl
   rw[zA h4,vJ]
   simp only[decide_true,cp,Bool.and_assoc]
  have h4:g.kind≠4:=by simpa using h
  refine Za ?_
  refine aG rfl (fun h=>?_) (fun h=>?_)
  ·have h5:g.kind=5:=by simpa using h
   refine Za ?_
   refine aT Z Z Z Z Z Tryz.call229 Zl (Ez σ g la lc fG ma mc ft V) fun v hv=>⟨.a (.b (!g.ks.all nu)),trivial,hv.symm,?_⟩
   refine lP ?_
   refine qq 1 (nq g.kind ⟨σ,!!g.ks.all nu,g.b,g.n,g.s,la,g.l.length,lc,none,0,0⟩) rfl (fun _=>rfl) (nP _ _ _) ?_
   refine an ⟨σ,!!g.ks.all nu,g.b,g.n,g.s,la,g.l.length,lc,none,0,0⟩ ⟨?_,by dsimp only;omega⟩ aj rfl Zs Zs rfl Zl Zl
   rw[zz h5,vJ]
   simp only[Bool.not_not,decide_true,mh,Bool.and_assoc]
  have h5:g.kind≠5:=by simpa using h
  refine Zb ?_
  refine aw TT rfl fun β w' _ _=>?_
  rw[zy h0 h1 h2 h3 h4 h5]
  rfl
 ·refine Za ?_
  refine ax 39 rfl (fun h=>?_) (fun h=>?_)
  rotate_left
  ·refine gn ?_
   refine aw TT rfl fun β w' _ _=>?_
   rw[<-hx,h]
   rfl
  rw[h,cp] at hx
  refine Zr ?_
  refine ax 44 rfl (fun h=>?_) (fun h=>?_)
  rotate_left
  ·refine gn ?_
   refine aw TT rfl fun β w' _ _=>?_
   rw[<-hx,h]
   rfl
  rw[h,cp] at hx
  refine Zr ?_
  refine I3 x.n fA Z Z Z Z Z Z Z (fun _=>rfl) (fun _=>rfl) (Zr ?_)
  refine ax 50 rfl (fun h=>?_) (fun h=>?_)
  rotate_left
  ·refine gn ?_
   refine aw TT rfl fun β w' _ _=>?_
   rw[<-hx,h]
   rfl
  rw[h,cp] at hx
  refine Zr ?_
  refine ax 55 rfl (fun h=>?_) (fun h=>?_)
  rotate_left
  ·refine gn ?_
   refine aw TT rfl fun β w' _ _=>?_
   have h:decide (x.s=bF)=false:=h
   rw[<-hx,h]
   rfl
  have h:decide (x.s=bF)=true:=h
  rw[h,cp] at hx
  refine pC ?_
  refine aw TT rfl fun β w' _ _=>?_
  show Value.bool _=_
  rw[<-hx]
  congr 1
  rw[cg]
  simp only[aX]
  omega
end Go.Sy
namespace Go.Sy
open Go.Proofs
theorem PQ.k6{σ bD:al}{g:aJ}{la:Option Addr}{lc:Nat}{fG:List (List AT)}{ma:Option Addr}{mc:Nat}{ft:List (List AT)}(h:PQ σ g la lc fG ma mc ft)(hc:σ.Bw bD): PQ bD g la lc fG ma mc ft :=
 ⟨h.L.k6 hc,fJ.k6 hc h.l,h.kv,h.M.k6 hc,fJ.k6 hc h.v,h.dg,h.s,h.ll,h.kl,h.kk⟩
def jT:List ByteArray->ByteArray->Bool
 | [],_=>false
 | x::l,k=>decide (x=k)||jT l k
theorem wm: ∀(a b:List ByteArray) (k:ByteArray),jT (a++b) k=(jT a k||jT b k)
 | [],b,k=>by simp[jT]
 | x::a,b,k=>by simp only[aZ,jT,wm a b k,Bool.or_assoc]
theorem tF: ∀ {l:List ByteArray} {k:ByteArray},jT l k=true↔k∈l
 | [],k=>by simp[jT]
 | x::l,k=>by
  simp only[jT,jx,aX,tF (l:=l),bM]
  exact⟨fun h=>h.imp Eq.symm id,fun h=>h.imp Eq.symm id⟩
def mv (met:List ByteArray):List ByteArray->Bool
 | []=>false
 | k::ks=>if jT met k then true else mv (met++[k]) ks
def pG (ks:List ByteArray):Bool:=mv [] ks
def q7 (l:List ByteArray):List (ByteArray×Value):=l.map fun k=>(k,Value.bool true)
theorem Jg: ∀(l:List ByteArray) (k:ByteArray) (i:Nat),(mix (q7 l) k i).map (·.2)=if jT l k then some (Value.bool true) else none
 | [],k,i=>by simp[q7,mix,jT]
 | x::l,k,i=>by
  have ih:=Jg l k (i+1)
  simp only[q7,bx,mix,jT] at ih ⊢
  by_cases h:x=k
  ·simp[h]
  ·rw[ai h,ih]
   simp[h]
theorem Lo(l:List ByteArray)(k:ByteArray): rp (q7 l) k=if jT l k then some (Value.bool true) else none:=Jg l k 0
theorem OQ{l:List ByteArray}{k:ByteArray}(h:jT l k=false): xO (q7 l) k (.bool true)=q7 (l++[k]):=by
 rw[CK]
 ·simp[q7]
 ·intro p hp
  obtain⟨x,hx,rfl⟩:=bL.1 hp
  intro e
  have e:x=k:=e
  rw[e] at hx
  rw[tF.2 hx] at h
  cases h
theorem Qv: Tryz.prog.underlying 334=some (.map 9 4):=by kernel_rfl
theorem Oq{P:Program}{t:TypeId}{z:Value}(h:(P.info? t).map (·.zero)=some (some z))(w:World): (zeroValue t).run P w=.ok z w:=by
 cases hi:P.info? t with
 | none=>rw[hi] at h;cases h
 | some i =>
  rw[hi] at h
  injection h with h
  exact pg hi h w
theorem Wx(w:World): (zeroValue 4).run Tryz.prog w=.ok (.bool false) w:=Oq Zk w
theorem fJ.rows{σ:al}: ∀ {gs:List aJ} {rs:List (List AT)},fJ σ gs rs->∀ r∈rs,r.length=8/\(∀ c∈r,c.lt 0)/\r.all AT.one=true
 | [],rs,h,r,hr=>by simp only[fJ] at h;subst h;cases hr
 | g::gs,rs,h,r,hr=>by
  simp only[fJ] at h
  obtain⟨r0,IB,rfl,h2,h3⟩:=h
  rcases bM.1 hr with rfl | hr
  ·exact⟨h2.len,h2.qv,h2.one⟩
  ·exact fJ.rows h3 r hr
theorem Uv(σ:al)(g:aJ)(la:Option Addr)(lc:Nat)(fG:List (List AT))(ma:Option Addr)(mc:Nat)(ft:List (List AT))(V:PQ σ g la lc fG ma mc ft):
  bZ Tryz.prog 198 [.a (.v (.slice ma g.ks.length mc))] σ (fun v=>v=.bool (pG g.ks)):=by
 have cz:=V.kl
 simp only[bJ] at cz
 refine bW Tryz.func198 Z Z Zl fun w=>?_
 refine Za ?_
 refine CE Value.string Z Z Z Z Z fun b lQ hb hle hM=>aM TT rfl ?_
 refine Zd ?_
 refine gC (fun(s:al) (_:Nat)=>s) (fun _ (k:Nat)=>[(3,.a (.v (.map (some b)))),(7,.a (.v (.slice ma g.ks.length mc))),(8,.a (.v (.int .i64 g.ks.length))),(9,.a (.v (.int .i64 k)))]) (fun _ _=>[]) (fun _ _=>[]) 0
  (fun s k=>k<=g.ks.length/\σ.Bw s/\rH Value.string s b (q7 (g.ks.take k))/\mv (g.ks.take k) (g.ks.drop k)=pG g.ks) (fun _ k=>g.ks.length - k) lQ 0 ⟨ay _,hle.Bw,hM,rfl⟩ rfl Zs Zs rfl Zl Zl fun s k ⟨hk,hs,hM,Yc⟩=>?_
 refine Za ?_
 refine aG rfl (fun h=>?_) (fun h=>?_)
 ·have kW:k<g.ks.length:=by simpa using h
  have V:=V.k6 hs
  obtain⟨r,um,xh⟩:=V.v.get (aa (l:=g.vs) (i:=k) (by have:=V.kv;omega))
  have bU:=ia (aa kW) um
  obtain⟨Lx,Lw,pI,Ls,Lp,pE,rfl,V'⟩:=xh.open
  rw[aB kW,mv] at Yc
  refine Zd ?_
  refine bk TT Z Z Z Z Z Z Z Z Z V.M Zo bU (Zr ?_)
  refine Za ?_
  refine Fa (y:=.a (.b (jT (g.ks.take k) g.ks[k]))) (kk:=g.ks[k]) (z:=.bool false) (BR rfl) Qv D5 Wx Z Z Z Z Z Z ⟨_,rfl,fun _=>rfl⟩ hM trivial ?_ (Zr ?_)
  ·rw[Lo]
   cases jT (g.ks.take k) g.ks[k]<;>rfl
  refine Za ?_
  refine aG rfl (fun h=>?_) (fun h=>?_)
  ·refine Zb ?_
   refine aw TT rfl fun β w' _ _=>?_
   rw[au h] at Yc
   rw[<-Yc]
   rfl
  ·have hm:jT (g.ks.take k) g.ks[k]=false:=h
   rw[ai (by simp[hm])] at Yc
   refine Zc ?_
   refine xL (kk:=g.ks[k]) (vv:=.bool true) (BR rfl) Qv D5 Z Z Z Z Z ⟨_,rfl,fun _=>rfl⟩ ⟨_,rfl,fun _=>rfl⟩ hM (al.l7 (al.le_refl _) hb) fun s' Vt _ YT=>aM TT rfl ?_
   refine Zc ?_
   rw[OQ hm] at YT
   refine an (s',k+1) ⟨kW,al.FO hs Vt,?_,?_⟩ (by dsimp only;omega) rfl Zs Zs rfl Zl Zl
   ·rw[ak kW];exact YT
   ·rw[ak kW];exact Yc
 ·have fQ:k=g.ks.length:=by simp at h;omega
  subst fQ
  rw[bC] at Yc
  refine Ze ?_
  refine aw TT rfl fun β w' _ _=>?_
  rw[<-Yc]
  rfl
theorem Tm(σ:al)(ao:Option Addr)(n cap:Nat)(rows:List (List AT))(H:bu σ ao n cap 8 rows)(hn:n<=1000000)(mU:∀ r∈rows,r.all AT.one=true):
  pV Tryz.prog 178 [.a (.v (.slice ao n cap))] σ [] (fun v _ A'=>∃ iB dk,v=.slice iB n dk/\n<=dk/\A'=[⟨iB,n,dk,28,8,rows.flatten.map AT.val⟩]):=by
 refine fk Tryz.func178 Z Z Zl fun w=>?_
 refine Zg ?_
 refine aG rfl (fun h=>?_) (fun h=>?_)
 ·have h0:ao=none:=by simpa using h
  have Hu:n=0:=by
   rcases H.at_ with h1 | ⟨ad,h1,_⟩
   ·exact h1
   ·rw[h0] at h1;cases h1
  subst Hu
  have hr:rows=[]:=by have:=H.len;exact aY this
  subst hr
  refine Zb ?_
  refine kg 28 8 ?_
  refine dq TT rfl fun β w' _ _=>?_
  exact⟨none,0,rfl,aq _,rfl⟩
 refine Zc ?_
 refine gP 0 0 8 rfl Zl rfl (by decide) fun gb=>?_
 refine dC TT 0 Z Z Z Z Z Z Z H Z Z Z Z Z Z Z Z Z mU Zo (by show(0+n)*112<=_;omega) fun iB dk gS=>aM TT rfl ?_
 refine Zb ?_
 refine dq TT rfl fun β w' _ _=>?_
 refine⟨iB,dk,by show Value.slice iB (0+n) dk=_;rw[cG],by omega,?_⟩
 show [_]=[_]
 rw[cG]
 rfl
theorem R5(σ:al)(g:aJ)(la:Option Addr)(lc:Nat)(fG:List (List AT))(ma:Option Addr)(mc:Nat)(ft:List (List AT))(V:PQ σ g la lc fG ma mc ft)(hn:g.l.length+g.ks.length<=1000000):
  fa Tryz.prog 115 [.agg (dN g la lc ma mc)] σ (fun v bD=>∃ ao cap,v=.slice ao (g.l.length+g.ks.length) cap/\bu bD ao (g.l.length+g.ks.length) cap 8 (fG++ft)):=by
 have Np:=V.l.len
 have WR:=V.ah8
 refine ek Tryz.func115 Z Z Zl fun w=>?_
 refine Za ?_
 refine dT [] (A0:=[]) (Ar:=[]) Z Z Z Z Z Z Z Tryz.call178 (by (repeat' (first | exact trivial | exact bh rfl | exact dF _ _ _ _ _ _ | exact dw _ _ | refine kz.of ?_ | refine SV.iv ?_ | exact SV.ez | exact AT.ez | exact eQ.qv (by assumption) | constructor))) (Tm σ la g.l.length lc fG V.L Zo fun r hr=>(V.l.rows r hr).2.2) fun v lQ A1 hle ⟨ao,cap,hv,mC,hA⟩=>⟨.a (.v (.slice ao g.l.length cap)),trivial,hv.symm,?_⟩
 subst hA
 have V:=V.k6 hle.Bw
 refine Hz ?_
 refine gC (fun _ _=>lQ) (fun(k:Nat) (p:Option Addr×Nat)=>[(3,.a (.v (.slice p.1 (g.l.length+k) p.2))),(10,.a (.v (.slice ma g.ks.length mc))),(11,.a (.v (.int .i64 g.ks.length))),(12,.a (.v (.int .i64 k)))]) (fun _ _=>[])
  (fun k p=>[⟨p.1,g.l.length+k,p.2,28,8,(fG++ft.take k).flatten.map AT.val⟩]) 0
  (fun k p=>k<=g.ks.length/\g.l.length+k<=p.2) (fun k _=>g.ks.length - k) 0 (ao,cap) ⟨ay _,mC⟩ rfl Zs Zs (by simp) Zl Zl fun k p ⟨hk,hkc⟩=>?_
 refine Za ?_
 refine aG rfl (fun h=>?_) (fun h=>?_)
 ·have kW:k<g.ks.length:=by simpa using h
  obtain⟨r,um,xh⟩:=V.v.get (aa (l:=g.vs) (i:=k) (by have:=V.kv;omega))
  have bU:=ia (aa kW) um
  obtain⟨Lx,Lw,pI,Ls,Lp,pE,rfl,V'⟩:=xh.open
  refine Zd ?_
  refine bk TT Z Z Z Z Z Z Z Z Z V.M Zo bU (Zr ?_)
  refine Za ?_
  refine bl TT 0 Z Z Z Z Z Z Z Z Z Z Z Z Z Z Z Z Z Z Zl rfl Zo (by show(g.l.length+k+1)*112<=_;omega) fun iB dk gS=>aM TT rfl ?_
  refine Zc ?_
  refine an (k+1,iB,dk) ⟨kW,gS⟩ (by dsimp only;omega) rfl Zs Zs ?_ Zl Zl
  show [_]=[_]
  have e:ft.take (k+1)=ft.take k++[dN (g.vs[k]'(by have:=V.kv;omega)) Lx Lw Ls Lp]:=by
   rw[ak Zo]
   congr 2
   exact(ah.1 um).2
  rw[e]
  simp only[fj,aF,dx,List.flatten_nil,aL,av]
  rfl
 ·have fQ:k=g.ks.length:=by simp at h;omega
  subst fQ
  refine Ze ?_
  refine dD 0 Z Z fun bD nY hS=>?_
  refine aw TT rfl fun β w' _ _=>?_
  refine⟨p.1,p.2,rfl,?_⟩
  refine hS.sl (rows:=fG++ft) ?_ (fun r hr=>?_) (by rw[af];omega) rfl hkc
  ·rw[<-WR,aI]
  ·rcases bz.1 hr with hr | hr
   ·exact⟨(V.l.rows r hr).1,(V.l.rows r hr).2.1⟩
   ·exact⟨(V.v.rows r hr).1,(V.v.rows r hr).2.1⟩
end Go.Sy
namespace Go.Sy
open Go.Proofs
mutual
def fW:aJ->Int->Int->Int×Int
 | .mk k b n s l ks vs,deep,c =>
  if fU (.mk k b n s l ks vs)=false then (1,c+1)
  else if pG ks=true then (7,c+1)
  else if 4<=k/\64<=deep then (3,c+1)
  else if 4096<c+1 then (4,c+1)
  else if (gI l deep (c+1)).1≠0 then gI l deep (c+1) else gI vs deep (gI l deep (c+1)).2
def gI:List aJ->Int->Int->Int×Int
 | [],_,c=>(0,c)
 | g::gs,deep,c=>if (fW g (deep+1) c).1≠0 then fW g (deep+1) c else gI gs deep (fW g (deep+1) c).2
end
theorem xz: ∀(a b:List aJ) (deep c:Int),gI (a++b) deep c=if (gI a deep c).1≠0 then gI a deep c else gI b deep (gI a deep c).2
 | [],b,deep,c=>by simp[gI]
 | g::a,b,deep,c=>by
  simp only[aZ,gI]
  by_cases h:(fW g (deep+1) c).1≠0
  ·simp only[au h]
  ·simp only[ai h,xz a b]
theorem Iv(g:aJ)(deep c:Int): fW g deep c=if fU g=false then (1,c+1) else if pG g.ks=true then (7,c+1) else if 4<=g.kind/\64<=deep then (3,c+1)
  else if 4096<c+1 then (4,c+1) else gI (g.l++g.vs) deep (c+1):=by
 cases g
 simp only[fW,aJ.kind,aJ.ks,aJ.l,aJ.vs,xz]
mutual
theorem B8: ∀(g:aJ) (deep c:Int),c<=4096->c<=(fW g deep c).2/\(fW g deep c).2<=4097/\((fW g deep c).1=0->(fW g deep c).2<=4096)
 | .mk k b n s l ks vs,deep,c,hc=>by
  simp only[fW]
  split
  ·simp;omega
  split
  ·simp;omega
  split
  ·simp;omega
  split
  ·simp;omega
  have h1:=B7 l deep (c+1) Zo
  split
  ·rename_i h;exact⟨by omega,h1.2.1,fun h0=>absurd h0 h⟩
  ·rename_i h
   have h0:(gI l deep (c+1)).1=0:=by omega
   have h2:=B7 vs deep (gI l deep (c+1)).2 (h1.2.2 h0)
   exact⟨by omega,h2.2.1,h2.2.2⟩
theorem B7: ∀(gs:List aJ) (deep c:Int),c<=4096->c<=(gI gs deep c).2/\(gI gs deep c).2<=4097/\((gI gs deep c).1=0->(gI gs deep c).2<=4096)
 | [],deep,c,hc=>by simp[gI];omega
 | g::gs,deep,c,hc=>by
  simp only[gI]
  have h1:=B8 g (deep+1) c hc
  split
  ·rename_i h;exact⟨h1.1,h1.2.1,fun h0=>absurd h0 h⟩
  ·rename_i h
   have h0:(fW g (deep+1) c).1=0:=by omega
   have h2:=B7 gs deep (fW g (deep+1) c).2 (h1.2.2 h0)
   exact⟨by omega,h2.2.1,h2.2.2⟩
end
def cE (gc:Nat) (c:Int):AE:=⟨some ⟨gc,0,none⟩,1,1,241,1,[.int .i64 c]⟩
theorem R6(g:aJ): g.l.length+g.vs.length<=g.weight:=by
 have:=g.mq
 have:=nj g.l
 have:=nj g.vs
 omega
theorem vD{g x:aJ}(h:x∈g.l++g.vs): x.weight<g.weight:=by
 rcases bz.1 h with h | h
 ·exact xp h
 ·exact xn h
theorem XD(g:aJ): ∀(σ:al) (r:List AT) (deep c:Int) (gc:Nat),eQ σ g r->0<=deep->deep+g.weight<=1099511627776->g.weight<=1000000->0<=c->c<=4096 ->
  pV Tryz.prog 138 [.a (.v (.pointer (some ⟨gc,0,none⟩))),.agg r,.a (.v (.int .i64 deep))] σ [cE gc c] (fun v _ A'=>v=.int .i64 (fW g deep c).1/\A'=[cE gc (fW g deep c).2]):=by
 induction g using aJ.sL with | _ g ih=>?_
 intro σ r deep c gc hr Ev VJ hw vV Bq
 obtain⟨la,lc,fG,ma,mc,ft,rfl,V⟩:=hr.open
 have Eu:=R6 g
 have yw:=V.kv
 have qu:=Iv g deep c
 refine fk Tryz.func138 Z Z Zl fun w=>?_
 refine Za ?_
 refine eH 0 (c:=.v (.int .i64 c)) TT Z Z Z Z Z Z Z Z Z Z Z trivial (Zr ?_)
 refine Zc ?_
 refine jC 0 (A':=[cE gc (c+1)]) TT Z Z Z Z Z Z Z Z Z Z aj trivial Z Z (Zr ?_)
 refine Zd ?_
 refine aT Z Z Z Z Z Tryz.call197 Zl (SY σ g _ hr) fun v hv=>⟨.a (.b (fU g)),trivial,hv.symm,?_⟩
 refine gX ?_
 refine aG rfl (fun h=>?_) (fun h=>?_)
 ·have h:fU g=false:=by simpa using h
  rw[au h] at qu
  refine Zb ?_
  refine dq TT rfl fun β w' _ _=>?_
  rw[qu]
  exact⟨rfl,rfl⟩
 have h:fU g=true:=by simpa using h
 rw[ai (by simp[h])] at qu
 refine Za ?_
 refine aT Z Z Z Z Z Tryz.call198 Zl (Uv σ g la lc fG ma mc ft V) fun v hv=>⟨.a (.b (pG g.ks)),trivial,hv.symm,?_⟩
 refine gX ?_
 refine aG rfl (fun h=>?_) (fun h=>?_)
 ·rw[au h] at qu
  refine Zb ?_
  refine dq TT rfl fun β w' _ _=>?_
  rw[qu]
  exact⟨rfl,rfl⟩
 rw[ai (by simp[h])] at qu
 refine fm (α:=Unit) (fun _=>σ) (fun _=>[(0,.a (.v (.pointer (some ⟨gc,0,none⟩)))),(2,.a (.v (.int .i64 deep))),(4,.a (.p 0 0))]) (fun _=>[(0,.loc 28,dN g la lc ma mc)]) (fun _=>[cE gc (c+1)]) 1
  (fun _=>¬ (4<=g.kind/\64<=deep)/\¬ 4096<c+1) ?_ (fun _ ⟨Jy,LL⟩=>?_)
 ·have tail:∀ {env:Env} {hp:HP} {nh:Nat} {Q:Exit->Act->World->Prop},True->True:=fun _=>trivial
  refine Za ?_
  refine ax 29 rfl (fun h=>?_) (fun h=>?_)
  ·have h4:4<=g.kind:=ae h
   refine gX ?_
   refine aG rfl (fun h=>?_) (fun h=>?_)
   ·have YV:64<=deep:=ae h
    rw[au ⟨h4,YV⟩] at qu
    refine Zb ?_
    refine dq TT rfl fun β w' _ _=>?_
    rw[qu]
    exact⟨rfl,rfl⟩
   have YV:¬ 64<=deep:=ab h
   have hn:¬ (4<=g.kind/\64<=deep):=fun h=>YV h.2
   rw[ai hn] at qu
   refine Za ?_
   refine eH 0 (c:=.v (.int .i64 (c+1))) TT Z Z Z Z Z Z Z Z Z Z Z trivial (Zr ?_)
   refine Za ?_
   refine aG rfl (fun h=>?_) (fun h=>?_)
   ·have h:4096<c+1:=ae h
    rw[au h] at qu
    refine Zb ?_
    refine dq TT rfl fun β w' _ _=>?_
    rw[qu]
    exact⟨rfl,rfl⟩
   have h:¬ 4096<c+1:=ab h
   refine Zc ?_
   refine an () ⟨hn,h⟩ aj rfl Zs Zs rfl Zl Zl
  ·have h4:¬ 4<=g.kind:=ab h
   have hn:¬ (4<=g.kind/\64<=deep):=fun h=>h4 h.1
   rw[ai hn] at qu
   refine D2 ?_
   refine eH 0 (c:=.v (.int .i64 (c+1))) TT Z Z Z Z Z Z Z Z Z Z Z trivial (Zr ?_)
   refine Za ?_
   refine aG rfl (fun h=>?_) (fun h=>?_)
   ·have h:4096<c+1:=ae h
    rw[au h] at qu
    refine Zb ?_
    refine dq TT rfl fun β w' _ _=>?_
    rw[qu]
    exact⟨rfl,rfl⟩
   have h:¬ 4096<c+1:=ab h
   refine Zc ?_
   refine an () ⟨hn,h⟩ aj rfl Zs Zs rfl Zl Zl
 rw[ai Jy,ai LL] at qu
 refine Za ?_
 refine bN Z Z Z Z Z Tryz.call115 Zl (R5 σ g la lc fG ma mc ft V Zo) fun v bD hle ⟨ao,cap,hv,H⟩=>⟨.a (.v (.slice ao (g.l.length+g.ks.length) cap)),trivial,hv.symm,?_⟩
 have R:fJ bD (g.l++g.vs) (fG++ft):=fJ.append (V.l.mono hle) (V.v.mono hle)
 have hlen:(g.l++g.vs).length=g.l.length+g.ks.length:=by rw[af,yw]
 refine Hz ?_
 refine gC (fun(s:al) (_:Nat×Int)=>s) (fun _ p=>[(0,.a (.v (.pointer (some ⟨gc,0,none⟩)))),(2,.a (.v (.int .i64 deep))),(40,.a (.v (.slice ao (g.l.length+g.ks.length) cap))),(41,.a (.v (.int .i64 (g.l.length+g.ks.length:Nat)))),(42,.a (.v (.int .i64 p.1)))])
  (fun _ _=>[]) (fun _ p=>[cE gc p.2]) 0
  (fun s p=>p.1<=g.l.length+g.ks.length/\bD.le s/\0<=p.2/\p.2<=4096/\gI ((g.l++g.vs).drop p.1) deep p.2=fW g deep c) (fun _ p=>g.l.length+g.ks.length - p.1) bD (0,c+1)
  ⟨ay _,al.le_refl _,by dsimp only;omega,by dsimp only;omega,qu.symm⟩ rfl Zs Zs rfl Zl Zl fun s ⟨k,c'⟩ ⟨hk,hs,VO,Ph,vW⟩=>?_
 dsimp only at hk VO Ph vW ⊢
 refine Za ?_
 refine aG rfl (fun h=>?_) (fun h=>?_)
 ·have cz:k<g.l.length+g.ks.length:=by have:=ae h;omega
  have kW:k<(g.l++g.vs).length:=by omega
  obtain⟨r,um,xh⟩:=(R.mono hs).get (aa kW)
  obtain⟨Lx,Lw,pI,Ls,Lp,pE,rfl,V'⟩:=xh.open
  have LM:=vD (aP kW)
  have hb:=B8 (g.l++g.vs)[k] (deep+1) c' Ph
  rw[aB kW,gI] at vW
  refine Zd ?_
  refine bk TT Z Z Z Z Z Z Z Z Z (H.mono hs) Zo um (Zr ?_)
  refine Zg ?_
  refine dT [0] (A0:=[cE gc c']) (Ar:=[]) Z Z Z Z Z Z Z Tryz.call138 (by (repeat' (first | exact trivial | exact bh rfl | exact dF _ _ _ _ _ _ | exact dw _ _ | refine kz.of ?_ | refine SV.iv ?_ | exact SV.ez | exact AT.ez | exact eQ.qv (by assumption) | constructor))) (ih _ LM s _ (deep+1) c' gc V'.rep Zo Zo Zo VO Ph) fun v nC A2 cw ⟨hv,hA⟩=>⟨.a (.v (.int .i64 (fW (g.l++g.vs)[k] (deep+1) c').1)),trivial,hv.symm,?_⟩
  subst hA
  refine gX ?_
  refine aG rfl (fun h=>?_) (fun h=>?_)
  ·have h:(fW (g.l++g.vs)[k] (deep+1) c').1≠0:=by simpa using h
   rw[au h] at vW
   refine Zb ?_
   refine dq TT rfl fun β w' _ _=>?_
   rw[<-vW]
   exact⟨rfl,rfl⟩
  ·have h:(fW (g.l++g.vs)[k] (deep+1) c').1=0:=by simpa using h
   rw[ai (by simp[h])] at vW
   refine Zc ?_
   refine an (nC,k+1,(fW (g.l++g.vs)[k] (deep+1) c').2) ⟨cz,al.le_trans hs cw,by dsimp only;omega,hb.2.2 h,vW⟩ (by dsimp only;omega) rfl Zs Zs rfl Zl Zl
 ·have fQ:k=(g.l++g.vs).length:=by simp at h;omega
  subst fQ
  rw[bC,gI] at vW
  refine Ze ?_
  refine dq TT rfl fun β w' _ _=>?_
  rw[<-vW]
  exact⟨rfl,rfl⟩
def kU (g:aJ):Int:=(fW g 0 0).1
theorem TL(σ:al)(g:aJ)(r:List AT)(hr:eQ σ g r)(hw:g.weight<=1000000): bZ Tryz.prog 60 [.agg r] σ (fun v=>v=.int .i64 (kU g)):=by
 obtain⟨la,lc,fG,ma,mc,ft,rfl,V⟩:=hr.open
 refine bW Tryz.func60 Z Z Zl fun w=>?_
 refine Za ?_
 refine gP 1 1 1 rfl Zl rfl (by decide) fun gc=>?_
 refine dT [0] (A0:=[cE gc 0]) (Ar:=[]) Z Z Z Z Z Z Z Tryz.call138 (by (repeat' (first | exact trivial | exact bh rfl | exact dF _ _ _ _ _ _ | exact dw _ _ | refine kz.of ?_ | refine SV.iv ?_ | exact SV.ez | exact AT.ez | exact eQ.qv (by assumption) | constructor))) (XD g σ _ 0 0 gc V.rep Zo Zo hw Zo Zo) fun v nC A2 cw ⟨hv,hA⟩=>⟨.a (.v (.int .i64 (kU g))),trivial,hv.symm,?_⟩
 refine gn ?_
 refine aw TT rfl fun β w' _ _=>?_
 rfl
end Go.Sy
namespace Go.Sy
structure aH where
 st:Int
 en:Int
 lv:Int
 kd:Int
 nm:Bool
 name:ByteArray
 b:Bool
 n:oh
 s:ByteArray
deriving DecidableEq
def di (r:aH):List AT:=[.v (.int .i64 r.st),.v (.int .i64 r.en),.v (.int .i64 r.lv),.v (.int .i64 r.kd),.b r.nm,.v (.string r.name),.b r.b,.b r.n.neg,.v (.string r.n.dg),.v (.int .i64 r.n.ex),.v (.string r.s)]
theorem fP(n:Nat)(r:aH): ∀ c∈di r,c.lt n:=by simp[di,AT.lt]
def cv (l:List aH):List (List AT):=l.map di
theorem dn{l:List aH}{i:Nat}{r:aH}(h:l[i]?=some r): (cv l)[i]?=some (di r):=by simp[cv,h]
theorem Ck(a b:List aH): cv (a++b)=cv a++cv b:=by simp[cv]
theorem rb(a:List aH): (cv a).length=a.length:=by simp[cv]
theorem kn(a:List aH): ∀ r∈cv a,r.length=11/\(∀ c∈r,c.lt 0)/\r.all AT.one=true:=by
 intro r hr
 obtain⟨x,_,rfl⟩:=bL.1 hr
 exact⟨rfl,fP 0 x,rfl⟩
def lz (l:List aH):List Value:=(cv l).flatten.map AT.val
theorem pY(a b:List aH): lz (a++b)=lz a++lz b:=by simp[lz,Ck]
theorem EY(a:List aH): (lz a).length=a.length*11:=by
 unfold lz
 rw[aR,pA (sz:=11) (fun r hr=>(kn a r hr).1),rb]
theorem Oy{l:List aH}{i j:Nat}{r:aH}{c:AT}(h:l[i]?=some r)(hj:(di r)[j]?=some c): (lz l)[i*11+j]?=some c.val:=by
 unfold lz
 rw[aO,sy (sz:=11) (fun r hr=>(kn l r hr).1) (dn h) hj]
 rfl
theorem yP{l:List aH}{i j:Nat}{r r':aH}(c:AT)(h:l[i]?=some r)(hj:j<11)(hr:(di r).set j c=di r'): (lz l).set (i*11+j) c.val=lz (l.set i r'):=by
 unfold lz
 rw[<-lW,Dh (sz:=11) (fun r hr=>(kn l r hr).1) c (dn h) hj,hr]
 congr 2
 unfold cv
 rw[lW]
mutual
def bG (aK:Int):aJ->Int->Bool->ByteArray->Int->List aH×Int
 | .mk k b n s l ks vs,lv,nm,name,now =>
  let p:=cN aK l (lv+1) (now+aK)
  let q:=cU aK vs ks (lv+1) p.2
  (⟨now+aK,q.2+aK,lv,k,nm,name,b,n,s⟩::(p.1++q.1),q.2+aK)
def cN (aK:Int):List aJ->Int->Int->List aH×Int
 | [],_,now=>([],now)
 | g::gs,lv,now =>
  let p:=bG aK g lv false ⟨#[]⟩ now
  let q:=cN aK gs lv p.2
  (p.1++q.1,q.2)
def cU (aK:Int):List aJ->List ByteArray->Int->Int->List aH×Int
 | [],_,_,now=>([],now)
 | _::_,[],_,now=>([],now)
 | g::gs,k::ks,lv,now =>
  let p:=bG aK g lv true k now
  let q:=cU aK gs ks lv p.2
  (p.1++q.1,q.2)
end
theorem my(aK:Int)(g:aJ)(lv:Int)(nm:Bool)(name:ByteArray)(now:Int):
  bG aK g lv nm name now=(⟨now+aK,(cU aK g.vs g.ks (lv+1) (cN aK g.l (lv+1) (now+aK)).2).2+aK,lv,g.kind,nm,name,g.b,g.n,g.s⟩ ::
   ((cN aK g.l (lv+1) (now+aK)).1++(cU aK g.vs g.ks (lv+1) (cN aK g.l (lv+1) (now+aK)).2).1),
   (cU aK g.vs g.ks (lv+1) (cN aK g.l (lv+1) (now+aK)).2).2+aK):=by
 cases g;rfl
mutual
theorem jQ(aK:Int): ∀(g:aJ) (lv:Int) (nm:Bool) (name:ByteArray) (now:Int),(bG aK g lv nm name now).1.length<=g.weight/\(bG aK g lv nm name now).2=now+2*aK*(bG aK g lv nm name now).1.length
 | .mk k b n s l ks vs,lv,nm,name,now=>by
  simp only[bG,List.length_cons,af,aJ.weight]
  obtain⟨h1,h2⟩:=oN aK l (lv+1) (now+aK)
  obtain⟨h3,h4⟩:=oM aK vs ks (lv+1) (cN aK l (lv+1) (now+aK)).2
  refine⟨by omega,?_⟩
  rw[h4,h2]
  simp only[Int.natCast_add,Int.mul_add]
  omega
theorem oN(aK:Int): ∀(gs:List aJ) (lv now:Int),(cN aK gs lv now).1.length<=aJ.weights gs/\(cN aK gs lv now).2=now+2*aK*(cN aK gs lv now).1.length
 | [],lv,now=>by simp[cN,aJ.weights]
 | g::gs,lv,now=>by
  simp only[cN,af,aJ.weights]
  obtain⟨h1,h2⟩:=jQ aK g lv false ⟨#[]⟩ now
  obtain⟨h3,h4⟩:=oN aK gs lv (bG aK g lv false ⟨#[]⟩ now).2
  refine⟨by omega,?_⟩
  rw[h4,h2]
  simp only[Int.natCast_add,Int.mul_add]
  omega
theorem oM(aK:Int): ∀(gs:List aJ) (ks:List ByteArray) (lv now:Int),(cU aK gs ks lv now).1.length<=aJ.weights gs/\(cU aK gs ks lv now).2=now+2*aK*(cU aK gs ks lv now).1.length
 | [],ks,lv,now=>by simp[cU]
 | g::gs,[],lv,now=>by simp[cU]
 | g::gs,k::ks,lv,now=>by
  simp only[cU,af,aJ.weights]
  obtain⟨h1,h2⟩:=jQ aK g lv true k now
  obtain⟨h3,h4⟩:=oM aK gs ks lv (bG aK g lv true k now).2
  refine⟨by omega,?_⟩
  rw[h4,h2]
  simp only[Int.natCast_add,Int.mul_add]
  omega
end
theorem qA{aK:Int}(g:aJ)(lv:Int)(nm:Bool)(name:ByteArray)(now:Int)(h0:0<=aK)(h1:aK<=1000): now<=(bG aK g lv nm name now).2/\(bG aK g lv nm name now).2<=now+2000*g.weight:=by
 obtain⟨h2,h3⟩:=jQ aK g lv nm name now
 generalize (bG aK g lv nm name now).1.length=m at *
 have e1:0<=2*aK*(m:Int):=Int.mul_nonneg Zo Zo
 have e2:2*aK*(m:Int)<=2000*(m:Int):=Int.mul_le_mul_of_nonneg_right Zo Zo
 have e3:2000*(m:Int)<=2000*(g.weight:Int):=Int.mul_le_mul_of_nonneg_left Zo Zo
 omega
theorem B0{aK:Int}(gs:List aJ)(lv:Int)(now:Int)(h0:0<=aK)(h1:aK<=1000): now<=(cN aK gs lv now).2/\(cN aK gs lv now).2<=now+2000*aJ.weights gs:=by
 obtain⟨h2,h3⟩:=oN aK gs lv now
 generalize (cN aK gs lv now).1.length=m at *
 have e1:0<=2*aK*(m:Int):=Int.mul_nonneg Zo Zo
 have e2:2*aK*(m:Int)<=2000*(m:Int):=Int.mul_le_mul_of_nonneg_right Zo Zo
 have e3:2000*(m:Int)<=2000*(aJ.weights gs:Int):=Int.mul_le_mul_of_nonneg_left Zo Zo
 omega
theorem BX{aK:Int}(gs:List aJ)(ks:List ByteArray)(lv:Int)(now:Int)(h0:0<=aK)(h1:aK<=1000): now<=(cU aK gs ks lv now).2/\(cU aK gs ks lv now).2<=now+2000*aJ.weights gs:=by
 obtain⟨h2,h3⟩:=oM aK gs ks lv now
 generalize (cU aK gs ks lv now).1.length=m at *
 have e1:0<=2*aK*(m:Int):=Int.mul_nonneg Zo Zo
 have e2:2*aK*(m:Int)<=2000*(m:Int):=Int.mul_le_mul_of_nonneg_right Zo Zo
 have e3:2000*(m:Int)<=2000*(aJ.weights gs:Int):=Int.mul_le_mul_of_nonneg_left Zo Zo
 omega
mutual
def aJ.wf:aJ->Prop
 | .mk _ _ _ _ l ks vs=>ks.length=vs.length/\aJ.pS l/\aJ.pS vs
def aJ.pS:List aJ->Prop
 | []=>True
 | g::gs=>g.wf/\aJ.pS gs
end
mutual
theorem eQ.wf{σ:al}: ∀ {g:aJ} {r:List AT},eQ σ g r->g.wf
 | .mk k b n s l ks vs,r,h=>by
  simp only[eQ] at h
  obtain⟨_,_,_,_,_,_,_,_,h3,h4,_,h6,_⟩:=h
  exact⟨h4,fJ.pS h3,fJ.pS h6⟩
theorem fJ.pS{σ:al}: ∀ {gs:List aJ} {rs:List (List AT)},fJ σ gs rs->aJ.pS gs
 | [],_,_=>trivial
 | g::gs,rs,h=>by
  simp only[fJ] at h
  obtain⟨r,IB,_,h2,h3⟩:=h
  exact⟨eQ.wf h2,fJ.pS h3⟩
end
end Go.Sy
namespace Go.Sy
open Go.Proofs
theorem Le{cf:Cf}{Q:Exit->Act->World->Prop}{W:(Nat->Addr)->World->Prop}{σ:al}{env:Env}{hp:HP}{A:List AE}{nh:Nat}{it:Item}{rest:List Item}{d t:Nat}{x:Operand}{T:List (Nat×TI)}(hT:cu cf.P T){ti:TI}{g off:Nat}(c:AT)(hq:(match it.tag with | .quiet=>true | _=>false)=true)(fL:it.o.op=.load t x)(hd:it.o.dst=some d)(hg:bt it.guard env=some true)(hN:Nat.blt d cf.N=true)(hx:bP env x=some (.a (.v (.pointer (some ⟨g,off,none⟩)))))(ht:eX T t=some ti)(yz:ti.agg=false)(hv:∀ β w,W β w->w.cell? ⟨g,off,none⟩=some c.val)(hc:c.lt 0)(k:OW cf rest Q W σ ((d,.a c)::env) hp A nh): OW cf (it::rest) Q W σ env hp A nh:=by
 refine XK (.a c) hd hg hN (AT.eT (ay _) hc) (fun _ a β ha=>?_) k
 cases ec:it.tag with
 | quiet =>
  intro w hw
  obtain⟨inf,d',z,hs⟩:=bK (hT _ _ ht)
  have mV:=hv β w hw
  have Eo:a.eval x=.pointer (some ⟨g,off,none⟩):=aD ha hx
  have C4:(load ⟨g,off,none⟩).run cf.P w=.ok c.val w:=by rw[run_load,mV]
  simp only[execOp,fL,Instr.loadAt,Eo,Instr.sureAddr,loadVar,Sem.run_bind,Sem.run_pure,Result.andThen_ok,jK hs.qx,hs.agg,yz,dI,if_false,C4]
  simp only[SV.den,AT.qi hc β]
 | _=>rw[ec] at hq;cases hq
def sE (gs:Nat) (ao:Option Addr) (n cap:Nat) (now aK:Int):AE:=⟨some ⟨gs,0,none⟩,1,1,193,3,[.slice ao n cap,.int .i64 now,.int .i64 aK]⟩
def rE (ao:Option Addr) (n cap:Nat) (l:List aH):AE:=⟨ao,n,cap,130,11,lz l⟩
def P6 (gs:Nat) (ao:Option Addr) (cap:Nat) (now aK:Int) (l:List aH):List AE:=[sE gs ao l.length cap now aK,rE ao l.length cap l]
theorem I8(σ:al)(gs:Nat)(ao:Option Addr)(n cap:Nat)(now aK:Int)(h1:0<=now)(h2:now<=1125899906842624)(h3:0<=aK)(h4:aK<=1000):
  pV Tryz.prog 169 [.a (.v (.pointer (some ⟨gs,0,none⟩)))] σ [sE gs ao n cap now aK] (fun v _ A'=>v=.int .i64 (now+aK)/\A'=[sE gs ao n cap (now+aK) aK]):=by
 refine fk Tryz.func169 Z Z Zl fun w=>?_
 refine Za ?_
 refine ck [(0,.pure),(1,.pure),(2,.pure),(3,.quiet),(4,.pure),(5,.pure),(6,.pure),(7,.quiet),(8,.pure),(9,.pure),(10,.pure),(11,.sink)] mixed Zk (aM TT rfl ?_)
 refine eH 0 (c:=.v (.int .i64 now)) TT Z Z Z Z Z Z Z Z Z Z Z trivial (Zr ?_)
 refine eH 0 (c:=.v (.int .i64 aK)) TT Z Z Z Z Z Z Z Z Z Z Z trivial (Zr ?_)
 refine eO Z Z Z Z Z Z Zo (Zr ?_)
 refine jC 0 (A':=[sE gs ao n cap (now+aK) aK]) TT Z Z Z Z Z Z Z Z Z Z (by show 1<1*3;omega) trivial Z Z (Zr ?_)
 refine Za ?_
 refine eH 0 (c:=.v (.int .i64 (now+aK))) TT Z Z Z Z Z Z Z Z Z Z Z trivial (Zr ?_)
 refine Zb ?_
 refine dq TT rfl fun β w' _ _=>?_
 exact⟨rfl,rfl⟩
def U2:List (Nat×Tag):=[(0,.pure),(1,.quiet),(2,.pure),(3,.quiet),(4,.pure),(5,.quiet),(6,.pure),(7,.quiet),(8,.pure),(9,.dP),(10,.pure),(11,.dP),(12,.pure),(13,.dP),(14,.pure),(15,.dP)]
def Rj:List (Nat×Tag):=[(0,.pure),(1,.pure),(2,.pure),(3,.quiet),(4,.pure),(5,.pure),(6,.dP),(7,.pure),(8,.pure),(9,.sink)]
structure Xm where
 σ:al
 k:Nat
 ao:Option Addr
 cap:Nat
 now:Int
 P:List aH
theorem pW{l:List aJ}{i:Nat}{g:aJ}(h:l[i]?=some g): aJ.weights (l.drop i)=g.weight+aJ.weights (l.drop (i+1)):=by
 have dj:=(ah.1 h).1
 rw[aB dj,aJ.weights,(ah.1 h).2]
theorem Cj(L:List aH)(x:aH): lz L++(di x).map AT.val=lz (L++[x]):=by
 rw[pY]
 simp[lz,cv]
def OA (lv:Int) (nm:Bool) (name:ByteArray):aH:=⟨0,0,lv,0,nm,name,false,fA,bF⟩
theorem KW(g:aJ): ∀(σ:al) (r:List AT) (x:aH) (gs:Nat) (ao:Option Addr) (cap:Nat) (now aK:Int) (L:List aH),eQ σ g r->0<=now->now+2000*g.weight<=1125899906842624->0<=aK->aK<=1000 ->
  L.length+g.weight<=1000000->0<=x.lv->x.lv+g.weight<=1099511627776->L.length<=cap ->
  pV Tryz.prog 104 [.a (.v (.pointer (some ⟨gs,0,none⟩))),.agg r,.agg (di x)] σ (P6 gs ao cap now aK L) (fun v _ A'=>v=.tuple #[]/\∃ iB dk,(L++(bG aK g x.lv x.nm x.name now).1).length<=dk /\
   A'=P6 gs iB dk (bG aK g x.lv x.nm x.name now).2 aK (L++(bG aK g x.lv x.nm x.name now).1)):=by
 induction g using aJ.sL with | _ g ih=>?_
 intro σ r x gs ao cap now aK L hr Al Qc pN sQ hnw VA Sj xZ
 obtain⟨la,lc,fG,ma,mc,ft,rfl,V⟩:=hr.open
 have hwg:=g.mq
 have Zw:=nj g.l
 have hwv:=nj g.vs
 have yw:=V.kv
 have pv:=B0 g.l (x.lv+1) (now+aK) pN sQ
 have Nj:=BX (aK:=aK) g.vs g.ks (x.lv+1) (cN aK g.l (x.lv+1) (now+aK)).2 pN sQ
 have Np:=(oN aK g.l (x.lv+1) (now+aK)).1
 have hlm:=(oM aK g.vs g.ks (x.lv+1) (cN aK g.l (x.lv+1) (now+aK)).2).1
 rw[my]
 refine fk Tryz.func104 Z Z Zl fun w=>?_
 refine Za ?_
 refine yc U2 (fun β w=>dy _ σ [(0,.loc 28,dN g la lc ma mc)] _ β w) (fun β w h=>h.sub (fT ⟨rfl,trivial⟩)) mixed Zk ?_
 refine ir TT Z Z Z Z Z Z ?_
 refine Bc TT [(0,.loc 28,dN g la lc ma mc)] _ (fT ⟨rfl,trivial⟩) (fun _ _ h=>h) Z Z Z Z Z ?_
 refine ir TT Z Z Z Z Z Z ?_
 refine Bc TT [(0,.loc 28,dN g la lc ma mc)] _ (fT ⟨rfl,trivial⟩) (fun _ _ h=>h) Z Z Z Z Z ?_
 refine ir TT Z Z Z Z Z Z ?_
 refine Bc TT [(0,.loc 28,dN g la lc ma mc)] _ (fT ⟨rfl,trivial⟩) (fun _ _ h=>h) Z Z Z Z Z ?_
 refine ir TT Z Z Z Z Z Z ?_
 refine Bc TT [(0,.loc 28,dN g la lc ma mc)] _ (fT ⟨rfl,trivial⟩) (fun _ _ h=>h) Z Z Z Z Z ?_
 refine ir TT Z Z Z Z Z Z ?_
 refine Gk TT Z Z Z Z (fun _ _ h=>h.sub (fT ⟨rfl,trivial⟩)) ?_
 refine ir TT Z Z Z Z Z Z ?_
 refine Gk TT Z Z Z Z (fun _ _ h=>h.sub (fT ⟨rfl,trivial⟩)) ?_
 refine ir TT Z Z Z Z Z Z ?_
 refine Gk TT Z Z Z Z (fun _ _ h=>h.sub (fT ⟨rfl,trivial⟩)) ?_
 refine ir TT Z Z Z Z Z Z ?_
 refine Gk TT Z Z Z Z (fun _ _ h=>h.sub (fT ⟨rfl,trivial⟩)) ?_
 refine Gl rfl (fun _ _ h=>h.sub (fT ⟨rfl,trivial⟩)) (uC ?_)
 refine Zc ?_
 refine dT [0,1] (A0:=[sE gs ao L.length cap now aK]) (Ar:=[rE ao L.length cap L]) Z Z Z Z Z Z Z Tryz.call169 (by (repeat' (first | exact trivial | exact bh rfl | exact dF _ _ _ _ _ _ | exact dw _ _ | refine kz.of ?_ | refine SV.iv ?_ | exact SV.ez | exact AT.ez | exact eQ.qv (by assumption) | constructor))) (I8 σ gs ao L.length cap now aK Al Zo pN sQ) fun v lQ A1 cP ⟨hv,hA⟩=>⟨.a (.v (.int .i64 (now+aK))),trivial,hv.symm,?_⟩
 subst hA
 refine gX ?_
 refine eH 0 (c:=.v (.slice ao L.length cap)) TT Z Z Z Z Z Z Z Z Z Z Z trivial (Zr ?_)
 refine Za ?_
 let x1:aH:=⟨now+aK,x.en,x.lv,g.kind,x.nm,x.name,g.b,g.n,g.s⟩
 refine To (kb:=[(0,.a (.v (.pointer (some ⟨gs,0,none⟩)))),(4,.a (.p 0 0)),(5,.a (.p 1 0)),(6,.a (.v (.int .i64 L.length)))]) (nF:=[(0,.loc 28,dN g la lc ma mc),(1,.loc 130,di x1)]) (xx Zs) (fT Zs) ?_
 refine ck [(0,.pure),(1,.pure),(2,.pure),(3,.pure),(4,.quiet),(5,.quiet),(6,.dP),(7,.sink),(8,.pure),(9,.pure),(10,.sink)] mixed Zk (aM TT rfl ?_)
 refine eH 0 (c:=.v (.slice ao L.length cap)) TT Z Z Z Z Z Z Z Z Z Z Z trivial (Zr ?_)
 refine bl TT 1 Z Z Z Z Z Z Z Z Z Z Z Z Z Z Z Z Z Z Zl rfl Zo (by show(L.length+1)*112<=_;omega) fun TG rR JI=>aM TT rfl ?_
 refine jC 0 (A':=[sE gs TG (L.length+1) rR (now+aK) aK,⟨TG,L.length+1,rR,130,11,lz L++(di x1).map AT.val⟩]) TT Z Z Z Z Z Z Z Z Z Z (by show 0<1*3;omega) trivial Z Z (Zr ?_)
 rw[Cj]
 refine Zd ?_
 refine fm (fun(s:Xm)=>s.σ) (fun _=>[(0,.a (.v (.pointer (some ⟨gs,0,none⟩)))),(4,.a (.p 0 0)),(5,.a (.p 1 0)),(6,.a (.v (.int .i64 L.length)))])
  (fun _=>[(0,.loc 28,dN g la lc ma mc),(1,.loc 130,di x1)]) (fun s=>P6 gs s.ao s.cap s.now aK (L++x1::s.P)) 2
  (fun s=>lQ.le s.σ/\s.P=(cN aK g.l (x.lv+1) (now+aK)).1/\s.now=(cN aK g.l (x.lv+1) (now+aK)).2/\(L++x1::s.P).length<=s.cap) ?_ (fun s ⟨hs,Jz,AQ,uN⟩=>?_)
 ·refine bX (fun(s:Xm)=>s.σ) (fun s=>[(0,.a (.v (.pointer (some ⟨gs,0,none⟩)))),(4,.a (.p 0 0)),(5,.a (.p 1 0)),(6,.a (.v (.int .i64 L.length))),(42,.a (.v (.slice la g.l.length lc))),(43,.a (.v (.int .i64 g.l.length))),(44,.a (.v (.int .i64 s.k)))])
   (fun _=>[(0,.loc 28,dN g la lc ma mc),(1,.loc 130,di x1)]) (fun s=>P6 gs s.ao s.cap s.now aK (L++x1::s.P)) 2
   (fun s=>s.k<=g.l.length/\lQ.le s.σ/\s.P++(cN aK (g.l.drop s.k) (x.lv+1) s.now).1=(cN aK g.l (x.lv+1) (now+aK)).1/\(cN aK (g.l.drop s.k) (x.lv+1) s.now).2=(cN aK g.l (x.lv+1) (now+aK)).2 /\
    0<=s.now/\s.now+2000*aJ.weights (g.l.drop s.k)<=now+aK+2000*aJ.weights g.l/\s.P.length+aJ.weights (g.l.drop s.k)<=aJ.weights g.l/\(L++x1::s.P).length<=s.cap)
   (fun s=>g.l.length - s.k) ⟨lQ,0,TG,rR,now+aK,[]⟩ ⟨ay _,al.le_refl _,rfl,rfl,by dsimp only;omega,by dsimp only;rw[cJ];omega,by dsimp only;rw[cJ];simp,by dsimp only;simp;omega⟩
   rfl Zs Zs (by unfold P6;simp only[af];rfl) Zl Zl fun⟨s,k,ao,cap,nw,P⟩ ⟨hk,hs,zr,Df,C2,LQ,YS,L6⟩=>?_
  dsimp only at hk hs zr Df C2 LQ YS L6 ⊢
  refine Za ?_
  refine aG rfl (fun h=>?_) (fun h=>?_)
  ·have cz:k<g.l.length:=by simpa using h
   obtain⟨rr,um,xh⟩:=(V.l.mono (al.le_trans cP hs)).get (aa cz)
   obtain⟨Lx,Lw,pI,Ls,Lp,pE,rfl,V'⟩:=xh.open
   have LM:=xp (aP cz)
   have hwd:=pW (aa cz)
   rw[aB cz,cN] at zr Df
   have qt:=qA (aK:=aK) g.l[k] (x.lv+1) false bF nw pN sQ
   have Vz:=(jQ aK g.l[k] (x.lv+1) false bF nw).1
   have hlen:(L++x1::P).length=L.length+1+P.length:=by simp;omega
   refine Zd ?_
   refine bk TT Z Z Z Z Z Z Z Z Z ((V.L.mono cP).mono hs) Zo um (Zr ?_)
   refine Za ?_
   refine eO Z Z Z Z Z Z (by show -9223372036854775808<=x.lv+1/\x.lv+1<=9223372036854775807;omega) (Zr ?_)
   refine cr 53 (.agg (di (OA (x.lv+1) false bF))) rfl (fP _ _) (fun _=>rfl) ?_
   refine dT [0,1] (A0:=P6 gs ao cap nw aK (L++x1::P)) (Ar:=[]) Z Z Z Z Z Z Z Tryz.call104 (by (repeat' (first | exact trivial | exact bh rfl | exact dF _ _ _ _ _ _ | exact dw _ _ | refine kz.of ?_ | refine SV.iv ?_ | exact SV.ez | exact AT.ez | exact eQ.qv (by assumption) | constructor))) (ih _ LM s _ (OA (x.lv+1) false bF) gs ao cap nw aK (L++x1::P) V'.rep C2 Zo pN sQ Zo (by show 0<=x.lv+1;omega) (by show x.lv+1+_<=_;omega) L6) fun v nC A2 cw ⟨hv,iB,dk,zp,hA⟩=>⟨.ik [],Zl,hv.symm,?_⟩
   subst hA
   refine lP ?_
   refine an ⟨nC,k+1,iB,dk,(bG aK g.l[k] (x.lv+1) false bF nw).2,P++(bG aK g.l[k] (x.lv+1) false bF nw).1⟩
    ⟨cz,al.le_trans hs cw,by rw[av];exact zr,Df,by dsimp only;omega,by dsimp only;omega,by dsimp only;rw[af];omega,?_⟩ (by dsimp only;omega) rfl Zs Zs ?_ Zl Zl
   ·have e:L++x1::(P++(bG aK g.l[k] (x.lv+1) false bF nw).1)=L++x1::P++(bG aK g.l[k] (x.lv+1) false bF nw).1:=by simp
    dsimp only
    rw[e];exact zp
   ·have e:L++x1::(P++(bG aK g.l[k] (x.lv+1) false bF nw).1)=L++x1::P++(bG aK g.l[k] (x.lv+1) false bF nw).1:=by simp
    dsimp only
    rw[e,aL]
    rfl
  ·have fQ:k=g.l.length:=by simp at h;omega
   subst fQ
   rw[bC,cN] at zr Df
   rw[aL] at zr
   refine Ze ?_
   refine an ⟨s,g.l.length,ao,cap,nw,P⟩ ⟨hs,zr,Df,L6⟩ aj rfl Zs Zs rfl Zl Zl
 obtain⟨s,k0,ao,cap,Ef,P0⟩:=s
 dsimp only at hs Jz AQ uN ⊢
 have hlP:P0.length<=aJ.weights g.l:=by rw[Jz];exact Np
 have Hu:Ef<=now+aK+2000*aJ.weights g.l:=by rw[AQ];exact pv.2
 have al8:now+aK<=Ef:=by rw[AQ];exact pv.1
 rw[<-AQ] at hlm Nj
 rw[<-AQ,<-Jz]
 clear AQ Jz
 refine Zd ?_
 refine fm (fun(s:Xm)=>s.σ) (fun _=>[(0,.a (.v (.pointer (some ⟨gs,0,none⟩)))),(6,.a (.v (.int .i64 L.length)))])
  (fun _=>[]) (fun s=>P6 gs s.ao s.cap s.now aK (L++x1::P0++s.P)) 0
  (fun s=>lQ.le s.σ/\s.P=(cU aK g.vs g.ks (x.lv+1) Ef).1/\s.now=(cU aK g.vs g.ks (x.lv+1) Ef).2/\(L++x1::P0++s.P).length<=s.cap) ?_ (fun s ⟨hs,Jz,AQ,uN⟩=>?_)
 ·refine bX (fun(s:Xm)=>s.σ) (fun s=>[(0,.a (.v (.pointer (some ⟨gs,0,none⟩)))),(4,.a (.p 0 0)),(5,.a (.p 1 0)),(6,.a (.v (.int .i64 L.length))),(57,.a (.v (.slice ma g.ks.length mc))),(58,.a (.v (.int .i64 g.ks.length))),(59,.a (.v (.int .i64 s.k)))])
   (fun _=>[(0,.loc 28,dN g la lc ma mc),(1,.loc 130,di x1)]) (fun s=>P6 gs s.ao s.cap s.now aK (L++x1::P0++s.P)) 2
   (fun s=>s.k<=g.ks.length/\lQ.le s.σ/\s.P++(cU aK (g.vs.drop s.k) (g.ks.drop s.k) (x.lv+1) s.now).1=(cU aK g.vs g.ks (x.lv+1) Ef).1/\(cU aK (g.vs.drop s.k) (g.ks.drop s.k) (x.lv+1) s.now).2=(cU aK g.vs g.ks (x.lv+1) Ef).2 /\
    0<=s.now/\s.now+2000*aJ.weights (g.vs.drop s.k)<=Ef+2000*aJ.weights g.vs/\s.P.length+aJ.weights (g.vs.drop s.k)<=aJ.weights g.vs/\(L++x1::P0++s.P).length<=s.cap)
   (fun s=>g.ks.length - s.k) ⟨s,0,ao,cap,Ef,[]⟩ ⟨ay _,hs,rfl,rfl,by dsimp only;omega,by dsimp only;rw[cJ];omega,by dsimp only;rw[cJ];simp,by dsimp only;rw[aL];exact uN⟩
   rfl Zs Zs (by rw[aL]) Zl Zl fun⟨s,k,ao,cap,nw,P⟩ ⟨hk,hs,zr,Df,C2,LQ,YS,L6⟩=>?_
  dsimp only at hk hs zr Df C2 LQ YS L6 ⊢
  refine Za ?_
  refine aG rfl (fun h=>?_) (fun h=>?_)
  ·have cz:k<g.ks.length:=by simpa using h
   have GP:k<g.vs.length:=by omega
   obtain⟨rr,um,xh⟩:=(V.v.mono (al.le_trans cP hs)).get (aa GP)
   have bU:=ia (aa cz) um
   obtain⟨Lx,Lw,pI,Ls,Lp,pE,rfl,V'⟩:=xh.open
   have LM:=xn (aP GP)
   have hwd:=pW (aa GP)
   rw[aB GP,aB cz,cU] at zr Df
   have qt:=qA (aK:=aK) g.vs[k] (x.lv+1) true g.ks[k] nw pN sQ
   have Vz:=(jQ aK g.vs[k] (x.lv+1) true g.ks[k] nw).1
   have hlen:(L++x1::P0++P).length=L.length+1+P0.length+P.length:=by simp;omega
   refine Zd ?_
   refine bk TT Z Z Z Z Z Z Z Z Z ((V.M.mono cP).mono hs) Zo bU (Zr ?_)
   refine Za ?_
   refine eO Z Z Z Z Z Z (by show -9223372036854775808<=x.lv+1/\x.lv+1<=9223372036854775807;omega) (Zr ?_)
   refine cr 71 (.agg (di (OA (x.lv+1) true g.ks[k]))) rfl (fP _ _) (fun _=>rfl) ?_
   refine dT [0,1] (A0:=P6 gs ao cap nw aK (L++x1::P0++P)) (Ar:=[]) Z Z Z Z Z Z Z Tryz.call104 (by (repeat' (first | exact trivial | exact bh rfl | exact dF _ _ _ _ _ _ | exact dw _ _ | refine kz.of ?_ | refine SV.iv ?_ | exact SV.ez | exact AT.ez | exact eQ.qv (by assumption) | constructor))) (ih _ LM s _ (OA (x.lv+1) true g.ks[k]) gs ao cap nw aK (L++x1::P0++P) V'.rep C2 Zo pN sQ Zo (by show 0<=x.lv+1;omega) (by show x.lv+1+_<=_;omega) L6) fun v nC A2 cw ⟨hv,iB,dk,zp,hA⟩=>⟨.ik [],Zl,hv.symm,?_⟩
   subst hA
   refine lP ?_
   refine an ⟨nC,k+1,iB,dk,(bG aK g.vs[k] (x.lv+1) true g.ks[k] nw).2,P++(bG aK g.vs[k] (x.lv+1) true g.ks[k] nw).1⟩
    ⟨cz,al.le_trans hs cw,by rw[av];exact zr,Df,by dsimp only;omega,by dsimp only;omega,by dsimp only;rw[af];omega,?_⟩ (by dsimp only;omega) rfl Zs Zs ?_ Zl Zl
   ·dsimp only
    rw[<-av];exact zp
   ·dsimp only
    rw[<-av,aL]
    rfl
  ·have fQ:k=g.ks.length:=by simp at h;omega
   subst fQ
   rw[bC,dO Zo,cU] at zr Df
   rw[aL] at zr
   refine Ze ?_
   refine an ⟨s,g.ks.length,ao,cap,nw,P⟩ ⟨hs,zr,Df,L6⟩ aj rfl Zs Zs rfl Zl Zl
 obtain⟨s,k0,ao,cap,wR,P1⟩:=s
 dsimp only at hs Jz AQ uN ⊢
 have al7:wR<=Ef+2000*aJ.weights g.vs:=by rw[AQ];exact Nj.2
 have ae3:Ef<=wR:=by rw[AQ];exact Nj.1
 rw[<-AQ,<-Jz]
 clear AQ Jz
 have hM:(L++x1::P0++P1)[L.length]?=some x1:=by simp
 have Qg:L.length<(L++x1::P0++P1).length:=(ah.1 hM).1
 have ZR:(L++x1::P0++P1).set L.length ⟨now+aK,wR+aK,x.lv,g.kind,x.nm,x.name,g.b,g.n,g.s⟩=L++⟨now+aK,wR+aK,x.lv,g.kind,x.nm,x.name,g.b,g.n,g.s⟩::(P0++P1):=by simp
 have Xd:(L++⟨now+aK,wR+aK,x.lv,g.kind,x.nm,x.name,g.b,g.n,g.s⟩::(P0++P1)).length=(L++x1::P0++P1).length:=by simp
 generalize hMM:L++x1::P0++P1=M at *
 refine jd 1 (E:=rE ao M.length cap M) rfl (by show 0<M.length;omega) fun g1 C9=>?_
 have C9:ao=some ⟨g1,0,none⟩:=C9
 subst C9
 refine yc Rj (fun β w=>w.cell? ⟨gs,0,none⟩=some (.slice (some ⟨g1,0,none⟩) M.length cap)) (fun β w h=>(h.arr 0 (sE gs (some ⟨g1,0,none⟩) M.length cap wR aK) rfl).cell Z Z) mixed Zk ?_
 refine ir TT Z Z Z Z Z Z ?_
 refine ir TT Z Z Z Z Z Z ?_
 refine ir TT Z Z Z Z Z Z ?_
 refine Le TT (.v (.slice (some ⟨g1,0,none⟩) M.length cap)) Z Z Z Z Z Z Z Z (fun _ _ h=>h) trivial ?_
 refine ir TT Z Z Z Z Z Z ?_
 refine ir TT Z Z Z Z Z Z ?_
 refine Gm [0,1] (A0:=[sE gs (some ⟨g1,0,none⟩) M.length cap wR aK]) (Ar:=[rE (some ⟨g1,0,none⟩) M.length cap M]) Z Z Z Z Z Z Z Tryz.call169 Zl (I8 s gs (some ⟨g1,0,none⟩) M.length cap wR aK Zo Zo pN sQ) fun v nC A2 cw ⟨hv,hA⟩=>?_
 subst hA
 refine⟨fun β w h=>(h.arr 0 (sE gs (some ⟨g1,0,none⟩) M.length cap (wR+aK) aK) rfl).cell Z Z,.a (.v (.int .i64 (wR+aK))),trivial,hv.symm,?_⟩
 refine Gl rfl (fun β w h=>(h.arr 0 (sE gs (some ⟨g1,0,none⟩) M.length cap (wR+aK) aK) rfl).cell Z Z) (Zr ?_)
 refine br TT Z Z Z Z Z Z Z Z Z ⟨by omega,by omega⟩ (Zr ?_)
 have GH:L.length*11+1<M.length*11:=by omega
 refine jC 1 (A':=P6 gs (some ⟨g1,0,none⟩) cap (wR+aK) aK (L++⟨now+aK,wR+aK,x.lv,g.kind,x.nm,x.name,g.b,g.n,g.s⟩::(P0++P1))) (off:=L.length*11+1) TT Z Z Z Z ?_ Z Z Z Z Z GH trivial rfl ?_ (Zr ?_)
 ·show some (SV.a (AT.v (.pointer (some (Addr.add (Addr.add ⟨g1,0,none⟩ ((L.length:Int).toNat*11)) 1)))))=_
  rw[jM,Addr.add_lit]
  rfl
 ·unfold P6
  rw[Xd]
  show [_,_]=[_,_]
  congr 1
  congr 1
  unfold rE
  congr 1
  show(lz M).set (L.length*11+1) (AT.v (.int .i64 (wR+aK))).val=_
  rw[yP (r':=⟨now+aK,wR+aK,x.lv,g.kind,x.nm,x.name,g.b,g.n,g.s⟩) _ hM Zo rfl,ZR]
 refine Zc ?_
 refine nU TT rfl fun β w' _ _=>?_
 refine⟨rfl,_,cap,?_,rfl⟩
 rw[Xd];exact uN
end Go.Sy
namespace Go.Sy
open Go.Proofs
theorem pV.MJ{P:Program}{f:FuncId}{lM:List SV}{σ:al}{Φ:Value->al->AE->Prop}{Ψ:Value->al->Prop}(h:pV P f lM σ [] (fun v bD A'=>∃ E,A'=[E]/\Φ v bD E))(hi:∀ v bD N3 E,Φ v bD E->bD.le N3->b9 N3 E->Ψ v N3): fa P f lM σ Ψ:=by
 intro w hs
 have:=h w (dy.start hs fy)
 rw[yf] at this
 refine Calls.mono this fun _ _ ⟨v,bD,h1,h2,h3,h4,A',⟨E,hE,h5⟩,h6⟩=>?_
 subst hE
 obtain⟨N3,h7,h8,h9⟩:=h6.tb (i:=0) rfl
 rw[yf] at h9
 exact⟨v,N3,h1,h2,wx.of h9,h9.cQ,hi v bD N3 E h5 h7 h8⟩
theorem E4{σ:al}{ao:Option Addr}{cap:Nat}{l:List aH}(h:b9 σ (rE ao l.length cap l))(hc:l.length<=cap): bu σ ao l.length cap 11 (cv l) :=
 h.sl (E:=rE ao l.length cap l) rfl (fun r hr=>⟨(kn l r hr).1,(kn l r hr).2.1⟩) (rb l) rfl hc
def gN (g:aJ) (aK:Int):List aH×Int :=
 if aK<1\/1000<aK then ([],1)
 else if kU g≠0 then ([],kU g)
 else ((bG aK g 0 false bF 0).1,0)
theorem Wk(σ:al)(g:aJ)(r:List AT)(aK:Int)(hr:eQ σ g r)(hw:g.weight<=100000):
  pV Tryz.prog 39 [.agg r,.a (.v (.int .i64 aK))] σ [] (fun v _ A'=>∃ E,A'=[E]/\∃ ao cap,(gN g aK).1.length<=cap/\E=rE ao (gN g aK).1.length cap (gN g aK).1/\v=.tuple #[.slice ao (gN g aK).1.length cap,.int .i64 (gN g aK).2]):=by
 obtain⟨la,lc,fG,ma,mc,ft,rfl,V⟩:=hr.open
 refine fk Tryz.func39 Z Z Zl fun w=>?_
 have bad:(aK<1\/1000<aK)->gN g aK=([],1):=fun h=>by unfold gN;rw[au h]
 refine Za ?_
 refine ax 10 rfl (fun h=>?_) (fun h=>?_)
 ·have h1:aK<1:=ae h
  rw[bad (.inl h1)]
  refine gn ?_
  refine kg 130 11 ?_
  refine dq TT rfl fun β w' _ _=>?_
  exact⟨_,rfl,none,0,aq _,rfl,rfl⟩
 have h1:¬ aK<1:=ab h
 refine gX ?_
 refine aG rfl (fun h=>?_) (fun h=>?_)
 ·have h2:1000<aK:=ae h
  rw[bad (.inr h2)]
  refine Zb ?_
  refine kg 130 11 ?_
  refine dq TT rfl fun β w' _ _=>?_
  exact⟨_,rfl,none,0,aq _,rfl,rfl⟩
 have h2:¬ 1000<aK:=ab h
 have e1:gN g aK=if kU g≠0 then ([],kU g) else ((bG aK g 0 false bF 0).1,0):=by unfold gN;rw[ai Zo]
 rw[e1]
 refine Zc ?_
 refine aT Z Z Z Z Z Tryz.call60 Zl (TL σ g _ hr Zo) fun v hv=>⟨.a (.v (.int .i64 (kU g))),trivial,hv.symm,?_⟩
 refine gX ?_
 refine aG rfl (fun h=>?_) (fun h=>?_)
 ·have h3:kU g≠0:=by simpa using h
  rw[au h3]
  refine Zb ?_
  refine kg 130 11 ?_
  refine dq TT rfl fun β w' _ _=>?_
  exact⟨_,rfl,none,0,aq _,rfl,rfl⟩
 have h3:kU g=0:=by simpa using h
 rw[ai (by simp[h3])]
 refine Zd ?_
 refine gP 1 1 3 rfl Zl rfl (by decide) fun gs=>?_
 refine qp 130 11 ?_
 refine cr 24 (.agg (di (OA 0 false bF))) rfl (fP _ _) (fun _=>rfl) ?_
 refine dT [0,1] (A0:=P6 gs none 0 0 aK []) (Ar:=[]) Z Z Z Z Z Z Z Tryz.call104 (by (repeat' (first | exact trivial | exact bh rfl | exact dF _ _ _ _ _ _ | exact dw _ _ | refine kz.of ?_ | refine SV.iv ?_ | exact SV.ez | exact AT.ez | exact eQ.qv (by assumption) | constructor))) (KW g σ _ (OA 0 false bF) gs none 0 0 aK [] V.rep Zo Zo Zo Zo (by simp;omega) (dB _) (by show(0:Int)+_<=_;omega) (aq _)) fun v nC A2 cw ⟨hv,iB,dk,zp,hA⟩=>⟨.ik [],Zl,hv.symm,?_⟩
 subst hA
 rw[cF] at zp ⊢
 refine gX ?_
 refine eH 0 (c:=.v (.slice iB (bG aK g 0 false bF 0).1.length dk)) TT Z Z Z Z Z Z Z Z Z Z Z trivial (Zr ?_)
 refine Zb ?_
 refine WG [1] Z Z ?_
 refine dq TT rfl fun β w' _ _=>?_
 exact⟨_,rfl,iB,dk,zp,rfl,rfl⟩
theorem NY(σ:al)(g:aJ)(r:List AT)(aK:Int)(hr:eQ σ g r)(hw:g.weight<=100000):
  fa Tryz.prog 39 [.agg r,.a (.v (.int .i64 aK))] σ (fun v bD=>∃ ao cap,v=.tuple #[.slice ao (gN g aK).1.length cap,.int .i64 (gN g aK).2]/\bu bD ao (gN g aK).1.length cap 11 (cv (gN g aK).1)) :=
 (Wk σ g r aK hr hw).MJ fun v _ _ E ⟨ao,cap,hc,hE,hv⟩ _ hS=>⟨ao,cap,hv,E4 (by rw[<-hE];exact hS) hc⟩
end Go.Sy
namespace Go.Sy
def gy (lv:Int):List aH->Int->Option (List aH×Int)
 | [],last=>some ([],last)
 | t::ro,last=>if lv<(ro.length:Int)+1 then (if t.en<=last then none else gy lv ro t.en) else some (t::ro,last)
def closeAll:List aH->Int->Bool
 | [],_=>true
 | t::ro,last=>if t.en<=last then false else closeAll ro t.en
def eL:Nat->List aH->Int->List aH->Bool
 | _,ro,last,[]=>closeAll ro last
 | k,ro,last,r::l =>
  if r.lv<0\/(ro.length:Int)<r.lv\/(decide (r.lv=0) != decide ((k:Int)=0))=true then false
  else match gy r.lv ro last with
   | none=>false
   | some p=>if r.st<=p.2 then false else eL (k+1) (r::p.1) r.st l
def gK (l:List aH):Bool:=eL 0 [] (-1) l&&decide (0<(l.length:Int))
def eU:List Int->List aH->Bool
 | _,[]=>true
 | op,r::l =>
  let o:=op.take r.lv.toNat
  if (r.nm != (o.getLast? == some 5))||(!r.nm&&!decide (r.name=⟨#[]⟩)) then false else eU (o++[r.kd]) l
def m7 (l:List aH):Bool:=eU [] l
def kr:Nat->List aH->Prop
 | _,[]=>True
 | m,r::l=>0<=r.lv/\r.lv<=m/\kr (r.lv.toNat+1) l
theorem Aw: ∀(lv:Int) (ro:List aH) (last:Int) (p:List aH×Int),gy lv ro last=some p->0<=lv->lv<=ro.length->(p.1.length:Int)=lv
 | lv,[],last,p,h,h0,h1=>by
  simp only[gy,bf] at h
  subst h
  simp at h1 ⊢
  omega
 | lv,t::ro,last,p,h,h0,h1=>by
  simp only[gy] at h
  simp only[List.length_cons] at h1
  split at h
  ·split at h
   ·cases h
   ·exact Aw lv ro t.en p h h0 Zo
  ·simp only[bf] at h
   subst h
   simp only[List.length_cons]
   omega
theorem rn: ∀(l:List aH) (k:Nat) (ro:List aH) (last:Int),eL k ro last l=true->kr ro.length l
 | [],_,_,_,_=>trivial
 | r::l,k,ro,last,h=>by
  simp only[eL] at h
  split at h
  ·cases h
  ·rename_i hc
   have h1:0<=r.lv/\r.lv<=ro.length:=by
    refine⟨?_,?_⟩
    ·exact Int.not_lt.1 fun DY=>hc (.inl DY)
    ·exact Int.not_lt.1 fun DY=>hc (.inr (.inl DY))
   split at h
   ·cases h
   ·rename_i p hp
    split at h
    ·cases h
    ·have:=rn l _ _ _ h
     have hlen:=Aw _ _ _ _ hp h1.1 h1.2
     refine⟨h1.1,h1.2,?_⟩
     rw[show r.lv.toNat+1=(r::p.1).length by simp only[List.length_cons];omega]
     exact this
structure Kids where
 ls:List aJ
 ks:List ByteArray
 vs:List aJ
 rest:List aH
def rA:aJ:=.mk 0 false ⟨false,⟨#[]⟩,0⟩ ⟨#[]⟩ [] [] []
mutual
def eY:Nat->List aH->aJ×List aH
 | 0,l=>(rA,l)
 | _+1,[]=>(rA,[])
 | n+1,r::l=>(.mk r.kd r.b r.n r.s (dQ n r.lv l).ls (dQ n r.lv l).ks (dQ n r.lv l).vs,(dQ n r.lv l).rest)
def dQ:Nat->Int->List aH->Kids
 | 0,_,l=>⟨[],[],[],l⟩
 | _+1,_,[]=>⟨[],[],[],[]⟩
 | n+1,lv,k::l =>
  if lv<k.lv then
   if k.nm then ⟨(dQ n lv (eY n (k::l)).2).ls,k.name::(dQ n lv (eY n (k::l)).2).ks,(eY n (k::l)).1::(dQ n lv (eY n (k::l)).2).vs,(dQ n lv (eY n (k::l)).2).rest⟩
   else ⟨(eY n (k::l)).1::(dQ n lv (eY n (k::l)).2).ls,(dQ n lv (eY n (k::l)).2).ks,(dQ n lv (eY n (k::l)).2).vs,(dQ n lv (eY n (k::l)).2).rest⟩
  else ⟨[],[],[],k::l⟩
end
def jb (l:List aH):Nat:=2*l.length+2
def fB (l:List aH):aJ×List aH:=eY (jb l) l
mutual
theorem Ay: ∀(n:Nat) (l:List aH),2*l.length<=n->0<l.length->(eY n l).2.length<l.length
 | 0,l,h,h0=>by omega
 | n+1,[],h,h0=>by simp at h0
 | n+1,r::l,h,h0=>by
  simp only[eY,List.length_cons] at *
  have:=wT n r.lv l Zo
  omega
theorem wT: ∀(n:Nat) (lv:Int) (l:List aH),2*l.length+1<=n+0->(dQ n lv l).rest.length<=l.length
 | 0,_,l,h=>by simp[dQ]
 | n+1,_,[],h=>by simp[dQ]
 | n+1,lv,k::l,h=>by
  have h1:=Ay n (k::l) (by simp only[List.length_cons] at *;omega) (by simp)
  have h2:=wT n lv (eY n (k::l)).2 (by simp only[List.length_cons] at *;omega)
  simp only[dQ]
  split
  ·split
   ·simp only[];omega
   ·simp only[];omega
  ·simp
end
end Go.Sy
namespace Go.Sy
open Go.Proofs
def bE (gb:Nat) (ao:Option Addr) (n cap:Nat) (k:Int):AE:=⟨some ⟨gb,0,none⟩,1,1,255,2,[.slice ao n cap,.int .i64 k]⟩
def qj (L:List aH):Prop:=∀ r∈L,r.n.dg.size<=bJ/\r.s.size<=bJ/\r.name.size<=bJ
structure BuS where
 σ:al
 m:Nat
 k:Nat
 ls:List aJ
 lr:List (List AT)
 la:Option Addr
 lc:Nat
 ks:List ByteArray
 vs:List aJ
 vr:List (List AT)
 ma:Option Addr
 mc:Nat
def ye (r:aH) (s:BuS):List AT:=[.v (.int .i64 r.kd),.b r.b,.b r.n.neg,.v (.string r.n.dg),.v (.int .i64 r.n.ex),.v (.string r.s),.v (.slice s.la s.ls.length s.lc),.v (.slice s.ma s.ks.length s.mc)]
def buA (gb:Nat) (ao:Option Addr) (n cap:Nat) (s:BuS):List AE:=[bE gb ao n cap s.k,⟨s.la,s.ls.length,s.lc,28,8,s.lr.flatten.map AT.val⟩,⟨s.ma,s.ks.length,s.mc,184,9,(ig s.ks s.vr).flatten.map AT.val⟩]
theorem tn: ∀(ks:List ByteArray) (rs:List (List AT)) (k:ByteArray) (r:List AT),ks.length=rs.length->ig (ks++[k]) (rs++[r])=ig ks rs++[qJ k r]
 | [],[],_,_,_=>rfl
 | [],_::_,_,_,h=>by simp at h
 | _::_,[],_,_,h=>by simp at h
 | x::ks,y::rs,k,r,h=>by
  simp only[aZ,ig,tn ks rs k r (by simpa using h)]
def zeroV:List AT:=[.v (.int .i64 0),.ff,.ff,.v (.string ⟨#[]⟩),.v (.int .i64 0),.v (.string ⟨#[]⟩),.v (.slice none 0 0),.v (.slice none 0 0)]
theorem PJ(L:List aH)(hF:qj L)(hL:L.length<=100000)(ao:Option Addr)(cap:Nat): ∀(n:Nat) (σ:al) (k:Nat) (gb:Nat),bu σ ao L.length cap 11 (cv L)->k<L.length->2*(L.drop k).length<=n ->
  pV Tryz.prog 153 [.a (.v (.pointer (some ⟨gb,0,none⟩)))] σ [bE gb ao L.length cap k] (fun v bD A'=>∃ r k',v=(SV.agg r).den fy/\eQ bD (eY n (L.drop k)).1 r/\L.drop k'=(eY n (L.drop k)).2/\k<k'/\k'<=L.length/\A'=[bE gb ao L.length cap k']):=by
 intro n
 induction n using Nat.strongRecOn with | _ n ih=>?_
 intro σ k gb H hk hn
 have DW:(L.drop k).length=L.length - k:=bm
 obtain⟨n,rfl⟩:∃ m,n=m+1:=⟨n - 1,by omega⟩
 have Pe:L.drop k=L[k]::L.drop (k+1):=aB hk
 have bU:(cv L)[k]?=some (di L[k]):=dn (aa hk)
 have lj:=hF _ (aP hk)
 have mC:=H.pn
 rw[Pe,eY]
 generalize hx:L[k]=x at *
 dsimp only
 refine fk Tryz.func153 Z Z Zl fun w=>?_
 refine Za ?_
 refine ck [(0,.pure),(1,.pure),(2,.pure),(3,.quiet),(4,.pure),(5,.pure),(6,.pure),(7,.quiet),(8,.pure),(9,.quiet),(10,.dP),(11,.sink)] mixed Zk (aM TT rfl ?_)
 refine eH 0 (c:=.v (.slice ao L.length cap)) TT Z Z Z Z Z Z Z Z Z Z Z trivial (Zr ?_)
 refine eH 0 (c:=.v (.int .i64 k)) TT Z Z Z Z Z Z Z Z Z Z Z trivial (Zr ?_)
 refine bk TT Z Z Z Z Z Z Z Z Z H Zo bU (Zr ?_)
 refine Za ?_
 refine eH 0 (c:=.v (.int .i64 k)) TT Z Z Z Z Z Z Z Z Z Z Z trivial (Zr ?_)
 refine eO Z Z Z Z Z Z Zo (Zr ?_)
 refine jC 0 (A':=[bE gb ao L.length cap ((k+1:Nat):Int)]) TT Z Z Z Z Z Z Z Z Z Z (by show 1<1*2;omega) trivial Z Z (Zr ?_)
 refine qp 28 8 (qp 184 9 ?_)
 refine Zd ?_
 refine fm (fun(s:BuS)=>s.σ) (fun _=>[(0,.a (.v (.pointer (some ⟨gb,0,none⟩)))),(2,.a (.p 0 0)),(4,.a (.p 3 0))])
  (fun s=>[(0,.loc 28,zeroV),(3,.loc 28,ye x s)]) (buA gb ao L.length cap) 4
  (fun s=>σ.le s.σ/\s.ls=(dQ n x.lv (L.drop (k+1))).ls/\s.ks=(dQ n x.lv (L.drop (k+1))).ks/\s.vs=(dQ n x.lv (L.drop (k+1))).vs/\L.drop s.k=(dQ n x.lv (L.drop (k+1))).rest /\
   fJ s.σ s.ls s.lr/\fJ s.σ s.vs s.vr/\s.ks.length=s.vs.length/\k<s.k/\s.k<=L.length/\s.ls.length+s.ks.length<=L.length/\(∀ y∈s.ks,y.size<=bJ)/\s.ls.length<=s.lc/\s.ks.length<=s.mc) ?_
  (fun s ⟨hs,e1,e2,e3,e4,De,Ex,yw,zm,yx,hlen,GO,vV,Bq⟩=>?_)
 ·refine bX (fun(s:BuS)=>s.σ) (fun _=>[(0,.a (.v (.pointer (some ⟨gb,0,none⟩)))),(2,.a (.p 0 0)),(3,.a (.p 2 0)),(4,.a (.p 3 0))])
   (fun s=>[(0,.loc 28,zeroV),(2,.loc 130,di x),(3,.loc 28,ye x s)]) (buA gb ao L.length cap) 4
   (fun s=>σ.le s.σ/\s.ls++(dQ s.m x.lv (L.drop s.k)).ls=(dQ n x.lv (L.drop (k+1))).ls/\s.ks++(dQ s.m x.lv (L.drop s.k)).ks=(dQ n x.lv (L.drop (k+1))).ks/\s.vs++(dQ s.m x.lv (L.drop s.k)).vs=(dQ n x.lv (L.drop (k+1))).vs /\
    (dQ s.m x.lv (L.drop s.k)).rest=(dQ n x.lv (L.drop (k+1))).rest/\s.m<=n/\2*(L.drop s.k).length+1<=s.m /\
    fJ s.σ s.ls s.lr/\fJ s.σ s.vs s.vr/\s.ks.length=s.vs.length/\k<s.k/\s.k<=L.length/\s.ls.length+s.ks.length+(L.length - s.k)<=L.length/\(∀ y∈s.ks,y.size<=bJ)/\s.ls.length<=s.lc/\s.ks.length<=s.mc)
   (fun s=>L.length - s.k) ⟨σ,n,k+1,[],[],none,0,[],[],[],none,0⟩ ⟨al.le_refl _,rfl,rfl,rfl,rfl,aq _,by dsimp only;rw[bm];omega,rfl,rfl,rfl,by dsimp only;omega,by dsimp only;omega,by dsimp only[List.length_nil];omega,fun y h=>(by cases h),aq _,aq _⟩
   rfl Zs Zs rfl Zl Zl fun⟨s,m,k1,ls,lr,la,lc,ks,vs,vr,ma,mc⟩ ⟨hs,e1,e2,e3,e4,hm,Nn,De,Ex,yw,zm,yx,hlen,GO,vV,Bq⟩=>?_
  dsimp only at hs e1 e2 e3 e4 hm Nn De Ex yw zm yx hlen GO vV Bq ⊢
  obtain⟨m,rfl⟩:∃ m',m=m'+1:=⟨m - 1,by omega⟩
  refine Za ?_
  refine ck [(0,.pure),(1,.pure),(2,.pure),(3,.quiet),(4,.pure),(5,.pure),(6,.pure),(7,.quiet),(8,.pure),(9,.pure),(10,.pure),(11,.pure),(12,.pure),(13,.pure),(14,.quiet),(15,.pure),(16,.pure),(17,.pure),(18,.quiet),(19,.pure),(20,.pure),(21,.quiet),(22,.pure),(23,.quiet),(24,.pure),(25,.pure)] mixed Zk (aM TT rfl ?_)
  refine eH 0 (c:=.v (.int .i64 k1)) TT Z Z Z Z Z Z Z Z Z Z Z trivial (Zr ?_)
  refine eH 0 (c:=.v (.slice ao L.length cap)) TT Z Z Z Z Z Z Z Z Z Z Z trivial (Zr ?_)
  refine ax 43 rfl (fun h=>?_) (fun h=>?_)
  rotate_left
  ·have fQ:k1=L.length:=by have:=ab h;omega
   subst fQ
   rw[bC,dQ] at e1 e2 e3 e4
   simp only[aL] at e1 e2 e3
   refine D2 ?_
   refine an ⟨s,m,L.length,ls,lr,la,lc,ks,vs,vr,ma,mc⟩ ⟨hs,e1,e2,e3,by dsimp only;rw[bC];exact e4,De,Ex,yw,zm,yx,by dsimp only;omega,GO,vV,Bq⟩ aj rfl Zs Zs rfl Zl Zl
  have cz:k1<L.length:=by have:=ae h;omega
  have Ev:L.drop k1=L[k1]::L.drop (k1+1):=aB cz
  have oC:(cv L)[k1]?=some (di L[k1]):=dn (aa cz)
  have Sz:=hF _ (aP cz)
  generalize hy:L[k1]=y at *
  rw[Ev,dQ] at e1 e2 e3 e4
  refine Zr ?_
  refine eH 0 (c:=.v (.slice ao L.length cap)) TT Z Z Z Z Z Z Z Z Z Z Z trivial (Zr ?_)
  refine eH 0 (c:=.v (.int .i64 k1)) TT Z Z Z Z Z Z Z Z Z Z Z trivial (Zr ?_)
  refine bk TT Z Z Z Z Z Z Z Z Z (H.mono hs) Zo oC (Zr ?_)
  refine Za ?_
  refine aG rfl (fun h=>?_) (fun h=>?_)
  rotate_left
  ·have ud:¬ x.lv<y.lv:=ab h
   simp only[ai ud,aL] at e1 e2 e3 e4
   refine Ze ?_
   refine an ⟨s,m,k1,ls,lr,la,lc,ks,vs,vr,ma,mc⟩ ⟨hs,e1,e2,e3,by dsimp only;rw[Ev];exact e4,De,Ex,yw,zm,yx,by dsimp only;omega,GO,vV,Bq⟩ aj rfl Zs Zs rfl Zl Zl
  have ud:x.lv<y.lv:=ae h
  rw[au ud] at e1 e2 e3 e4
  refine Zd ?_
  refine ck [(0,.pure),(1,.pure),(2,.pure),(3,.quiet),(4,.pure),(5,.pure),(6,.pure),(7,.quiet),(8,.pure),(9,.quiet),(10,.dP),(11,.sink)] mixed Zk (aM TT rfl ?_)
  refine eH 0 (c:=.v (.slice ao L.length cap)) TT Z Z Z Z Z Z Z Z Z Z Z trivial (Zr ?_)
  refine eH 0 (c:=.v (.int .i64 k1)) TT Z Z Z Z Z Z Z Z Z Z Z trivial (Zr ?_)
  refine bk TT Z Z Z Z Z Z Z Z Z (H.mono hs) Zo oC (Zr ?_)
  refine Za ?_
  have af4:(L.drop k1).length=L.length - k1:=bm
  refine dT [0,1,2] (A0:=[bE gb ao L.length cap k1]) (Ar:=[⟨la,ls.length,lc,28,8,lr.flatten.map AT.val⟩,⟨ma,ks.length,mc,184,9,(ig ks vr).flatten.map AT.val⟩]) Z Z Z Z Z Z Z Tryz.call153 (by (repeat' (first | exact trivial | exact bh rfl | exact dF _ _ _ _ _ _ | exact dw _ _ | refine kz.of ?_ | refine SV.iv ?_ | exact SV.ez | exact AT.ez | exact eQ.qv (by assumption) | constructor))) (ih m Zo s k1 gb (H.mono hs) cz Zo) fun v nC A2 cw ⟨rr,k2,hv,oV,mS,ae9,LY,hA⟩=>⟨.agg rr,oV.qv,hv.symm,?_⟩
  subst hA
  rw[Ev] at oV mS
  rw[<-mS] at e1 e2 e3 e4
  generalize (eY m (y::L.drop (k1+1))).1=gx at *
  obtain⟨Ut,Us,F3,Ur,Uq,F0,rfl,XV⟩:=oV.open
  have af3:(L.drop k2).length=L.length - k2:=bm
  have hbr:=wT
  have mR:=al.le_trans hs cw
  have SJ:=De.mono cw
  have SI:=Ex.mono cw
  have DU:=De.len
  have hvr:=Ex.len
  refine gX ?_
  refine aG rfl (fun h=>?_) (fun h=>?_)
  ·simp only[au (show y.nm=true from h)] at e1 e2 e3 e4
   refine Za ?_
   refine bl TT 2 Z Z Z Z Z Z Z Z Z Z Z Z Z Z Z Z Z Z Zl rfl Zo (by show(ks.length+1)*128<=_;omega) fun iB dk gS=>aM TT rfl ?_
   refine Zc ?_
   refine an ⟨nC,m,k2,ls,lr,la,lc,ks++[y.name],vs++[gx],vr++[dN gx Ut Us Ur Uq],iB,dk⟩
    ⟨mR,e1,by rw[av];exact e2,by rw[av];exact e3,e4,by dsimp only;omega,by dsimp only;omega,SJ,fJ.append SI ⟨_,_,rfl,oV,rfl⟩,by simp[yw],by dsimp only;omega,LY,by dsimp only;rw[af,b8];omega,
     fun z hz=>by
      rcases bz.1 hz with hz | hz
      ·exact GO z hz
      ·rw[aU.1 hz];exact Sz.2.2,vV,by dsimp only;rw[af];exact gS⟩ (by dsimp only;omega) rfl Zs ?_ ?_ Zl Zl
   ·refine⟨rfl,rfl,?_,trivial⟩
    show some _=some _
    unfold ye
    rw[af]
    rfl
   ·unfold buA
    dsimp only
    rw[tn _ _ _ _ Zo,af]
    simp only[fj,aF,dx,List.flatten_nil,aL]
    rfl
  ·simp only[ai (show ¬ y.nm=true by simp[show y.nm=false from h])] at e1 e2 e3 e4
   refine Za ?_
   refine bl TT 1 Z Z Z Z Z Z Z Z Z Z Z Z Z Z Z Z Z Z Zl rfl Zo (by show(ls.length+1)*112<=_;omega) fun iB dk gS=>aM TT rfl ?_
   refine Zc ?_
   refine an ⟨nC,m,k2,ls++[gx],lr++[dN gx Ut Us Ur Uq],iB,dk,ks,vs,vr,ma,mc⟩
    ⟨mR,by rw[av];exact e1,e2,e3,e4,by dsimp only;omega,by dsimp only;omega,fJ.append SJ ⟨_,_,rfl,oV,rfl⟩,SI,yw,by dsimp only;omega,LY,by dsimp only;rw[af,b8];omega,
     GO,by dsimp only;rw[af];exact gS,Bq⟩ (by dsimp only;omega) rfl Zs ?_ ?_ Zl Zl
   ·refine⟨rfl,rfl,?_,trivial⟩
    show some _=some _
    unfold ye
    rw[af]
    rfl
   ·unfold buA
    dsimp only
    rw[af]
    simp only[fj,aF,dx,List.flatten_nil,aL]
    rfl
 obtain⟨s,m,k1,ls,lr,la,lc,ks,vs,vr,ma,mc⟩:=s
 dsimp only at hs e1 e2 e3 e4 De Ex yw zm yx hlen GO vV Bq ⊢
 rw[<-e1,<-e2,<-e3,<-e4]
 clear e1 e2 e3 e4
 have DU:=De.len
 have hvr:=Ex.len
 refine Zb ?_
 refine dD 1 Z Z fun lQ cP x4=>?_
 refine dD 1 Z Z fun nC cw Fy=>?_
 refine dq TT rfl fun β w' _ _=>?_
 have S1:=(x4.sl (rows:=lr) (sz:=8) rfl (fun r hr=>⟨(De.rows r hr).1,(De.rows r hr).2.1⟩) DU rfl vV).mono cw
 have S2:=Fy.sl (rows:=ig ks vr) (sz:=9) (n:=ks.length) rfl (fun r hr=>?_) (pt Zo) rfl Bq
 ·refine⟨ye x ⟨s,m,k1,ls,lr,la,lc,ks,vs,vr,ma,mc⟩,k1,rfl,?_,rfl,zm,yx,rfl⟩
  simp only[eQ]
  exact⟨la,lc,lr,ma,mc,vr,rfl,S1,(De.mono cP).mono cw,yw,S2,(Ex.mono cP).mono cw,lj.1,lj.2.1,by simp only[bJ];omega,by simp only[bJ];omega,GO⟩
 ·obtain⟨j,hj⟩:=List.getElem?_of_mem hr
  have m2:=(ah.1 hj).1
  rw[pt Zo] at m2
  have hg:=ia (aa m2) (aa (l:=vr) (i:=j) Zo)
  rw[hg] at hj
  injection hj with hj
  subst hj
  have:=Ex.rows _ (aP (l:=vr) (n:=j) Zo)
  exact⟨by simp[qJ,this.1],zh this.2.1⟩
end Go.Sy
namespace Go.Sy
open Go.Proofs
def xY (l:List Int):List Value:=l.map fun x=>Value.int .i64 x
structure NmS where
 k:Nat
 op:List Int
 oo:Option Addr
 oc:Nat
def nmA (oo:Option Addr) (oc:Nat) (op:List Int):List AE:=[⟨oo,op.length,oc,3,1,xY op⟩]
theorem Vh(σ:al)(L:List aH)(hL:L.length<=100000)(ao:Option Addr)(cap:Nat)(H:bu σ ao L.length cap 11 (cv L))(ud:kr 0 L):
  bZ Tryz.prog 152 [.a (.v (.slice ao L.length cap))] σ (fun v=>v=.bool (m7 L)):=by
 refine bW Tryz.func152 Z Z Zl fun w=>?_
 refine dV 3 1 ?_
 refine Zd ?_
 refine bX (fun _=>σ) (fun(s:NmS)=>[(3,.a (.v (.slice s.oo s.op.length s.oc))),(7,.a (.v (.slice ao L.length cap))),(8,.a (.v (.int .i64 L.length))),(9,.a (.v (.int .i64 s.k)))]) (fun _=>[]) (fun s=>nmA s.oo s.oc s.op) 0
  (fun s=>s.k<=L.length/\eU s.op (L.drop s.k)=m7 L/\kr s.op.length (L.drop s.k)/\s.op.length<=s.oc/\s.op.length<=s.k) (fun s=>L.length - s.k) ⟨0,[],none,0⟩ ⟨ay _,rfl,ud,aq _,aq _⟩ rfl Zs Zs rfl Zl Zl fun⟨k,op,oo,oc⟩ ⟨hk,qg,ud,hc,mK⟩=>?_
 dsimp only at hk qg ud hc mK ⊢
 refine Za ?_
 refine aG rfl (fun h=>?_) (fun h=>?_)
 rotate_left
 ·have fQ:k=L.length:=by have:=ab h;omega
  subst fQ
  rw[bC] at qg
  refine Ze ?_
  refine aw TT rfl fun β w' _ _=>?_
  rw[<-qg]
  rfl
 have cz:k<L.length:=by have:=ae h;omega
 have bU:(cv L)[k]?=some (di L[k]):=dn (aa cz)
 rw[aB cz] at qg ud
 generalize L[k]=x at *
 obtain⟨VA,Sj,Si⟩:=ud
 rw[eU] at qg
 obtain⟨j,hj⟩:∃ j:Nat,x.lv=j:=⟨x.lv.toNat,by omega⟩
 rw[show x.lv.toNat=j by omega] at qg Si
 have m2:j<=op.length:=by omega
 refine Zd ?_
 refine bk TT Z Z Z Z Z Z Z Z Z H Zo bU (Zr ?_)
 refine Za ?_
 refine eN TT j Z Z Z Z Z Z Z Z Z hj Zo hc (Zr ?_)
 have lJ:(op.take j).length=j:=by rw[aE];omega
 have L5:[(⟨oo,op.length,oc,3,1,xY op⟩:AE)].set 0 (AE.cut ⟨oo,op.length,oc,3,1,xY op⟩ j)=nmA oo oc (op.take j):=by
  show [_]=[_]
  rw[lJ]
  simp[AE.cut,xY,dG]
 refine vu 0 j Z Z m2 L5 ?_
 generalize op.take j=o at *
 subst lJ
 refine iu ?_
 refine Tq (α:=Unit) (fun _=>σ) (fun _=>[(3,.a (.v (.slice oo o.length oc))),(5,.a (.p 1 0)),(6,.a (.b (o.getLast? == some 5))),(7,.a (.v (.slice ao L.length cap))),(8,.a (.v (.int .i64 L.length))),(9,.a (.v (.int .i64 k)))])
  (fun _=>[(1,.loc 130,di x)]) (fun _=>nmA oo oc o) 2 (fun _=>True) ?_ (fun _ _=>?_)
 ·refine Za ?_
  refine ax 20 rfl (fun h=>?_) (fun h=>?_)
  ·have mT:0<o.length:=by have:=ae h;omega
   have Am:o.getLast?=some o[o.length - 1]:=by rw[List.getLast?_eq_getElem?,aa]
   refine uE 0 (E:=⟨oo,o.length,oc,3,1,xY o⟩) rfl mT fun g1 pN=>?_
   have pN:oo=some ⟨g1,0,none⟩:=pN
   subst pN
   refine Zr ?_
   refine iY Z Z Z Z Z Z Zo (Zr ?_)
   refine br TT Z Z Z Z Z Z Z Z Z ⟨by omega,by omega⟩ (Zr ?_)
   refine eH 0 (off:=o.length - 1) (c:=.v (.int .i64 o[o.length - 1])) TT Z Z Z Z Z ?_ Z Z Z Z ?_ trivial (Zr ?_)
   ·show some (SV.a (AT.v (.pointer (some (Addr.add ⟨g1,0,none⟩ (((o.length:Int) - 1).toNat*1))))))=_
    rw[jM,show((o.length:Int) - 1).toNat*1=o.length - 1 by omega]
   ·show(xY o)[o.length - 1]?=_
    unfold xY
    rw[aO,aa Zo]
    rfl
   refine Zc ?_
   refine gu 6 (.a (.b (o.getLast? == some 5))) rfl trivial (fun β=>?_) ?_
   ·show Value.bool _=Value.bool _
    congr 1
    rw[Am,cg]
    simp
   refine an () trivial aj rfl Zs Zs rfl Zl Zl
  ·have h0:o=[]:=by
    have:=ab h
    exact aY Zo
   subst h0
   refine lP ?_
   refine gu 6 (.a (.b (([]:List Int).getLast? == some 5))) rfl trivial (fun β=>rfl) ?_
   refine an () trivial aj rfl Zs Zs rfl Zl Zl
 have go:∀(e:(x.nm != (o.getLast? == some 5))=false) (e2:(!x.nm&&!decide (x.name=⟨#[]⟩))=false),eU (o++[x.kd]) (L.drop (k+1))=m7 L:=fun e e2=>by
  rw[e,e2] at qg
  exact qg
 refine Za ?_
 refine ax 33 rfl (fun h=>?_) (fun h=>?_)
 ·refine gn ?_
  refine aw TT rfl fun β w' _ _=>?_
  have h:(x.nm != (o.getLast? == some 5))=true:=h
  rw[h,Bool.true_or,au rfl] at qg
  rw[<-qg]
  rfl
 have h1:(x.nm != (o.getLast? == some 5))=false:=h
 refine Zr ?_
 refine ax 37 rfl (fun h=>?_) (fun h=>?_)
 ·have h2:(!x.nm)=true:=h
  refine gX ?_
  refine aG rfl (fun h=>?_) (fun h=>?_)
  ·have h3:(!decide (x.name=⟨#[]⟩))=true:=h
   refine Zb ?_
   refine aw TT rfl fun β w' _ _=>?_
   rw[h1,h2,h3,cp,Bool.or_true,au rfl] at qg
   rw[<-qg]
   rfl
  ·have h3:(!decide (x.name=⟨#[]⟩))=false:=h
   have qt:=go h1 (by rw[h3,lu])
   refine Zc ?_
   refine bl TT 0 Z Z Z Z Z Z Z Z Z Z Z Z Z Z Z Z Z Z Zl rfl Zo (by show(o.length+1)*8<=_;omega) fun iB dk gS=>aM TT rfl ?_
   refine Zc ?_
   refine an ⟨k+1,o++[x.kd],iB,dk⟩ ⟨cz,qt,by dsimp only;rw[af];exact Si,by dsimp only;rw[af];exact gS,by dsimp only;rw[af,b8];omega⟩ (by dsimp only;omega) rfl ?_ Zs ?_ Zl Zl
   ·refine⟨?_,rfl,rfl,rfl,trivial⟩
    dsimp only
    rw[af]
    rfl
   ·unfold nmA
    dsimp only
    rw[af]
    simp only[xY,aF]
    rfl
 ·have h2:(!x.nm)=false:=h
  have qt:=go h1 (by rw[h2,dt])
  refine pC ?_
  refine bl TT 0 Z Z Z Z Z Z Z Z Z Z Z Z Z Z Z Z Z Z Zl rfl Zo (by show(o.length+1)*8<=_;omega) fun iB dk gS=>aM TT rfl ?_
  refine Zc ?_
  refine an ⟨k+1,o++[x.kd],iB,dk⟩ ⟨cz,qt,by dsimp only;rw[af];exact Si,by dsimp only;rw[af];exact gS,by dsimp only;rw[af,b8];omega⟩ (by dsimp only;omega) rfl ?_ Zs ?_ Zl Zl
  ·refine⟨?_,rfl,rfl,rfl,trivial⟩
   dsimp only
   rw[af]
   rfl
  ·unfold nmA
   dsimp only
   rw[af]
   simp only[xY,aF]
   rfl
end Go.Sy
namespace Go.Sy
open Go.Proofs
theorem Mm(σ:al)(ao:Option Addr)(n cap:Nat):
  fa Tryz.prog 209 [.a (.v (.slice ao n cap))] σ (fun v bD=>∃ g,v=.func (.func 233) #[] #[.pointer (some ⟨g,0,none⟩)]/\bD.cell ⟨g,0,none⟩=some (.slice ao n cap)):=by
 refine ek Tryz.func209 Z Z Zl fun w=>?_
 refine Zb ?_
 refine rO 0 1 1 rfl Zl rfl (by decide) fun g=>?_
 refine dD 0 Z Z fun bD hle hS=>?_
 refine aw TT rfl fun β w' _ _=>?_
 refine⟨g,rfl,?_⟩
 rcases hS with⟨h1,_⟩ | ⟨g',h1,h2⟩
 ·cases h1
 ·injection h1 with h1
  simp only[Addr.mk.injEq,and_true] at h1
  subst h1
  exact h2 0 _ rfl
theorem Hb(σ:al)(l:Nat)(r:Loop)(g:Nat)(ao:Option Addr)(cap:Nat)(L:List aH)(hL:L.length<=100000)(E1 E2:AE)(Inv:Nat->AE->AE->Prop)(Stop:al->AE->AE->Prop)(hl:σ l=some (.loop r))(hp:Nat.beq 2 r.params.size=true)(hg:σ.cell ⟨g,0,none⟩=some (.slice ao L.length cap))(H:bu σ ao L.length cap 11 (cv L))(h0:Inv L.length E1 E2)(C0:∀(k:Nat) (hk:k<L.length) (s:al) (F1 F2:AE),s l=some (.loop r)->σ.WK l s->Inv (k+1) F1 F2->Mw Tryz.prog l r (([.a (.v (.int .i64 k)),.agg (di L[k])]:List SV).map (SV.den fy)).toArray s [F1,F2] (fun v s' A'=>∃ G1 G2,A'=[G1,G2]/\((v=.bool true/\s' l=some (.loop r)/\Inv k G1 G2)\/(v=.bool false/\Stop s' G1 G2)))):
  DQ Tryz.prog 233 (([.a (.fn (.yield l) []),.a (.v (.pointer (some ⟨g,0,none⟩)))]:List SV).map (SV.den fy)).toArray l σ [E1,E2] (fun _ s' A'=>∃ G1 G2,A'=[G1,G2]/\((s' l=some (.loop r)/\Inv 0 G1 G2)\/Stop s' G1 G2)):=by
 refine Td Tryz.func233 Z Z ⟨SV.ez,trivial,trivial⟩ fun w=>?_
 refine Za ?_
 refine oR (c:=.v (.slice ao L.length cap)) TT Z Z Z Z Z Z Z Z hg trivial (Zr ?_)
 refine Zg ?_
 refine bX (fun(p:al×Nat×AE×AE)=>p.1) (fun p=>[(0,.a (.fn (.yield l) [])),(1,.a (.v (.pointer (some ⟨g,0,none⟩)))),(3,.a (.v (.int .i64 (p.2.1 - 1))))]) (fun _=>[]) (fun p=>[p.2.2.1,p.2.2.2]) 0
  (fun p=>p.2.1<=L.length/\p.1 l=some (.loop r)/\σ.WK l p.1/\Inv p.2.1 p.2.2.1 p.2.2.2) (fun p=>p.2.1) (σ,L.length,E1,E2) ⟨aq _,hl,fun b o h=>?_,h0⟩ rfl Zs Zs rfl ⟨SV.ez,trivial,trivial,trivial⟩ Zl fun⟨s,m,F1,F2⟩ ⟨hm,pv,hs,hI⟩=>?_
 ·by_cases hb:b=l
  ·subst hb;rw[al.hY] at h;cases h
  ·rw[al.im hb] at h;exact h
 dsimp only at hm pv hs hI ⊢
 refine Za ?_
 refine aG rfl (fun h=>?_) (fun h=>?_)
 rotate_left
 ·have hm0:m=0:=by have:=ab h;omega
  subst hm0
  refine Ze ?_
  refine Vf TT rfl fun β=>?_
  exact⟨F1,F2,rfl,.inl ⟨pv,hI⟩⟩
 obtain⟨k,rfl⟩:∃ k,m=k+1:=⟨m - 1,by have:=ae h;omega⟩
 have bU:(cv L)[k]?=some (di L[k]):=dn (aa hm)
 refine u2 3 (.a (.v (.int .i64 k))) rfl trivial (fun β=>?_) ?_
 ·show Value.int .i64 (((k+1:Nat):Int) - 1)=_
  congr 1
  omega
 refine Zd ?_
 refine oR (c:=.v (.slice ao L.length cap)) TT Z Z Z Z Z Z Z Z (hs.Bw hl _ _ hg) trivial (Zr ?_)
 refine bk TT Z Z Z Z Z Z Z Z Z (H.k6 (hs.Bw hl)) Zo bU (Zr ?_)
 refine Rx [0,1] (A0:=[F1,F2]) (Ar:=[]) pv (al.hY ..) Z Z Z hp Z Z Z Z ⟨trivial,fP _ _,trivial⟩ (C0 k hm s F1 F2 pv hs hI) fun v s' A' hle ⟨G1,G2,hA,hv⟩=>?_
 subst hA
 have Vt:σ.WK l s':=fun b o h=>by
  have hb:b≠l:=fun e=>by subst e;rw[al.hY] at h;cases h
  rw[al.im hb] at h
  exact hle.at_ hb (hs.at_ hb h)
 rcases hv with⟨hv,ak2,hI'⟩ | ⟨hv,pL⟩
 ·refine⟨.a .tt,trivial,hv.symm,aM TT rfl ?_⟩
  refine Zg ?_
  refine an (s',k,G1,G2) ⟨by dsimp only;omega,ak2,Vt,hI'⟩ (db k) rfl Zs Zs rfl ⟨SV.ez,trivial,trivial,trivial⟩ Zl
 ·refine⟨.a .ff,trivial,hv.symm,aM TT rfl ?_⟩
  refine Zb ?_
  refine Ve TT rfl fun β=>?_
  exact⟨G1,G2,rfl,.inr pL⟩
end Go.Sy
