/- Parts of the proof of CStreamsPlay: F29, F35, F36, F37, F38, Lg, Lh, Jb, Jd, F30, F41, H1, H5, H6, P1, Ka, K1, K2, KSh, K3. No conditions. -/
import Derived.Test.YtlonlnagmfdlbaaGreatDoorM6
import Derived.Shelf.Strings.Replace
import Derived.Test.YtlonlnagmfdlbaaGreatDoorProg
set_option maxRecDepth 100000
set_option maxHeartbeats 16000000
namespace Go.Sy
open Go.Proofs
def zS (l:List ByteArray):List Value:=l.map fun s=>Value.string s
def uv (bo:Option Addr) (bc:Nat) (l:List ByteArray):AE:=⟨bo,l.length,bc,9,1,zS l⟩
theorem sW: ∀ o:List ByteArray,zS o=(ib o).flatten.map AT.val
 | []=>rfl
 | k::o=>by
  show Value.string k::zS o=_
  rw[sW o]
  rfl
theorem uu(a:List ByteArray): ∀ r∈ib a,r.length=1/\(∀ c∈r,c.lt 0)/\r.all AT.one=true:=by
 intro r hr
 obtain⟨x,_,rfl⟩:=bL.1 hr
 exact⟨rfl,fun c hc=>(by cases hc with | head=>trivial | tail _ h=>cases h),rfl⟩
theorem wC{σ:al}{oo:Option Addr}{oc:Nat}{o:List ByteArray}(h:b9 σ (uv oo oc o))(hc:o.length<=oc): bu σ oo o.length oc 1 (ib o) :=
 h.sl (E:=uv oo oc o) (sW o) (fun r hr=>⟨(uu o r hr).1,(uu o r hr).2.1⟩) (by simp[ib]) rfl hc
def QE (l:List fH):List Value:=(oH l).flatten.map AT.val
def QF (bo:Option Addr) (bc:Nat) (l:List fH):AE:=⟨bo,l.length,bc,209,1,QE l⟩
theorem zT(a b:List fH): QE (a++b)=QE a++QE b:=by simp[QE,oH]
theorem BU(a:List fH): ∀ r∈oH a,r.length=1/\(∀ c∈r,c.lt 0)/\r.all AT.one=true:=by
 intro r hr
 obtain⟨x,_,rfl⟩:=bL.1 hr
 exact⟨rfl,fun c hc=>(by cases hc with | head=>trivial | tail _ h=>cases h),rfl⟩
theorem EK{σ:al}{oo:Option Addr}{oc:Nat}{o:List fH}(h:b9 σ (QF oo oc o))(hc:o.length<=oc): bu σ oo o.length oc 1 (oH o) :=
 h.sl (E:=QF oo oc o) rfl (fun r hr=>⟨(BU o r hr).1,(BU o r hr).2.1⟩) (by simp[oH]) rfl hc
theorem PZ(σ:al)(xs:List ByteArray)(hl:xs.length<=1000000)(ao:Option Addr)(cap:Nat)(H:bu σ ao xs.length cap 1 (ib xs)):
  pV Tryz.prog 171 [.a (.v (.slice ao xs.length cap))] σ [] (fun v _ A'=>∃ bo bc,v=.slice bo xs.length bc/\xs.length<=bc/\A'=[uv bo bc xs]):=by
 refine fk Tryz.func171 Z Z Zl fun w=>?_
 refine Zg ?_
 refine aG rfl (fun h=>?_) (fun h=>?_)
 ·have h0:ao=none:=by simpa using h
  have Hu:xs.length=0:=by
   rcases H.at_ with h1 | ⟨ad,h1,_⟩
   ·exact h1
   ·rw[h0] at h1;cases h1
  have hr:xs=[]:=aY Hu
  subst hr
  refine Zb ?_
  refine kg 9 1 ?_
  refine dq TT rfl fun β w' _ _=>?_
  exact⟨none,0,rfl,aq _,rfl⟩
 refine Zc ?_
 refine gP 0 0 1 rfl Zl rfl (by decide) fun gb=>?_
 refine dC TT 0 Z Z Z Z Z Z Z H Z Z Z Z Z Z Z Z Z (fun r hr=>(uu xs r hr).2.2) Zo (by show(0+xs.length)*16<=_;omega) fun iB dk gS=>aM TT rfl ?_
 refine Zb ?_
 refine dq TT rfl fun β w' _ _=>?_
 refine⟨iB,dk,by show Value.slice iB (0+xs.length) dk=_;rw[cG],by omega,?_⟩
 show [_]=[_]
 rw[cG]
 unfold uv
 rw[sW]
 rfl
def zG:ByteArray:=⟨#[46]⟩
def wv:ByteArray:=⟨#[91,93]⟩
def ph (uj:List ByteArray) (r:aH):List ByteArray :=
 uj.take (r.lv - 1).toNat++(if r.nm then [zG++r.name] else if 0<r.lv then [wv] else [])
def l6:List ByteArray->List aH->List (List ByteArray)
 | _,[]=>[]
 | uj,r::l=>ph uj r::l6 (ph uj r) l
def fq (L:List aH):List (List ByteArray):=l6 [] L
theorem kr.mono: ∀ {l:List aH} {m n:Nat},kr m l->m<=n->kr n l
 | [],_,_,_,_=>trivial
 | _::_,_,_,⟨h1,h2,h3⟩,O5=>⟨h1,by omega,h3⟩
structure PaW where
 uj:List ByteArray
 wo:Option Addr
 wc:Nat
structure PaS where
 uj:List ByteArray
 wo:Option Addr
 wc:Nat
 out:List fH
 oo:Option Addr
 oc:Nat
theorem Wn(σ:al)(L:List aH)(R:rT L)(hL:L.length<=100000)(hs:eG L=true)(GM:kr 0 L)(ao:Option Addr)(cap:Nat)(H:bu σ ao L.length cap 11 (cv L)):
  fa Tryz.prog 107 [.a (.v (.slice ao L.length cap))] σ (fun v bD=>∃ ps oo oc,v=.slice oo ps.length oc/\bu bD oo ps.length oc 1 (oH ps)/\(∀ p∈ps,uh bD p)/\ps.map fH.ss=fq L):=by
 refine ek Tryz.func107 Z Z Zl fun w=>?_
 refine Za ?_
 refine aT Z Z Z Z Z Tryz.call105 Zl (BC σ L R.len R.fit R.bw ao cap H) fun v hv=>⟨.a .tt,trivial,by rw[hv,hs];rfl,?_⟩
 refine pC ?_
 refine dV 9 1 ?_
 refine dV 209 1 ?_
 refine fm (fun(p:al×PaS)=>p.1) (fun p=>[(3,.a (.v (.slice p.2.oo p.2.out.length p.2.oc)))]) (fun _=>[]) (fun p=>[uv p.2.wo p.2.wc p.2.uj,QF p.2.oo p.2.oc p.2.out]) 0
  (fun p=>p.2.out.map fH.ss=fq L/\(∀ q∈p.2.out,uh p.1 q)/\p.2.out.length<=p.2.oc) ?_ (fun p hp=>?_)
 rotate_left
 ·obtain⟨s,uj,wo,wc,out,oo,oc⟩:=p
  obtain⟨h1,h2,h3⟩:=hp
  dsimp only at h1 h2 h3 ⊢
  refine Zb ?_
  refine dD 1 Z Z fun nC cw hS=>?_
  refine aw TT rfl fun β w' _ _=>?_
  exact⟨out,oo,oc,rfl,EK hS h3,fun q hq=>(h2 q hq).mono cw,h1⟩
 refine gC (fun(s:al) (_:Nat×PaS)=>s) (fun _ t=>[(3,.a (.v (.slice t.2.oo t.2.out.length t.2.oc))),(4,.a (.v (.slice t.2.wo t.2.uj.length t.2.wc))),(10,.a (.v (.slice ao L.length cap))),(11,.a (.v (.int .i64 L.length))),(12,.a (.v (.int .i64 (t.1:Nat))))])
  (fun _ _=>[]) (fun _ t=>[uv t.2.wo t.2.wc t.2.uj,QF t.2.oo t.2.oc t.2.out]) 0
  (fun s t=>σ.le s/\t.1<=L.length/\t.2.out.map fH.ss++l6 t.2.uj (L.drop t.1)=fq L/\kr (t.2.uj.length+1) (L.drop t.1)/\t.2.uj.length<=t.1/\t.2.uj.length<=t.2.wc/\t.2.out.length<=t.2.oc/\t.2.out.length<=t.1/\∀ q∈t.2.out,uh s q)
  (fun _ t=>L.length - t.1) σ (0,⟨[],none,0,[],none,0⟩) ⟨al.le_refl _,ay _,rfl,GM.mono (ay _),aq _,aq _,aq _,aq _,fun _ h=>(by cases h)⟩ rfl Zs Zs rfl Zl Zl fun s ⟨k,uj,wo,wc,out,oo,oc⟩ ⟨hle,hk,hp,ud,hwk,hwc,j6,mK,LP⟩=>?_
 dsimp only at hk hp ud hwk hwc j6 mK LP ⊢
 have H:=H.mono hle
 refine Za ?_
 refine aG rfl (fun h=>?_) (fun h=>?_)
 rotate_left
 ·have fQ:k=L.length:=by have:=ab h;omega
  subst fQ
  rw[bC,l6,aL] at hp
  refine Ze ?_
  refine an (s,(⟨uj,wo,wc,out,oo,oc⟩:PaS)) ⟨hp,LP,j6⟩ aj rfl Zs Zs rfl Zl Zl
 have cz:k<L.length:=by have:=ae h;omega
 have bU:=dn (aa cz)
 have lj:=R.fit L[k] (aP cz)
 rw[aB cz] at hp ud
 rw[l6] at hp
 generalize L[k]=x at *
 obtain⟨VA,Sj,Si⟩:=ud
 obtain⟨j,hj⟩:∃ j:Nat,(x.lv - 1).toNat=j:=⟨_,rfl⟩
 have hjw:j<=uj.length:=by omega
 have ou:ph uj x=uj.take j++(if x.nm then [zG++x.name] else if 0<x.lv then [wv] else []):=by unfold ph;rw[hj]
 rw[ou] at hp
 refine Zd ?_
 refine bk TT Z Z Z Z Z Z Z Z Z H Zo bU (Zr ?_)
 refine Zg ?_
 have hmx:(if x.lv - 1 > 0 then x.lv - 1 else 0)=(j:Int):=by split<;>omega
 refine Rz Z Z Z Z Z Z Z (Zr ?_)
 refine eN TT j Z Z Z Z Z Z Z Z Z hmx Zo hwc (Zr ?_)
 have lJ:(uj.take j).length=j:=by rw[aE];omega
 have L5:[uv wo wc uj,QF oo oc out].set 0 (AE.cut (uv wo wc uj) j)=[uv wo wc (uj.take j),QF oo oc out]:=by
  show [_,_]=[_,_]
  unfold uv
  rw[lJ]
  simp[AE.cut,zS,dG]
 refine vu 0 j Z Z hjw L5 ?_
 have aj3:j<=wc:=by omega
 have zn:j<=k:=by omega
 generalize uj.take j=w1 at *
 subst lJ
 have Sh:=lj.2.2
 simp only[bJ] at Sh
 refine iu ?_
 refine Tq (fun(_:PaW)=>s) (fun q=>[(3,.a (.v (.slice oo out.length oc))),(4,.a (.v (.slice q.wo q.uj.length q.wc))),(10,.a (.v (.slice ao L.length cap))),(11,.a (.v (.int .i64 L.length))),(12,.a (.v (.int .i64 k)))]) (fun _=>[])
  (fun q=>[uv q.wo q.wc q.uj,QF oo oc out]) 0 (fun q=>q.uj=w1++(if x.nm then [zG++x.name] else if 0<x.lv then [wv] else [])/\q.uj.length<=q.wc) ?_ (fun q hq=>?_)
 ·refine Zd ?_
  refine aG rfl (fun h=>?_) (fun h=>?_)
  ·refine Za ?_
   refine yX Z Z Z Z Z Z (by show 1+x.name.size<=_;omega) (Zr ?_)
   refine bl TT 0 Z Z Z Z Z Z Z Z Z Z Z Z Z Z Z Z Z Z Zl rfl Zo (by show(w1.length+1)*16<=_;omega) fun T4 T5 R8=>aM TT rfl ?_
   refine Zc ?_
   refine an (⟨w1++[zG++x.name],T4,T5⟩:PaW) ⟨by dsimp only;rw[au h],by dsimp only;rw[af];exact R8⟩ aj rfl ?_ Zs ?_ Zl Zl
   ·dsimp only
    rw[af]
    (repeat first | exact trivial | refine⟨rfl,?_⟩)
   ·show [_,_]=[_,_]
    dsimp only
    unfold uv zS
    rw[aF,af]
    rfl
  ·refine Za ?_
   refine aG rfl (fun h2=>?_) (fun h2=>?_)
   ·have h2:=ae h2
    refine Za ?_
    refine bl TT 0 Z Z Z Z Z Z Z Z Z Z Z Z Z Z Z Z Z Z Zl rfl Zo (by show(w1.length+1)*16<=_;omega) fun T4 T5 R8=>aM TT rfl ?_
    refine Zc ?_
    refine an (⟨w1++[wv],T4,T5⟩:PaW) ⟨by dsimp only;rw[h,ai (by simp),au Zo],by dsimp only;rw[af];exact R8⟩ aj rfl ?_ Zs ?_ Zl Zl
    ·dsimp only
     rw[af]
     (repeat first | exact trivial | refine⟨rfl,?_⟩)
    ·show [_,_]=[_,_]
     dsimp only
     unfold uv zS
     rw[aF,af]
     rfl
   ·have h2:=ab h2
    refine Zc ?_
    refine an (⟨w1,wo,wc⟩:PaW) ⟨by dsimp only;rw[h,ai (by simp),ai Zo,aL],aj3⟩ aj rfl Zs Zs rfl Zl Zl
 obtain⟨D3,T4,T5⟩:=q
 obtain⟨hq,GF⟩:=hq
 dsimp only at hq GF ⊢
 rw[<-hq] at hp
 have Zw:x.lv.toNat<=D3.length/\D3.length<=k+1:=by
  rw[hq,af]
  split
  ·rw[b8];omega
  ·split
   ·rw[b8];omega
   ·rw[List.length_nil];omega
 clear hq ou
 refine Za ?_
 refine I0 (Φ:=fun v A'=>∃ bo bc,v=.slice bo D3.length bc/\D3.length<=bc/\A'=[uv bo bc D3]) Z Z Z Z Z Tryz.call171 Zl (fun bD h1 h2=>PZ bD D3 Zo T4 T5 (wC (h2 0 _ rfl) GF)) fun v A' ⟨bo,bc,hv,oq,hA⟩=>⟨.a (.v (.slice bo D3.length bc)),trivial,hv.symm,?_⟩
 subst hA
 refine iI 2 Z Z Z fun nC cw hS=>?_
 have rP:uh nC ⟨bo,bc,D3⟩:=⟨by dsimp only;omega,wC hS oq⟩
 refine Zr ?_
 refine bl TT 1 Z Z Z Z Z Z Z Z Z Z Z Z Z Z Z Z Z Z Zl rfl Zo (by show(out.length+1)*24<=_;omega) fun om nE lS=>aM TT rfl ?_
 refine Zc ?_
 refine an (nC,k+1,(⟨D3,T4,T5,out++[⟨bo,bc,D3⟩],om,nE⟩:PaS)) ⟨al.le_trans hle cw,cz,by dsimp only;rw[aF,av];exact hp,Si.mono (by dsimp only;omega),Zw.2,GF,by dsimp only;rw[af];exact lS,by dsimp only;rw[af,b8];omega,fun q hq=>?_⟩ (by dsimp only;omega) rfl ?_ Zs ?_ Zl Zl
 ·rcases bz.1 hq with hq | hq
  ·exact(LP q hq).mono cw
  ·rw[aU] at hq;subst hq;exact rP
 ·dsimp only
  rw[af]
  (repeat first | exact trivial | refine⟨rfl,?_⟩)
 ·show [_,_]=[_,_]
  dsimp only
  unfold QF
  rw[zT,af]
  rfl
end Go.Sy
namespace Go.Sy
open Go.Proofs
def nr (s p:ByteArray):Bool:=decide ((s.size:Int)≥p.size)&&decide (s.extract 0 p.size=p)
theorem Kw(σ:al)(s p:ByteArray): bZ Tryz.prog 257 [.a (.v (.string s)),.a (.v (.string p))] σ (fun v=>v=.bool (nr s p)):=by
 refine bW Tryz.func257 Z Z Zl fun w=>?_
 refine Za ?_
 refine ax 10 rfl (fun h=>?_) (fun h=>?_)
 ·have h:decide ((s.size:Int)≥p.size)=true:=h
  have hle:=ae h
  refine Zr ?_
  refine p7 TT 0 p.size Z Z Z Z Z Z Z Z Z (.inl ⟨rfl,rfl⟩) (.inr ⟨_,_,rfl,rfl⟩) (ay _) Zo (Zr ?_)
  refine Zb ?_
  refine aw TT rfl fun β w' _ _=>?_
  unfold nr
  rw[h,cp]
  rfl
 ·have h:decide ((s.size:Int)≥p.size)=false:=h
  refine gn ?_
  refine aw TT rfl fun β w' _ _=>?_
  unfold nr
  rw[h,dt]
  rfl
def Dt (s p:ByteArray):ByteArray:=if nr s p then s.extract p.size s.size else s
theorem Hl(σ:al)(s p:ByteArray): bZ Tryz.prog 247 [.a (.v (.string s)),.a (.v (.string p))] σ (fun v=>v=.tuple #[.string (Dt s p),.bool (nr s p)]):=by
 refine bW Tryz.func247 Z Z Zl fun w=>?_
 refine Za ?_
 refine aT Z Z Z Z Z Tryz.call257 Zl (Kw σ s p) fun v hv=>⟨.a (.b (nr s p)),trivial,hv.symm,?_⟩
 refine gX ?_
 refine aG rfl (fun h=>?_) (fun h=>?_)
 ·have h:nr s p=false:=by simpa using h
  refine Zb ?_
  refine aw TT rfl fun β w' _ _=>?_
  unfold Dt
  rw[h]
  rfl
 ·have h:nr s p=true:=by simpa using h
  have hle:p.size<=s.size:=by
   unfold nr at h
   rw[aQ] at h
   have:=ae h.1
   omega
  refine Zc ?_
  refine p7 TT p.size s.size Z Z Z Z Z Z Z Z Z (.inr ⟨_,_,rfl,rfl⟩) (.inl ⟨rfl,rfl⟩) hle (aq _) (Zr ?_)
  refine Zb ?_
  refine aw TT rfl fun β w' _ _=>?_
  unfold Dt
  rw[h]
  rfl
theorem Ky(σ:al)(s p:ByteArray): bZ Tryz.prog 234 [.a (.v (.string s)),.a (.v (.string p))] σ (fun v=>v=.tuple #[.string (Dt s p),.bool (nr s p)]):=by
 refine bW Tryz.func234 Z Z Zl fun w=>?_
 refine Za ?_
 refine aT Z Z Z Z Z Tryz.call247 Zl (Hl σ s p) fun v hv=>⟨.ik [.a (.v (.string (Dt s p))),.a (.b (nr s p))],Zl,hv.symm,?_⟩
 refine gn ?_
 refine aw TT rfl fun β w' _ _=>?_
 rfl
structure gY where
 k8:Int
 name:ByteArray
def mz (p:gY):List AT:=[.v (.int .i64 p.k8),.v (.string p.name)]
def iN (l:List gY):List (List AT):=l.map mz
theorem th{l:List gY}{i:Nat}{x:gY}(h:l[i]?=some x): (iN l)[i]?=some (mz x):=by unfold iN;rw[aO,h];rfl
def vY:ByteArray:=⟨#[46]⟩
def Xf:ByteArray:=⟨#[91,93]⟩
def mJ (p:gY) (s:ByteArray):Bool:=if p.k8=1 then (nr s vY&&decide (Dt s vY=p.name)) else if p.k8=2 then true else if p.k8=3 then decide (s=Xf) else false
theorem VY(σ:al)(p:gY)(s:ByteArray): bZ Tryz.prog 212 [.agg (mz p),.a (.v (.string s))] σ (fun v=>v=.bool (mJ p s)):=by
 have hf:mJ p s=if p.k8=1 then (nr s vY&&decide (Dt s vY=p.name)) else if p.k8=2 then true else if p.k8=3 then decide (s=Xf) else false:=rfl
 refine bW Tryz.func212 Z Z ⟨(by unfold mz;(repeat' (first | exact trivial | exact bh rfl | exact dF _ _ _ _ _ _ | exact dw _ _ | refine kz.of ?_ | refine SV.iv ?_ | exact SV.ez | exact AT.ez | exact eQ.qv (by assumption) | constructor))),trivial,trivial⟩ fun w=>?_
 refine Zd ?_
 refine aG rfl (fun h=>?_) (fun h=>?_)
 ·rw[au (ae h)] at hf
  refine Za ?_
  refine aT Z Z Z Z Z Tryz.call234 Zl (Ky σ s vY) fun v hv=>⟨.ik [.a (.v (.string (Dt s vY))),.a (.b (nr s vY))],Zl,hv.symm,?_⟩
  refine gX ?_
  refine ax 17 rfl (fun h=>?_) (fun h=>?_)
  ·have h:nr s vY=true:=h
   refine gn ?_
   refine aw TT rfl fun β w' _ _=>?_
   rw[hf,h,cp]
   rfl
  ·have h:nr s vY=false:=h
   refine gn ?_
   refine aw TT rfl fun β w' _ _=>?_
   rw[hf,h,dt]
   rfl
 rw[ai (ab h)] at hf
 refine Za ?_
 refine aG rfl (fun h=>?_) (fun h=>?_)
 ·rw[au (ae h)] at hf
  refine Zb ?_
  refine aw TT rfl fun β w' _ _=>?_
  rw[hf]
  rfl
 rw[ai (ab h)] at hf
 refine Za ?_
 refine aG rfl (fun h=>?_) (fun h=>?_)
 ·rw[au (ae h)] at hf
  refine Zb ?_
  refine aw TT rfl fun β w' _ _=>?_
  rw[hf]
  rfl
 rw[ai (ab h)] at hf
 refine Zg ?_
 refine aw TT rfl fun β w' _ _=>?_
 rw[hf]
 rfl
structure AlS where
 k:Nat
 o:List Int
 oo:Option Addr
 oc:Nat
def v7 (q:Nat->cH->Bool):List cH->Nat->List Int
 | [],_=>[]
 | x::l,k=>if q k x then x.id::v7 q l (k+1) else v7 q l (k+1)
theorem ag9(σ:al)(xs:List cH)(hl:xs.length<=1000000)(ao:Option Addr)(cap:Nat)(next:Int)(H:bu σ ao xs.length cap 3 (eI xs))(f:FuncId)(iq:List PT)(mC:jj (iq.map lR))(gm:∀ args w,(callFunc f args).run Tryz.prog w=.ok (.enter f args) w)(q:Nat->cH->Bool)(hq:∀(k:Nat) x,xs[k]?=some x->bZ Tryz.prog f (.a (.v (.int .i64 k))::.agg (kE x)::iq.map lR) σ (fun v=>v=.bool (q k x)))(dj:(SV.a (.fn (.func f) iq)).lt 0):
  fa Tryz.prog 156 [.agg [.v (.slice ao xs.length cap),.v (.int .i64 next)],.a (.fn (.func f) iq)] σ (fun v bD=>∃ oo oc,v=.slice oo (v7 q xs 0).length oc/\bu bD oo (v7 q xs 0).length oc 1 (kK (v7 q xs 0))):=by
 refine ek Tryz.func156 Z Z ⟨Zl,dj,trivial⟩ fun w=>?_
 refine Zd ?_
 refine dV 3 1 ?_
 refine Za ?_
 refine bX (fun(_:AlS)=>σ) (fun t=>[(1,.a (.fn (.func f) iq)),(5,.a (.v (.slice t.oo t.o.length t.oc))),(9,.a (.v (.slice ao xs.length cap))),(10,.a (.v (.int .i64 xs.length))),(11,.a (.v (.int .i64 (t.k:Nat))))]) (fun _=>[]) (fun t=>[Fv t.oo t.oc t.o]) 0
  (fun t=>t.k<=xs.length/\t.o++v7 q (xs.drop t.k) t.k=v7 q xs 0/\t.o.length<=t.oc/\t.o.length<=t.k) (fun t=>xs.length - t.k) ⟨0,[],none,0⟩ ⟨ay _,rfl,aq _,aq _⟩ rfl Zs Zs rfl ⟨dj,trivial,trivial,trivial,trivial,trivial⟩ trivial fun⟨k,o,oo,oc⟩ ⟨hk,hp,j6,mK⟩=>?_
 dsimp only at hk hp j6 mK ⊢
 refine Za ?_
 refine aG rfl (fun h=>?_) (fun h=>?_)
 rotate_left
 ·have fQ:k=xs.length:=by have:=ab h;omega
  rw[fQ,bC,v7,aL] at hp
  subst hp
  refine Ze ?_
  refine dD 0 Z Z fun bD nY hS=>?_
  refine aw TT rfl fun β w' _ _=>?_
  exact⟨oo,oc,rfl,sk hS j6⟩
 have cz:k<xs.length:=by have:=ae h;omega
 have O3:xs[k]?=some xs[k]:=aa cz
 have uk:=m8 O3
 have hqx:=hq k xs[k] O3
 rw[aB cz,v7] at hp
 generalize xs[k]=x at *
 refine Zd ?_
 refine bk TT Z Z Z Z Z Z Z Z Z H Zo uk (Zr ?_)
 refine Za ?_
 refine aT (ys:=.a (.v (.int .i64 k))::.agg (kE x)::iq.map lR) Z Z Z Z Z gm ⟨trivial,oT 0 x,mC⟩ hqx fun v hv=>⟨.a (.b (q k x)),trivial,hv.symm,?_⟩
 refine gX ?_
 refine aG rfl (fun h=>?_) (fun h=>?_)
 ·rw[h,au rfl] at hp
  refine Za ?_
  refine bl TT 0 Z Z Z Z Z Z Z Z Z Z Z Z Z Z Z Z Z Z Zl rfl Zo (by show(o.length+1)*8<=_;omega) fun om nE lS=>aM TT rfl ?_
  refine Zc ?_
  refine an (⟨k+1,o++[x.id],om,nE⟩:AlS) ⟨cz,by dsimp only;rw[av];exact hp,by dsimp only;rw[af];exact lS,by dsimp only;rw[af,b8];omega⟩ (by dsimp only;omega) rfl ?_ Zs ?_ ⟨dj,trivial,trivial,trivial,trivial,trivial⟩ trivial
  ·dsimp only
   rw[af]
   (repeat first | exact trivial | refine⟨rfl,?_⟩)
  ·show [_]=[_]
   dsimp only
   unfold Fv CV
   rw[aF,af]
   rfl
 ·rw[h,ai (by simp)] at hp
  refine Zc ?_
  refine an (⟨k+1,o,oo,oc⟩:AlS) ⟨cz,hp,j6,by dsimp only;omega⟩ (by dsimp only;omega) rfl Zs Zs rfl ⟨dj,trivial,trivial,trivial,trivial,trivial⟩ trivial
end Go.Sy
namespace Go.Sy
open Go.Proofs
theorem bu.ag3{σ:al}{ao:Option Addr}{n cap sz:Nat}{rows:List (List AT)}(h:bu σ ao n cap sz rows){k:Nat}(hk:k<=n): bu σ ao k cap sz (rows.take k):=by
 refine⟨by rw[aE,h.len];omega,ep hk h.pn,fun r hr=>h.qv r (dr hr),?_⟩
 rcases h.at_ with h0 | ⟨ad,h1,h2⟩
 ·exact .inl Zo
 ·refine .inr ⟨ad,h1,fun i r j c hr hc=>h2 i r j c ?_ hc⟩
  rw[fE] at hr
  split at hr
  ·exact hr
  ·cases hr
theorem ab9(σ:al)(x:cH)(id:Int)(g:Nat)(hg:σ.cell ⟨g,0,none⟩=some (.int .i64 id)):
  bZ Tryz.prog 216 (.agg (kE x)::[ptrTo g].map lR) σ (fun v=>v=.bool (decide (x.id=id))):=by
 refine bW Tryz.func216 Z Z ⟨oT 0 x,trivial,trivial⟩ fun w=>?_
 refine Za ?_
 refine oR (c:=.v (.int .i64 id)) TT Z Z Z Z Z Z Z Z hg trivial (Zr ?_)
 refine Zb ?_
 refine aw TT rfl fun β w' _ _=>?_
 rfl
def Bm (xs:List cH) (id:Int):Int:=gT (fun x=>decide (x.id=id)) xs 0
theorem R7(xs:List cH)(id:Int): -1<=Bm xs id/\Bm xs id<xs.length:=by
 have:=Dl (fun x:cH=>decide (x.id=id)) xs 0
 unfold Bm
 omega
theorem cell_of{σ:al}{g e sz:Nat}{v:Value}(hS:b9 σ ⟨some ⟨g,0,none⟩,1,1,e,sz,[v]⟩): σ.cell ⟨g,0,none⟩=some v:=by
 rcases hS with⟨h,_⟩ | ⟨g',h1,h2⟩
 ·cases h
 ·obtain rfl:g=g':=by simpa using h1
  exact h2 0 _ rfl
theorem ai7(σ:al)(xs:List cH)(hl:xs.length<=140737488355328)(ao:Option Addr)(cap:Nat)(next:Int)(H:bu σ ao xs.length cap 3 (eI xs))(id:Int):
  bZ Tryz.prog 176 [.agg [.v (.slice ao xs.length cap),.v (.int .i64 next)],.a (.v (.int .i64 id))] σ (fun v=>v=.int .i64 (Bm xs id)):=by
 refine bW Tryz.func176 Z Z Zl fun w=>?_
 refine Za ?_
 refine gP 1 1 1 rfl Zl rfl (by decide) fun g=>?_
 refine iI 0 Z Z Z fun lQ cP hS=>?_
 refine aT Z Z Z Z Z Tryz.call179 ⟨Zl,zu (.func 216) g 0,trivial⟩ (MD lQ xs hl ao cap next (H.mono cP) 216 [ptrTo g] ⟨trivial,trivial⟩ Tryz.call216 (fun x=>decide (x.id=id)) (fun x hm=>ab9 lQ x id g (cell_of hS)) (zu (.func 216) g 0)) fun v hv=>⟨.a (.v (.int .i64 (Bm xs id))),trivial,hv.symm,?_⟩
 refine gn ?_
 refine aw TT rfl fun β w' _ _=>?_
 rfl
theorem GX(f:Fn)(g1 g2 n:Nat): (SV.a (.fn f [ptrTo g1,ptrTo g2])).lt n:=by
 intro x hx
 simp only[bM,dA,or_false] at hx
 rcases hx with rfl | rfl<;>trivial
end Go.Sy
namespace Go.Sy
open Go.Proofs
def pR (ps:List gY) (V:List Bool) (k:Nat):List Bool:=match ps[k]? with
 | some p=>if p.k8=4 then (if V.getD k false then V.set (k+1) true else V) else V
 | none=>V
def sG (ps:List gY) (V:List Bool):List Bool:=(List.range ps.length).foldl (pR ps) V
def ri (ps:List gY) (V:List Bool) (s:ByteArray) (N:List Bool) (k:Nat):List Bool:=match ps[k]? with
 | some p=>if V.getD k false then (if p.k8=4 then N.set k true else if mJ p s then N.set (k+1) true else N) else N
 | none=>N
def we (ps:List gY) (V:List Bool) (s:ByteArray):List Bool:=(List.range ps.length).foldl (ri ps V s) (List.replicate (ps.length+1) false)
def yG (ps:List gY):List Bool:=sG ps ((List.replicate (ps.length+1) false).set 0 true)
def QR (ps:List gY) (ss:List ByteArray):List Bool:=ss.foldl (fun V s=>sG ps (we ps V s)) (yG ps)
def nW (ss:List ByteArray) (ps:List gY):Bool:=(QR ps ss).getD ps.length false
theorem xb(ps:List gY)(V:List Bool)(k:Nat): (pR ps V k).length=V.length:=by
 unfold pR
 split
 ·split
  ·split
   ·rw[dh]
   ·rfl
  ·rfl
 ·rfl
theorem qN{α β:Type}(f:List α->β->List α)(hf:∀ l b,(f l b).length=l.length): ∀(bs:List β) (l:List α),(bs.foldl f l).length=l.length
 | [],_=>rfl
 | b::bs,l=>by rw[List.foldl_cons,qN f hf bs,hf]
theorem zH(ps:List gY)(V:List Bool): (sG ps V).length=V.length:=qN _ (xb ps) _ _
theorem yS(ps:List gY)(V:List Bool)(s:ByteArray)(N:List Bool)(k:Nat): (ri ps V s N k).length=N.length:=by
 unfold ri
 split
 ·split
  ·split
   ·rw[dh]
   ·split
    ·rw[dh]
    ·rfl
  ·rfl
 ·rfl
theorem vx(ps:List gY)(V:List Bool)(s:ByteArray): (we ps V s).length=ps.length+1:=by
 unfold we
 rw[qN _ (yS ps V s),fK]
theorem BS(ps:List gY): (yG ps).length=ps.length+1:=by
 unfold yG
 rw[zH,dh,fK]
theorem tf{α:Type}(f:α->Nat->α)(a:α)(k:Nat): (List.range (k+1)).foldl f a=f ((List.range k).foldl f a) k:=by
 rw[List.range_succ,List.foldl_append]
 rfl
def AV (g:Nat) (V:List Bool):AE:=⟨some ⟨g,0,none⟩,V.length,V.length,4,1,V.map Value.bool⟩
def Ho (g5 gb n:Nat):AE:=⟨some ⟨g5,0,none⟩,1,1,78,1,[.slice (some ⟨gb,0,none⟩) n n]⟩
theorem DD{V:List Bool}{k:Nat}{b:Bool}(h:V[k]?=some b): (V.map Value.bool)[k]?=some (AT.b b).val:=by rw[aO,h];rfl
theorem Ha(g:Nat)(V:List Bool)(k:Nat): (⟨some ⟨g,0,none⟩,V.length,V.length,4,1,(V.map Value.bool).set k (AT.val .tt)⟩:AE)=AV g (V.set k true):=by
 unfold AV
 rw[dh,lW]
 rfl
theorem GU{V:List Bool}{k:Nat}{b:Bool}(h:V[k]?=some b): V.getD k false=b:=by rw[jn,h];rfl
theorem Y2(σ:al)(ps:List gY)(hl:ps.length<=1000000)(po:Option Addr)(pc:Nat)(P:bu σ po ps.length pc 2 (iN ps))(g3 g5 gb:Nat)(h3:σ.cell ⟨g3,0,none⟩=some (.slice po ps.length pc))(V:List Bool)(hV:V.length=ps.length+1):
  pV Tryz.prog 211 ([ptrTo g3,ptrTo g5].map lR) σ [Ho g5 gb V.length,AV gb V] (fun v _ A'=>v=.tuple #[]/\A'=[Ho g5 gb V.length,AV gb (sG ps V)]):=by
 refine fk Tryz.func211 Z Z ⟨trivial,trivial,trivial⟩ fun w=>?_
 refine gz ?_
 refine iD ?_
 refine oR (c:=.v (.slice po ps.length pc)) TT Z Z Z Z Z Z Z Z h3 trivial (Zr ?_)
 refine Zd ?_
 refine bX (fun(_:Nat)=>σ) (fun k=>[(1,.a (.v (.pointer (some ⟨g5,0,none⟩)))),(4,.a (.v (.slice po ps.length pc))),(5,.a (.v (.int .i64 ps.length))),(6,.a (.v (.int .i64 (k:Nat))))]) (fun _=>[]) (fun k=>[Ho g5 gb V.length,AV gb ((List.range k).foldl (pR ps) V)]) 0
  (fun k=>k<=ps.length) (fun k=>ps.length - k) 0 (ay _) rfl Zs Zs rfl Zl Zl fun k hk=>?_
 refine Za ?_
 refine aG rfl (fun h=>?_) (fun h=>?_)
 rotate_left
 ·have fQ:k=ps.length:=by have:=ab h;omega
  subst fQ
  refine Ze ?_
  refine nU TT rfl fun β w' _ _=>?_
  exact⟨rfl,rfl⟩
 have cz:k<ps.length:=by have:=ae h;omega
 have uk:=th (aa cz)
 have qt:=tf (pR ps) V k
 have hlen:((List.range k).foldl (pR ps) V).length=ps.length+1:=by rw[qN _ (xb ps),hV]
 generalize (List.range k).foldl (pR ps) V=Vk at *
 have hd:pR ps Vk k=match ps[k]? with | some p=>if p.k8=4 then (if Vk.getD k false then Vk.set (k+1) true else Vk) else Vk | none=>Vk:=rfl
 rw[aa cz] at hd
 dsimp only at hd
 have Ew:Vk[k]?=some (Vk[k]'Zo):=aa _
 rw[GU Ew] at hd
 generalize Vk[k]'Zo=b at *
 generalize ps[k]=p at *
 have hnw:∀ W:List Bool,W.length=ps.length+1->Ho g5 gb V.length=Ho g5 gb W.length:=fun W hW=>by rw[hV,hW]
 have nz:∀ q:Nat,some (SV.a (AT.v (.pointer (some (Addr.add ⟨gb,0,none⟩ ((q:Int).toNat*1))))))=some (SV.a (AT.v (.pointer (some ⟨gb,q,none⟩)))):=fun q=>by
  rw[cd,jM,kS]
 refine Zd ?_
 refine bk TT Z Z Z Z Z Z Z Z Z P Zo uk (Zr ?_)
 refine Za ?_
 refine ax 14 rfl (fun h1=>?_) (fun h1=>?_)
 rotate_left
 ·have h1:decide (p.k8=4)=false:=h1
  rw[ai (ab h1)] at hd
  refine pC ?_
  refine an (k+1) cz Zo rfl Zs Zs ?_ Zl Zl
  rw[qt,hd]
 have h1:decide (p.k8=4)=true:=h1
 rw[au (ae h1)] at hd
 refine Zr ?_
 refine eH 0 (off:=0) (c:=.v (.slice (some ⟨gb,0,none⟩) V.length V.length)) TT Z Z Z Z Z Z Z Z Z Z Z trivial (Zr ?_)
 refine br TT Z Z Z Z Z Z Z Z Z ⟨by omega,by omega⟩ (Zr ?_)
 refine eH 1 (off:=k) (c:=.b b) TT Z Z Z Z Z (nz k) Z Z Z Z (DD Ew) trivial (Zr ?_)
 refine Za ?_
 refine aG rfl (fun h2=>?_) (fun h2=>?_)
 rotate_left
 ·rw[h2,ai (by simp)] at hd
  refine Zc ?_
  refine an (k+1) cz Zo rfl Zs Zs ?_ Zl Zl
  rw[qt,hd]
 rw[h2,au rfl] at hd
 refine Za ?_
 refine eH 0 (off:=0) (c:=.v (.slice (some ⟨gb,0,none⟩) V.length V.length)) TT Z Z Z Z Z Z Z Z Z Z Z trivial (Zr ?_)
 refine eO Z Z Z Z Z Z Zo (aM TT rfl ?_)
 refine br TT Z Z Z Z Z Z Z Z Z ⟨by omega,by omega⟩ (Zr ?_)
 refine jC 1 (off:=k+1) (c:=.tt) (A':=[Ho g5 gb V.length,AV gb (Vk.set (k+1) true)]) TT Z Z Z Z (nz (k+1)) Z Z Z Z Z (by show k+1<Vk.length*1;omega) trivial rfl ?_ (Zr ?_)
 ·show [_,_]=[_,_]
  rw[<-Ha]
  rfl
 refine Zc ?_
 refine an (k+1) cz Zo rfl Zs Zs ?_ Zl Zl
 rw[qt,hd]
theorem Tx(g n:Nat): (⟨some ⟨g,0,none⟩,n,n,4,1,List.replicate n (AT.val .ff)⟩:AE)=AV g (List.replicate n false):=by
 unfold AV
 rw[fK,List.map_replicate]
 rfl
structure MtS where
 k:Nat
 gb:Nat
 V:List Bool
theorem OS(σ:al)(ss:List ByteArray)(hs:ss.length<=140737488355328)(so:Option Addr)(sc:Nat)(S:bu σ so ss.length sc 1 (ib ss))(ps:List gY)(hl:ps.length<=1000000)(po:Option Addr)(pc:Nat)(P:bu σ po ps.length pc 2 (iN ps)):
  bZ Tryz.prog 158 [.a (.v (.slice so ss.length sc)),.a (.v (.slice po ps.length pc))] σ (fun v=>v=.bool (nW ss ps)):=by
 refine bW Tryz.func158 Z Z Zl fun w=>?_
 refine Zg ?_
 refine xM (n:=ps.length+1) TT Z Z Z Z Z Z Z Z Z Z Z Z trivial (by show(ps.length+1)*1<=_;omega) Zo fun gb=>aM TT rfl ?_
 refine gP 1 1 1 rfl Zl rfl (by decide) fun g5=>?_
 refine gP 0 1 1 rfl Zl rfl (by decide) fun g3=>?_
 refine iI 2 Z Z Z fun lQ cP hS3=>?_
 have h3:lQ.cell ⟨g3,0,none⟩=some (.slice po ps.length pc):=cell_of hS3
 have P1:=P.mono cP
 have S1:=S.mono cP
 have W8:∀(s:al) (_:lQ.le s) (gb:Nat) (V:List Bool),V.length=ps.length+1->pV Tryz.prog 211 ([ptrTo g3,ptrTo g5].map lR) s [Ho g5 gb (ps.length+1),AV gb V] (fun v _ A'=>v=.tuple #[]/\A'=[Ho g5 gb (ps.length+1),AV gb (sG ps V)]):=by
  intro s hs gb V hV
  have:=Y2 s ps hl po pc (P1.mono hs) g3 g5 gb (hs.cell h3) V hV
  rw[hV] at this
  exact this
 refine iu ?_
 refine Xh [1,0] (A':=[Ho g5 gb (ps.length+1),AV gb (List.replicate (ps.length+1) false)]) (by show [_,_]=[_,_];rw[<-Tx];rfl) rfl ?_
 have nz:∀(g q:Nat),some (SV.a (AT.v (.pointer (some (Addr.add ⟨g,0,none⟩ ((q:Int).toNat*1))))))=some (SV.a (AT.v (.pointer (some ⟨g,q,none⟩)))):=fun g q=>by
  rw[cd,jM,kS]
 have P9:(List.replicate (ps.length+1) false).length=ps.length+1:=fK
 refine Za ?_
 refine eH 0 (off:=0) (c:=.v (.slice (some ⟨gb,0,none⟩) (ps.length+1) (ps.length+1))) TT Z Z Z Z Z Z Z Z Z Z Z trivial (Zr ?_)
 refine br TT Z Z Z Z Z Z Z Z Z ⟨by omega,by omega⟩ (Zr ?_)
 refine jC 1 (off:=0) (c:=.tt) (A':=[Ho g5 gb (ps.length+1),AV gb ((List.replicate (ps.length+1) false).set 0 true)]) TT Z Z Z Z (nz gb 0) Z Z Z Z Z (by show 0<(List.replicate (ps.length+1) false).length*1;omega) trivial rfl ?_ (Zr ?_)
 ·show [_,_]=[_,_]
  rw[<-Ha]
  rfl
 refine Za ?_
 refine dT [0,1] (A0:=[Ho g5 gb (ps.length+1),AV gb ((List.replicate (ps.length+1) false).set 0 true)]) (Ar:=[]) Z Z Z Z Z Z Z Tryz.call211 ⟨trivial,trivial,trivial⟩ (W8 lQ (al.le_refl _) gb _ (by rw[dh,P9])) fun v nC A2 cw ⟨hv,hA⟩=>⟨.ik [],Zl,hv.symm,?_⟩
 subst hA
 have pL:sG ps ((List.replicate (ps.length+1) false).set 0 true)=yG ps:=rfl
 rw[pL]
 refine Hz ?_
 refine gC (fun(s:al) (_:MtS)=>s) (fun _ t=>[(3,.a (.v (.pointer (some ⟨g3,0,none⟩)))),(5,.a (.v (.pointer (some ⟨g5,0,none⟩)))),(6,.a (.fn (.func 211) [ptrTo g3,ptrTo g5])),(21,.a (.v (.slice so ss.length sc))),(22,.a (.v (.int .i64 ss.length))),(23,.a (.v (.int .i64 (t.k:Nat))))]) (fun _ _=>[]) (fun _ t=>[Ho g5 t.gb (ps.length+1),AV t.gb t.V]) 0
  (fun s t=>lQ.le s/\t.k<=ss.length/\t.V=QR ps (ss.take t.k)/\t.V.length=ps.length+1) (fun _ t=>ss.length - t.k) nC ⟨0,gb,yG ps⟩ ⟨cw,ay _,rfl,BS ps⟩ rfl Zs Zs rfl ⟨trivial,trivial,GX (.func 211) g3 g5 0,trivial,trivial,trivial,trivial⟩ trivial fun s ⟨k,gb,V⟩ ⟨hle,hk,hV,hVl⟩=>?_
 dsimp only at hk hV hVl ⊢
 have h3:=hle.cell h3
 have P1:=P1.mono hle
 have S1:=S1.mono hle
 refine Za ?_
 refine aG rfl (fun h=>?_) (fun h=>?_)
 rotate_left
 ·have fQ:k=ss.length:=by have:=ab h;omega
  rw[fQ,aI] at hV
  have hb:V[ps.length]?=some (V[ps.length]'Zo):=aa _
  have hm:nW ss ps=V[ps.length]'Zo:=by
   unfold nW
   rw[<-hV]
   exact GU hb
  generalize V[ps.length]'Zo=b at *
  refine Ze ?_
  refine eH 0 (off:=0) (c:=.v (.slice (some ⟨gb,0,none⟩) (ps.length+1) (ps.length+1))) TT Z Z Z Z Z Z Z Z Z Z Z trivial (Zr ?_)
  refine oR (c:=.v (.slice po ps.length pc)) TT Z Z Z Z Z Z Z Z h3 trivial (Zr ?_)
  refine br TT Z Z Z Z Z Z Z Z Z ⟨by omega,by omega⟩ (Zr ?_)
  refine eH 1 (off:=ps.length) (c:=.b b) TT Z Z Z Z Z (nz gb ps.length) Z Z Z Z (DD hb) trivial (Zr ?_)
  refine Zb ?_
  refine aw TT rfl fun β w' _ _=>?_
  rw[hm]
  rfl
 have cz:k<ss.length:=by have:=ae h;omega
 have bU:=np (aa cz)
 have l8:QR ps (ss.take (k+1))=sG ps (we ps V ss[k]):=by
  unfold QR
  rw[ak cz,List.foldl_append]
  rw[hV]
  rfl
 clear hV
 generalize ss[k]=x at *
 refine Zd ?_
 refine bk TT Z Z Z Z Z Z Z Z Z S1 Zo bU (Zr ?_)
 refine Za ?_
 refine oR (c:=.v (.slice po ps.length pc)) TT Z Z Z Z Z Z Z Z h3 trivial (Zr ?_)
 refine eO Z Z Z Z Z Z Zo (aM TT rfl ?_)
 refine xM (n:=ps.length+1) TT Z Z Z Z Z Z Z Z Z Z Z Z trivial (by show(ps.length+1)*1<=_;omega) Zo fun g2=>aM TT rfl ?_
 refine iu ?_
 refine Xh [0,1,2] (A':=[Ho g5 gb (ps.length+1),AV gb V,AV g2 (List.replicate (ps.length+1) false)]) (by show [_,_,_]=[_,_,_];rw[<-Tx]) rfl ?_
 refine Za ?_
 refine oR (c:=.v (.slice po ps.length pc)) TT Z Z Z Z Z Z Z Z h3 trivial (Zr ?_)
 refine Zd ?_
 refine bX (fun(_:Nat)=>s) (fun j=>[(3,.a (.v (.pointer (some ⟨g3,0,none⟩)))),(5,.a (.v (.pointer (some ⟨g5,0,none⟩)))),(6,.a (.fn (.func 211) [ptrTo g3,ptrTo g5])),(8,.a (.v (.string x))),(9,.a (.v (.slice (some ⟨g2,0,none⟩) (ps.length+1) (ps.length+1)))),(21,.a (.v (.slice so ss.length sc))),(22,.a (.v (.int .i64 ss.length))),(23,.a (.v (.int .i64 (k:Nat)))),(31,.a (.v (.slice po ps.length pc))),(32,.a (.v (.int .i64 ps.length))),(33,.a (.v (.int .i64 (j:Nat))))])
  (fun _=>[]) (fun j=>[Ho g5 gb (ps.length+1),AV gb V,AV g2 ((List.range j).foldl (ri ps V x) (List.replicate (ps.length+1) false))]) 0
  (fun j=>j<=ps.length) (fun j=>ps.length - j) 0 (ay _) rfl Zs Zs rfl ⟨trivial,trivial,GX (.func 211) g3 g5 0,trivial,trivial,trivial,trivial,trivial,trivial,trivial,trivial,trivial⟩ trivial fun j hj=>?_
 refine Za ?_
 refine aG rfl (fun h=>?_) (fun h=>?_)
 rotate_left
 ·have LZ:j=ps.length:=by have:=ab h;omega
  subst LZ
  have hN:(List.range ps.length).foldl (ri ps V x) (List.replicate (ps.length+1) false)=we ps V x:=rfl
  have hNl:=vx ps V x
  rw[hN]
  generalize we ps V x=N at *
  refine Ze ?_
  refine jC 0 (off:=0) (c:=.v (.slice (some ⟨g2,0,none⟩) (ps.length+1) (ps.length+1))) (A':=[Ho g5 g2 (ps.length+1),AV gb V,AV g2 N]) TT Z Z Z Z Z Z Z Z Z Z (by show 0<1*1;omega) trivial Z Z (Zr ?_)
  refine Za ?_
  refine dT [0,2] (A0:=[Ho g5 g2 (ps.length+1),AV g2 N]) (Ar:=[]) Z Z Z Z Z Z Z Tryz.call211 ⟨trivial,trivial,trivial⟩ (W8 s hle g2 N hNl) fun v Up A3 kV ⟨hv,hA⟩=>⟨.ik [],Zl,hv.symm,?_⟩
  subst hA
  refine lP ?_
  refine an (Up,(⟨k+1,g2,sG ps N⟩:MtS)) ⟨al.le_trans hle kV,cz,l8.symm,by dsimp only;rw[zH,hNl]⟩ (by dsimp only;omega) rfl Zs Zs rfl ⟨trivial,trivial,GX (.func 211) g3 g5 0,trivial,trivial,trivial,trivial⟩ trivial
 have m2:j<ps.length:=by have:=ae h;omega
 have uk:=th (aa m2)
 have qt:=tf (ri ps V x) (List.replicate (ps.length+1) false) j
 have hNl:((List.range j).foldl (ri ps V x) (List.replicate (ps.length+1) false)).length=ps.length+1:=by rw[qN _ (yS ps V x),fK]
 generalize (List.range j).foldl (ri ps V x) (List.replicate (ps.length+1) false)=N at *
 have hd:ri ps V x N j=match ps[j]? with | some p=>if V.getD j false then (if p.k8=4 then N.set j true else if mJ p x then N.set (j+1) true else N) else N | none=>N:=rfl
 rw[aa m2] at hd
 dsimp only at hd
 have Ew:V[j]?=some (V[j]'Zo):=aa _
 rw[GU Ew] at hd
 generalize V[j]'Zo=b at *
 generalize ps[j]=p at *
 have dj:wz 0 [(3,.a (.v (.pointer (some ⟨g3,0,none⟩)))),(5,.a (.v (.pointer (some ⟨g5,0,none⟩)))),(6,.a (.fn (.func 211) [ptrTo g3,ptrTo g5])),(8,.a (.v (.string x))),(9,.a (.v (.slice (some ⟨g2,0,none⟩) (ps.length+1) (ps.length+1)))),(21,.a (.v (.slice so ss.length sc))),(22,.a (.v (.int .i64 ss.length))),(23,.a (.v (.int .i64 (k:Nat)))),(31,.a (.v (.slice po ps.length pc))),(32,.a (.v (.int .i64 ps.length))),(33,.a (.v (.int .i64 ((j+1:Nat):Int))))]:=⟨trivial,trivial,GX (.func 211) g3 g5 0,trivial,trivial,trivial,trivial,trivial,trivial,trivial,trivial,trivial⟩
 refine Zd ?_
 refine bk TT Z Z Z Z Z Z Z Z Z P1 Zo uk (Zr ?_)
 refine Za ?_
 refine eH 0 (off:=0) (c:=.v (.slice (some ⟨gb,0,none⟩) (ps.length+1) (ps.length+1))) TT Z Z Z Z Z Z Z Z Z Z Z trivial (Zr ?_)
 refine br TT Z Z Z Z Z Z Z Z Z ⟨by omega,by omega⟩ (Zr ?_)
 refine eH 1 (off:=j) (c:=.b b) TT Z Z Z Z Z (nz gb j) Z Z Z Z (DD Ew) trivial (Zr ?_)
 refine ax 42 rfl (fun h1=>?_) (fun h1=>?_)
 ·have h1:b=true:=h1
  rw[h1,au rfl] at hd
  refine gX ?_
  refine aG rfl (fun h2=>?_) (fun h2=>?_)
  ·rw[au (ae h2)] at hd
   refine Za ?_
   refine br TT Z Z Z Z Z Z Z Z Z ⟨by omega,by omega⟩ (Zr ?_)
   refine jC 2 (off:=j) (c:=.tt) (A':=[Ho g5 gb (ps.length+1),AV gb V,AV g2 (N.set j true)]) TT Z Z Z Z (nz g2 j) Z Z Z Z Z (by show j<N.length*1;omega) trivial rfl ?_ (Zr ?_)
   ·show [_,_,_]=[_,_,_]
    rw[<-Ha]
    rfl
   refine Zc ?_
   refine an (j+1) m2 Zo rfl Zs Zs ?_ dj trivial
   rw[qt,hd]
  ·rw[ai (ab h2)] at hd
   refine Za ?_
   refine eH 0 (off:=0) (c:=.v (.slice (some ⟨gb,0,none⟩) (ps.length+1) (ps.length+1))) TT Z Z Z Z Z Z Z Z Z Z Z trivial (Zr ?_)
   refine br TT Z Z Z Z Z Z Z Z Z ⟨by omega,by omega⟩ (Zr ?_)
   refine eH 1 (off:=j) (c:=.b b) TT Z Z Z Z Z (nz gb j) Z Z Z Z (DD Ew) trivial (Zr ?_)
   refine ax 54 rfl (fun _=>?_) (fun h3=>absurd (show b=false from h3) (by rw[h1];decide))
   refine Zr ?_
   refine aT Z Z Z Z Z Tryz.call212 ⟨Zl,trivial,trivial⟩ (VY s p x) fun v hv=>⟨.a (.b (mJ p x)),trivial,hv.symm,?_⟩
   refine gX ?_
   refine aG rfl (fun h4=>?_) (fun h4=>?_)
   ·rw[h4,au rfl] at hd
    refine Zc ?_
    refine br TT Z Z Z Z Z Z Z Z Z ⟨by omega,by omega⟩ (Zr ?_)
    refine jC 2 (off:=j+1) (c:=.tt) (A':=[Ho g5 gb (ps.length+1),AV gb V,AV g2 (N.set (j+1) true)]) TT Z Z Z Z (nz g2 (j+1)) Z Z Z Z Z (by show j+1<N.length*1;omega) trivial rfl ?_ (Zr ?_)
    ·show [_,_,_]=[_,_,_]
     rw[<-Ha]
     rfl
    refine Zc ?_
    refine an (j+1) m2 Zo rfl Zs Zs ?_ dj trivial
    rw[qt,hd]
   ·rw[h4,ai (by simp)] at hd
    refine Zc ?_
    refine an (j+1) m2 Zo rfl Zs Zs ?_ dj trivial
    rw[qt,hd]
 ·have h1:b=false:=h1
  rw[h1,ai (by simp)] at hd
  refine D2 ?_
  refine eH 0 (off:=0) (c:=.v (.slice (some ⟨gb,0,none⟩) (ps.length+1) (ps.length+1))) TT Z Z Z Z Z Z Z Z Z Z Z trivial (Zr ?_)
  refine br TT Z Z Z Z Z Z Z Z Z ⟨by omega,by omega⟩ (Zr ?_)
  refine eH 1 (off:=j) (c:=.b b) TT Z Z Z Z Z (nz gb j) Z Z Z Z (DD Ew) trivial (Zr ?_)
  refine ax 54 rfl (fun h3=>absurd (show b=true from h3) (by rw[h1];decide)) (fun _=>?_)
  refine pC ?_
  refine an (j+1) m2 Zo rfl Zs Zs ?_ dj trivial
  rw[qt,hd]
end Go.Sy
namespace Go.Sy
open Go.Proofs
theorem RQ(σ:al)(k:Nat)(x:cH)(hx:qk σ x)(ps:List gY)(hl:ps.length<=1000000)(po:Option Addr)(pc:Nat)(P:bu σ po ps.length pc 2 (iN ps))(g:Nat)(hg:σ.cell ⟨g,0,none⟩=some (.slice po ps.length pc)):
  bZ Tryz.prog 157 (.a (.v (.int .i64 k))::.agg (kE x)::[ptrTo g].map lR) σ (fun v=>v=.bool (nW x.st ps)):=by
 refine bW Tryz.func157 Z Z ⟨trivial,oT 0 x,trivial,trivial⟩ fun w=>?_
 refine Za ?_
 refine oR (c:=.v (.slice po ps.length pc)) TT Z Z Z Z Z Z Z Z hg trivial (Zr ?_)
 refine aT Z Z Z Z Z Tryz.call158 Zl (OS σ x.st hx.1 x.ao x.cap hx.2 ps hl po pc P) fun v hv=>⟨.a (.b (nW x.st ps)),trivial,hv.symm,?_⟩
 refine gn ?_
 refine aw TT rfl fun β w' _ _=>?_
 rfl
def dU (xs:List cH) (ps:List gY):List Int:=v7 (fun _ x=>nW x.st ps) xs 0
theorem Wp(σ:al)(xs:List cH)(pa:xs.length<=1000000)(ao:Option Addr)(cap:Nat)(next:Int)(H:bu σ ao xs.length cap 3 (eI xs))(hx:∀ x∈xs,qk σ x)(ps:List gY)(hl:ps.length<=1000000)(po:Option Addr)(pc:Nat)(P:bu σ po ps.length pc 2 (iN ps)):
  fa Tryz.prog 82 [.agg [.v (.slice ao xs.length cap),.v (.int .i64 next)],.a (.v (.slice po ps.length pc))] σ (fun v bD=>∃ oo oc,v=.slice oo (dU xs ps).length oc/\bu bD oo (dU xs ps).length oc 1 (kK (dU xs ps))):=by
 refine ek Tryz.func82 Z Z Zl fun w=>?_
 refine Za ?_
 refine gP 1 1 1 rfl Zl rfl (by decide) fun g=>?_
 refine iI 0 Z Z Z fun lQ cP hS=>?_
 refine bN Z Z Z Z Z Tryz.call156 ⟨Zl,zu (.func 157) g 0,trivial⟩ (ag9 lQ xs pa ao cap next (H.mono cP) 157 [ptrTo g] ⟨trivial,trivial⟩ Tryz.call157 (fun _ x=>nW x.st ps) (fun k x hk=>RQ lQ k x ((hx x (aC hk)).mono cP) ps hl po pc (P.mono cP) g (cell_of hS)) (zu (.func 157) g 0)) fun v nC cw ⟨oo,oc,hv,HO⟩=>⟨.a (.v (.slice oo (dU xs ps).length oc)),trivial,hv.symm,?_⟩
 refine gn ?_
 refine aw TT rfl fun β w' _ _=>?_
 exact⟨oo,oc,rfl,HO⟩
end Go.Sy
namespace Go.Sy
def kx:gY:=⟨4,bF⟩
theorem m5: ∀(L:List aH) (uj:List ByteArray),(l6 uj L).length=L.length
 | [],_=>rfl
 | r::l,uj=>by rw[l6,List.length_cons,List.length_cons,m5 l]
end Go.Sy
namespace Go.Sy
theorem OC{L:List aH}{r:aH}(hr:L[0]?=some r)(h1:r.lv=0)(h2:r.nm=false): (fq L)[0]?=some []:=by
 cases L with
 | nil=>cases hr
 | cons y l =>
  simp only[bn,bf] at hr
  subst hr
  unfold fq l6 ph
  rw[h1,h2]
  rfl
end Go.Sy
namespace Go.Sy
def dZ (id:Int) (r:aH) (i:Nat):cq:=⟨id,i,r.st,r.en,r.lv⟩
def tp (id:Int) (L:List aH):List cq:=L.zipIdx.map fun x=>dZ id x.1 x.2
theorem CT(id:Int)(L:List aH): (tp id L).length=L.length:=by simp[tp]
theorem LC{id:Int}{L:List aH}{i:Nat}{r:aH}(h:L[i]?=some r): (tp id L)[i]?=some (dZ id r i):=by
 unfold tp
 rw[aO,List.getElem?_zipIdx,h]
 simp
end Go.Sy
namespace Go.Sy
structure eh where
 id:Int
 o:Option Addr
 cap:Nat
 L:List aH
 lo:Option Addr
 zg:Nat
 ids:List Int
structure DO (ps:List fH) (s:ym):Prop where
 inv:Mx s
 len:s.ids.length=ps.length
 st:∀(k:Nat) (d:Int),s.ids[k]?=some d->∃(j:Nat) (x:cH) (p:fH),s.xs[j]?=some x/\x.id=d/\ps[k]?=some p/\x.st=p.ss
theorem DO.step{ps:List fH}{s:ym}(h:DO ps s)(p:fH): DO (ps++[p]) (fV s p):=by
 obtain⟨h1,h2,j,y,h3,h4,h5⟩:=AG h.inv p
 refine⟨h1,by rw[h5,af,af,h.len];rfl,fun k d hd=>?_⟩
 rw[h5] at hd
 by_cases hk:k<s.ids.length
 ·rw[aV hk] at hd
  obtain⟨j',x,q,e1,e2,e3,e4⟩:=h.st k d hd
  obtain⟨y',f1,f2,f3⟩:=h2 j' x e1
  exact⟨j',y',q,f1,by rw[f3,e2],by rw[aV (by rw[<-h.len];exact hk)];exact e3,by rw[f2,e4]⟩
 ·rw[aW Zo] at hd
  have h0:k - s.ids.length=0:=by
   have:=(ah.1 hd).1
   simp only[b8] at this
   omega
  rw[h0] at hd
  injection hd with hd
  refine⟨j,y,p,h3,hd,?_,h4⟩
  rw[aW (by rw[<-h.len];omega),<-h.len,h0]
  rfl
theorem DO.all: ∀(qs ps:List fH) {s:ym},DO ps s->DO (ps++qs) (bS s qs)
 | [],ps,s,h=>by rw[aL];exact h
 | q::qs,ps,s,h=>by
  have:=DO.all qs (ps++[q]) (h.step q)
  rw[av] at this
  exact this
theorem DO.start{xs:List cH}{next:Int}{ids:List Int}(h:Mx ⟨xs,next,ids⟩): DO [] ⟨xs,next,[]⟩:=⟨⟨h.next,h.at_⟩,rfl,fun k d hd=>by cases hd⟩
def Wq (xs:List cH) (d:eh):Prop:=d.ids.length=d.L.length/\∀(i:Nat) (k:Int) (p:List ByteArray),d.ids[i]?=some k->(fq d.L)[i]?=some p->∃(j:Nat) (x:cH),xs[j]?=some x/\x.st=p/\x.id=k
structure Kv (ds:List eh) (xs:List cH) (next:Int):Prop where
 inv:Mx ⟨xs,next,[]⟩
 ord:ds.Pairwise fun x y=>x.id<y.id
 doc:∀ d∈ds,Wq xs d
theorem Kv.nil: Kv [] [] 0:=⟨⟨rfl,fun j x h=>(by cases h)⟩,List.Pairwise.nil,fun _ h=>(by cases h)⟩
theorem Kv.add{ds:List eh}{xs:List cH}{next:Int}(h:Kv ds xs next){d:eh}(hd:∀ x∈ds,x.id<d.id){rows:List fH}(hr:rows.map fH.ss=fq d.L)(hi:d.ids=(bS ⟨xs,next,[]⟩ rows).ids):
  Kv (ds++[d]) (bS ⟨xs,next,[]⟩ rows).xs (bS ⟨xs,next,[]⟩ rows).next:=by
 have hS:=DO.all rows [] (DO.start h.inv)
 obtain⟨h1,h2,-⟩:=DM rows h.inv
 rw[cF] at hS
 have px:(fq d.L).length=d.L.length:=m5 _ _
 refine⟨⟨h1.next,h1.at_⟩,?_,fun x hx=>?_⟩
 ·rw[iW]
  refine⟨h.ord,List.pairwise_singleton _ _,fun x hx y hy=>?_⟩
  rw[aU] at hy
  subst hy
  exact hd x hx
 ·rcases bz.1 hx with hx | hx
  ·obtain⟨e1,e2⟩:=h.doc x hx
   refine⟨e1,fun i k p hk hp=>?_⟩
   obtain⟨j,y,f1,f2,f3⟩:=e2 i k p hk hp
   obtain⟨z,g1,g2,g3⟩:=h2 j y f1
   exact⟨j,z,g1,by rw[g2,f2],by rw[g3,f3]⟩
  ·rw[aU] at hx
   subst hx
   refine⟨by rw[hi,hS.len,<-px,<-hr,aR],fun i k p hk hp=>?_⟩
   rw[hi] at hk
   obtain⟨j,y,q,f1,f2,f3,f4⟩:=hS.st i k hk
   rw[<-hr,aO,f3] at hp
   injection hp with hp
   exact⟨j,y,f1,by rw[f4];exact hp,f2⟩
def WD (lines:Int->Bool) (d:eh):List cq:=(((tp d.id d.L).zip d.ids).filter fun x=>lines x.2).map Prod.fst
def lX (lines:Int->Bool) (ds:List eh):List cq:=ds.flatMap (WD lines)
end Go.Sy
namespace Go.Sy
open Go.Proofs
def aS:ByteArray:=⟨#[46,97]⟩
end Go.Sy
namespace Go.Sy
open Go.Proofs
end Go.Sy
namespace Go.Sy
open Go.Proofs
def cm (x:cq):List AT:=[.v (.int .i64 x.doc),.v (.int .i64 x.at_),.v (.int .i64 x.st),.v (.int .i64 x.en),.v (.int .i64 x.lv)]
theorem b6(n:Nat)(x:cq): ∀ c∈cm x,c.lt n:=by simp[cm,AT.lt]
def eP (l:List cq):List (List AT):=l.map cm
theorem ld{l:List cq}{i:Nat}{x:cq}(h:l[i]?=some x): (eP l)[i]?=some (cm x):=by unfold eP;rw[aO,h];rfl
theorem kB(a:List cq): ∀ r∈eP a,r.length=5/\(∀ c∈r,c.lt 0)/\r.all AT.one=true:=by
 intro r hr
 obtain⟨x,_,rfl⟩:=bL.1 hr
 exact⟨rfl,b6 0 x,rfl⟩
def pK (l:List cq):List Value:=(eP l).flatten.map AT.val
theorem rz(a b:List cq): pK (a++b)=pK a++pK b:=by simp[pK,eP]
theorem sj(L:List cq)(x:cq): pK L++(cm x).map AT.val=pK (L++[x]):=by
 rw[rz]
 simp[pK,eP]
theorem R3{l:List cq}{i j:Nat}{x:cq}{c:AT}(h:l[i]?=some x)(hj:(cm x)[j]?=some c): (pK l)[i*5+j]?=some c.val:=by
 unfold pK
 rw[aO,sy (sz:=5) (fun r hr=>(kB l r hr).1) (ld h) hj]
 rfl
theorem O1(l:List cq)(k:Nat): (pK l).take (k*5)=pK (l.take k):=by
 unfold pK
 rw[<-dG,FA (sz:=5) (fun r hr=>(kB l r hr).1)]
 unfold eP
 rw[dG]
def Hq (ao:Option Addr) (cap:Nat) (l:List cq):AE:=⟨ao,l.length,cap,71,5,pK l⟩
theorem ny{σ:al}{ao:Option Addr}{cap:Nat}{l:List cq}(hS:b9 σ (Hq ao cap l))(hc:l.length<=cap): bu σ ao l.length cap 5 (eP l) :=
 hS.sl rfl (fun r hr=>⟨(kB l r hr).1,(kB l r hr).2.1⟩) (by simp[eP]) rfl hc
end Go.Sy
namespace Go.Sy
open Go.Proofs
def gL (d:eh):List AT:=[.v (.int .i64 d.id),.v (.slice d.o d.L.length d.cap)]
def vA (d:eh):List AT:=[.v (.slice d.lo d.ids.length d.zg)]
theorem eJ(n:Nat)(d:eh): ∀ c∈gL d,c.lt n:=by simp[gL,AT.lt]
def dK (l:List eh):List (List AT):=l.map gL
theorem iQ{l:List eh}{i:Nat}{x:eh}(h:l[i]?=some x): (dK l)[i]?=some (gL x):=by unfold dK;rw[aO,h];rfl
theorem fR(a:List eh): ∀ r∈dK a,r.length=2/\(∀ c∈r,c.lt 0)/\r.all AT.one=true:=by
 intro r hr
 obtain⟨x,_,rfl⟩:=bL.1 hr
 exact⟨rfl,eJ 0 x,rfl⟩
def uX (l:List eh):List Value:=(dK l).flatten.map AT.val
def GZ (ao:Option Addr) (cap:Nat) (l:List eh):AE:=⟨ao,l.length,cap,90,2,uX l⟩
theorem rB(a b:List eh): uX (a++b)=uX a++uX b:=by simp[uX,dK]
theorem kO{σ:al}{ao:Option Addr}{cap:Nat}{l:List eh}(hS:b9 σ (GZ ao cap l))(hc:l.length<=cap): bu σ ao l.length cap 2 (dK l) :=
 hS.sl rfl (fun r hr=>⟨(fR l r hr).1,(fR l r hr).2.1⟩) (by simp[dK]) rfl hc
theorem FG(σ:al)(xs:List eh)(hl:xs.length<=1000000)(ao:Option Addr)(cap:Nat)(H:bu σ ao xs.length cap 2 (dK xs)):
  pV Tryz.prog 109 [.a (.v (.slice ao xs.length cap))] σ [] (fun v _ A'=>∃ bo bc,v=.slice bo xs.length bc/\xs.length<=bc/\A'=[GZ bo bc xs]):=by
 refine fk Tryz.func109 Z Z Zl fun w=>?_
 refine Zg ?_
 refine aG rfl (fun h=>?_) (fun h=>?_)
 ·have h0:ao=none:=by simpa using h
  have Hu:xs.length=0:=by
   rcases H.at_ with h1 | ⟨ad,h1,_⟩
   ·exact h1
   ·rw[h0] at h1;cases h1
  have hr:xs=[]:=aY Hu
  subst hr
  refine Zb ?_
  refine kg 90 2 ?_
  refine dq TT rfl fun β w' _ _=>?_
  exact⟨none,0,rfl,aq _,rfl⟩
 refine Zc ?_
 refine gP 0 0 2 rfl Zl rfl (by decide) fun gb=>?_
 refine dC TT 0 Z Z Z Z Z Z Z H Z Z Z Z Z Z Z Z Z (fun r hr=>(fR xs r hr).2.2) Zo (by show(0+xs.length)*32<=_;omega) fun iB dk gS=>aM TT rfl ?_
 refine Zb ?_
 refine dq TT rfl fun β w' _ _=>?_
 refine⟨iB,dk,by show Value.slice iB (0+xs.length) dk=_;rw[cG],by omega,?_⟩
 show [_]=[_]
 rw[cG]
 rfl
theorem Me(σ:al)(l:List eh)(hl:l.length<=1000000)(so:Option Addr)(sc:Nat)(pb:l.length<=sc)(d:eh)(vo:Option Addr)(vc:Nat)(V:bu σ vo 1 vc 2 (dK [d])):
  pV Tryz.prog 108 [.a (.v (.slice so l.length sc)),.a (.v (.int .i64 l.length)),.a (.v (.slice vo 1 vc))] σ [GZ so sc l]
   (fun v _ A'=>∃ Om It,v=.slice Om (l++[d]).length It/\(l++[d]).length<=It/\A'=[GZ Om It (l++[d])]):=by
 refine fk Tryz.func108 Z Z Zl fun w=>?_
 refine Za ?_
 refine dL TT l.length l.length Z Z Z Z Z Z Z Z Z Z (.inr ⟨_,_,rfl,rfl⟩) (.inl ⟨rfl,rfl⟩) (aq _) pb pb (Zr ?_)
 refine Za ?_
 refine aG rfl (fun h=>absurd h (by decide)) (fun _=>?_)
 refine Zd ?_
 refine aG rfl (fun _=>?_) (fun h=>absurd rfl (ab h))
 refine Za ?_
 refine dC TT 0 Z Z Z Z Z Z Z V Z Z Z Z Z Z Z Z Z (fun r hr=>(fR [d] r hr).2.2) Zo (by show(l.length+1)*32<=_;omega) fun iB dk gS=>aM TT rfl ?_
 refine Zb ?_
 refine dq TT rfl fun β w' _ _=>?_
 have hlen:(l++[d]).length=l.length+1:=by simp
 rw[hlen]
 refine⟨iB,dk,rfl,gS,?_⟩
 unfold GZ
 rw[hlen,rB]
 rfl
theorem Lu(n:Nat)(d:eh): ∀ c∈vA d,c.lt n:=by simp[vA,AT.lt]
def eo (l:List eh):List (List AT):=l.map vA
theorem qI{l:List eh}{i:Nat}{x:eh}(h:l[i]?=some x): (eo l)[i]?=some (vA x):=by unfold eo;rw[aO,h];rfl
theorem gF(a:List eh): ∀ r∈eo a,r.length=1/\(∀ c∈r,c.lt 0)/\r.all AT.one=true:=by
 intro r hr
 obtain⟨x,_,rfl⟩:=bL.1 hr
 exact⟨rfl,Lu 0 x,rfl⟩
def vS (l:List eh):List Value:=(eo l).flatten.map AT.val
def zf (ao:Option Addr) (cap:Nat) (l:List eh):AE:=⟨ao,l.length,cap,74,1,vS l⟩
theorem rv(a b:List eh): vS (a++b)=vS a++vS b:=by simp[vS,eo]
theorem iO{σ:al}{ao:Option Addr}{cap:Nat}{l:List eh}(hS:b9 σ (zf ao cap l))(hc:l.length<=cap): bu σ ao l.length cap 1 (eo l) :=
 hS.sl rfl (fun r hr=>⟨(gF l r hr).1,(gF l r hr).2.1⟩) (by simp[eo]) rfl hc
theorem Fj(σ:al)(xs:List eh)(hl:xs.length<=1000000)(ao:Option Addr)(cap:Nat)(H:bu σ ao xs.length cap 1 (eo xs)):
  pV Tryz.prog 111 [.a (.v (.slice ao xs.length cap))] σ [] (fun v _ A'=>∃ bo bc,v=.slice bo xs.length bc/\xs.length<=bc/\A'=[zf bo bc xs]):=by
 refine fk Tryz.func111 Z Z Zl fun w=>?_
 refine Zg ?_
 refine aG rfl (fun h=>?_) (fun h=>?_)
 ·have h0:ao=none:=by simpa using h
  have Hu:xs.length=0:=by
   rcases H.at_ with h1 | ⟨ad,h1,_⟩
   ·exact h1
   ·rw[h0] at h1;cases h1
  have hr:xs=[]:=aY Hu
  subst hr
  refine Zb ?_
  refine kg 74 1 ?_
  refine dq TT rfl fun β w' _ _=>?_
  exact⟨none,0,rfl,aq _,rfl⟩
 refine Zc ?_
 refine gP 0 0 1 rfl Zl rfl (by decide) fun gb=>?_
 refine dC TT 0 Z Z Z Z Z Z Z H Z Z Z Z Z Z Z Z Z (fun r hr=>(gF xs r hr).2.2) Zo (by show(0+xs.length)*24<=_;omega) fun iB dk gS=>aM TT rfl ?_
 refine Zb ?_
 refine dq TT rfl fun β w' _ _=>?_
 refine⟨iB,dk,by show Value.slice iB (0+xs.length) dk=_;rw[cG],by omega,?_⟩
 show [_]=[_]
 rw[cG]
 rfl
theorem Lt(σ:al)(l:List eh)(hl:l.length<=1000000)(so:Option Addr)(sc:Nat)(pb:l.length<=sc)(d:eh)(vo:Option Addr)(vc:Nat)(V:bu σ vo 1 vc 1 (eo [d])):
  pV Tryz.prog 110 [.a (.v (.slice so l.length sc)),.a (.v (.int .i64 l.length)),.a (.v (.slice vo 1 vc))] σ [zf so sc l]
   (fun v _ A'=>∃ Om It,v=.slice Om (l++[d]).length It/\(l++[d]).length<=It/\A'=[zf Om It (l++[d])]):=by
 refine fk Tryz.func110 Z Z Zl fun w=>?_
 refine Za ?_
 refine dL TT l.length l.length Z Z Z Z Z Z Z Z Z Z (.inr ⟨_,_,rfl,rfl⟩) (.inl ⟨rfl,rfl⟩) (aq _) pb pb (Zr ?_)
 refine Za ?_
 refine aG rfl (fun h=>absurd h (by decide)) (fun _=>?_)
 refine Zd ?_
 refine aG rfl (fun _=>?_) (fun h=>absurd rfl (ab h))
 refine Za ?_
 refine dC TT 0 Z Z Z Z Z Z Z V Z Z Z Z Z Z Z Z Z (fun r hr=>(gF [d] r hr).2.2) Zo (by show(l.length+1)*24<=_;omega) fun iB dk gS=>aM TT rfl ?_
 refine Zb ?_
 refine dq TT rfl fun β w' _ _=>?_
 have hlen:(l++[d]).length=l.length+1:=by simp
 rw[hlen]
 refine⟨iB,dk,rfl,gS,?_⟩
 unfold zf
 rw[hlen,rv]
 rfl
def zL (a b:Int):Int:=if a<b then -1 else if b<a then 1 else 0
theorem Nf(σ:al)(a:Int): bZ Tryz.prog 213 [.a (.v (.int .i64 a))] σ (fun v=>v=.bool false):=by
 refine bW Tryz.func213 Z Z Zl fun w=>?_
 refine Zb ?_
 refine aw TT rfl fun β w' _ _=>?_
 show Value.bool (!decide (a=a))=_
 simp
theorem PY(σ:al)(a b:Int): bZ Tryz.prog 168 [.a (.v (.int .i64 a)),.a (.v (.int .i64 b))] σ (fun v=>v=.int .i64 (zL a b)):=by
 refine bW Tryz.func168 Z Z Zl fun w=>?_
 refine Za ?_
 refine aT Z Z Z Z Z Tryz.call213 Zl (Nf σ a) fun v hv=>⟨.a .ff,trivial,hv.symm,?_⟩
 refine gX ?_
 refine aT Z Z Z Z Z Tryz.call213 Zl (Nf σ b) fun v hv=>⟨.a .ff,trivial,hv.symm,?_⟩
 refine pC ?_
 refine aG rfl (fun h=>?_) (fun h=>?_)
 ·have h:=ae h
  refine Zb ?_
  refine aw TT rfl fun β w' _ _=>?_
  show Value.int .i64 (-1)=_
  unfold zL
  rw[au h]
 have h:=ab h
 refine Zd ?_
 refine aG rfl (fun h2=>?_) (fun h2=>?_)
 ·have h2:=ae h2
  refine Zb ?_
  refine aw TT rfl fun β w' _ _=>?_
  show Value.int .i64 1=_
  unfold zL
  rw[ai h,au h2]
 ·have h2:=ab h2
  refine Zg ?_
  refine aw TT rfl fun β w' _ _=>?_
  show Value.int .i64 0=_
  unfold zL
  rw[ai h,ai h2]
theorem IM(σ:al)(d:eh)(id:Int): bZ Tryz.prog 167 [.agg (gL d),.a (.v (.int .i64 id))] σ (fun v=>v=.int .i64 (zL d.id id)):=by
 refine bW Tryz.func167 Z Z ⟨eJ 0 d,trivial,trivial⟩ fun w=>?_
 refine Za ?_
 refine aT Z Z Z Z Z Tryz.call168 Zl (PY σ d.id id) fun v hv=>⟨.a (.v (.int .i64 (zL d.id id))),trivial,hv.symm,?_⟩
 refine gn ?_
 refine aw TT rfl fun β w' _ _=>?_
 rfl
theorem wU(k:Nat)(h:k<18446744073709551616): IntKind.u64.wrap (k:Int)=k:=by
 show((k:Int) % 18446744073709551616)=k
 omega
theorem Z3(k:Nat)(h:k<9223372036854775808): IntKind.i64.wrap (k:Int)=k:=by
 unfold IntKind.wrap
 show(if (true&&decide ((k:Int) % 18446744073709551616≥9223372036854775808))=true then _ else (k:Int) % 18446744073709551616)=_
 have e:(k:Int) % 18446744073709551616=k:=by omega
 rw[e,ai (by simp;omega)]
theorem Nx(k:Nat): tQ .u64 (k:Int) 1=((k / 2:Nat):Int):=by
 show(k:Int).fdiv 2=_
 rw[Int.fdiv_eq_ediv_of_nonneg _ (by decide)]
 omega
structure BsS where
 i:Nat
 j:Nat
structure iC (ds:List eh) (id:Int) (p:Nat):Prop where
 le:p<=ds.length
 lo:∀ k d,k<p->ds[k]?=some d->d.id<id
 hi:∀ k d,p<=k->ds[k]?=some d->id<=d.id
def lf (ds:List eh) (id:Int) (p:Nat):Bool:=match ds[p]? with | some d=>decide (d.id=id) | none=>false
theorem Kz(σ:al)(ds:List eh)(hl:ds.length<=1000000)(ho:ds.Pairwise fun x y=>x.id<y.id)(ao:Option Addr)(cap:Nat)(H:bu σ ao ds.length cap 2 (dK ds))(id:Int):
  bZ Tryz.prog 166 [.a (.v (.slice ao ds.length cap)),.a (.v (.int .i64 id)),.a (.fn (.func 167) [])] σ (fun v=>∃ p:Nat,v=.tuple #[.int .i64 p,.bool (lf ds id p)]/\iC ds id p):=by
 have WX:∀(a b:Nat) x y,a<=b->ds[a]?=some x->ds[b]?=some y->x.id<=y.id:=by
  intro a b x y YQ hx hy
  obtain⟨ha,rfl⟩:=ah.1 hx
  obtain⟨hb,rfl⟩:=ah.1 hy
  rcases lV a b with h | h
  ·have:=dE.1 ho a b ha hb h
   omega
  ·have:a=b:=by omega
   subst this
   exact dB _
 refine bW Tryz.func166 Z Z Zl fun w=>?_
 refine Zd ?_
 refine fm (fun _=>σ) (fun(p:Nat)=>[(0,.a (.v (.slice ao ds.length cap))),(1,.a (.v (.int .i64 id))),(2,.a (.fn (.func 167) [])),(8,.a (.v (.int .i64 ds.length))),(9,.a (.v (.int .i64 p)))]) (fun _=>[]) (fun _=>[]) 0 (fun p=>iC ds id p) ?_ (fun p hp=>?_)
 ·refine bX (fun(_:BsS)=>σ) (fun t=>[(0,.a (.v (.slice ao ds.length cap))),(1,.a (.v (.int .i64 id))),(2,.a (.fn (.func 167) [])),(8,.a (.v (.int .i64 ds.length))),(9,.a (.v (.int .i64 (t.i:Nat)))),(10,.a (.v (.int .i64 (t.j:Nat))))]) (fun _=>[]) (fun _=>[]) 0
   (fun t=>t.i<=t.j/\t.j<=ds.length/\(∀ k d,k<t.i->ds[k]?=some d->d.id<id)/\(∀ k d,t.j<=k->ds[k]?=some d->id<=d.id)) (fun t=>t.j - t.i) ⟨0,ds.length⟩
   ⟨ay _,aq _,fun k d h=>by dsimp only at h;omega,fun k d h hd=>by have:=(ah.1 hd).1;dsimp only at h;omega⟩ rfl Zs Zs rfl Zl Zl fun⟨i,j⟩ ⟨iP,hj,tA,yy⟩=>?_
  dsimp only at iP hj tA yy ⊢
  refine Za ?_
  refine aG rfl (fun h=>?_) (fun h=>?_)
  rotate_left
  ·have am4:i=j:=by have:=ab h;omega
   subst am4
   refine Ze ?_
   refine an i ⟨by omega,tA,yy⟩ aj rfl Zs Zs rfl Zl Zl
  have ar9:i<j:=by have:=ae h;omega
  have LU:(i+j) / 2<ds.length:=by omega
  have bU:=iQ (aa LU)
  have L4:=aa LU
  generalize ds[(i+j) / 2]=d at *
  refine Zg ?_
  have uP:Value.int .i64 (IntKind.i64.wrap (tQ .u64 (IntKind.u64.wrap ((i:Int)+j)) 1))=Value.int .i64 (((i+j) / 2:Nat):Int):=by
   rw[show((i:Int)+j)=((i+j:Nat):Int) by omega,wU _ Zo,Nx,Z3 _ Zo]
  refine cr 26 (.a (.v (.int .i64 (((i+j) / 2:Nat):Int)))) rfl trivial (fun _=>uP) ?_
  refine cr 11 (.a (.v (.int .i64 (((i+j) / 2:Nat):Int)))) rfl trivial (fun _=>uP) ?_
  refine bk TT Z Z Z Z Z Z Z Z Z H Zo bU (Zr ?_)
  refine aT Z Z Z Z Z Tryz.call167 Zl (IM σ d id) fun v hv=>⟨.a (.v (.int .i64 (zL d.id id))),trivial,hv.symm,?_⟩
  refine gX ?_
  refine aG rfl (fun h=>?_) (fun h=>?_)
  ·have h:=ae h
   have dj:d.id<id:=by
    unfold zL at h
    split at h
    ·assumption
    ·split at h<;>omega
   refine Zc ?_
   refine an (⟨(i+j) / 2+1,j⟩:BsS) ⟨by dsimp only;omega,hj,fun k d' hk VK=>?_,yy⟩ (by dsimp only;omega) rfl Zs Zs rfl Zl Zl
   have:=WX k ((i+j) / 2) d' d (by dsimp only at hk;omega) VK L4
   omega
  ·have h:=ab h
   have Pc:id<=d.id:=by
    unfold zL at h
    split at h
    ·omega
    ·omega
   refine Zc ?_
   refine an (⟨i,(i+j) / 2⟩:BsS) ⟨by dsimp only;omega,by dsimp only;omega,tA,fun k d' hk VK=>?_⟩ (by dsimp only;omega) rfl Zs Zs rfl Zl Zl
   have:=WX ((i+j) / 2) k d d' hk L4 VK
   omega
 refine Za ?_
 refine ax 39 rfl (fun h=>?_) (fun h=>?_)
 ·have h:decide ((p:Int)<ds.length)=true:=h
  have px:p<ds.length:=by have:=ae h;omega
  have bU:=iQ (aa px)
  have hdp:=aa px
  generalize ds[p]=d at *
  refine Zr ?_
  refine bk TT Z Z Z Z Z Z Z Z Z H Zo bU (Zr ?_)
  refine aT Z Z Z Z Z Tryz.call167 Zl (IM σ d id) fun v hv=>⟨.a (.v (.int .i64 (zL d.id id))),trivial,hv.symm,?_⟩
  refine gn ?_
  refine aw TT rfl fun β w' _ _=>?_
  refine⟨p,?_,hp⟩
  have hb:decide (zL d.id id=0)=lf ds id p:=by
   unfold lf
   rw[hdp]
   show _=decide (d.id=id)
   rw[cg,aX,aX]
   unfold zL
   split
   ·omega
   ·split<;>omega
  show Value.tuple #[.int .i64 p,.bool (decide (zL d.id id=0))]=_
  rw[hb]
 ·have h:decide ((p:Int)<ds.length)=false:=h
  have px:ds.length<=p:=by have:=ab h;omega
  refine gn ?_
  refine aw TT rfl fun β w' _ _=>?_
  refine⟨p,?_,hp⟩
  unfold lf
  rw[jO px]
  rfl
end Go.Sy
namespace Go.Sy
open Go.Proofs
structure kR where
 ds:List eh
 o:Option Addr
 c:Nat
 xs:List cH
 go:Option Addr
 gc:Nat
 next:Int
 lo:Option Addr
 lc:Nat
def aA (X:kR):List AT:=[.v (.slice X.o X.ds.length X.c),.v (.slice X.go X.xs.length X.gc),.v (.int .i64 X.next),.v (.slice X.lo X.ds.length X.lc)]
theorem az(n:Nat)(X:kR): ∀ c∈aA X,c.lt n:=by simp[aA,AT.lt]
structure iS (σ:al) (X:kR):Prop where
 lT:bu σ X.o X.ds.length X.c 2 (dK X.ds)
 lines:bu σ X.lo X.ds.length X.lc 1 (eo X.ds)
 gl:bu σ X.go X.xs.length X.gc 3 (eI X.xs)
 ok:∀ x∈X.xs,qk σ x
 doc:∀ d∈X.ds,bu σ d.o d.L.length d.cap 11 (cv d.L)/\bu σ d.lo d.ids.length d.zg 1 (kK d.ids)
theorem iS.mono{σ bD:al}{X:kR}(h:iS σ X)(hle:σ.le bD): iS bD X :=
 ⟨h.lT.mono hle,h.lines.mono hle,h.gl.mono hle,fun x hx=>(h.ok x hx).mono hle,fun d hd=>⟨(h.doc d hd).1.mono hle,(h.doc d hd).2.mono hle⟩⟩
def wj:kR:=⟨[],none,0,[],none,0,0,none,0⟩
theorem qK(σ:al): iS σ wj:=⟨bu.nil σ none 0 2,bu.nil σ none 0 1,bu.nil σ none 0 3,fun _ h=>(by cases h),fun _ h=>(by cases h)⟩
theorem Xp(σ:al): bZ Tryz.prog 38 [] σ (fun v=>v=(SV.agg (aA wj)).den fy):=by
 refine bW Tryz.func38 Z Z Zl fun w=>?_
 refine Zb ?_
 refine aw TT rfl fun β w' _ _=>?_
 rfl
theorem xG(σ:al)(X:kR)(IX:bu σ X.o X.ds.length X.c 2 (dK X.ds))(hl:X.ds.length<=1000000)(ho:X.ds.Pairwise fun x y=>x.id<y.id)(id:Int):
  bZ Tryz.prog 102 [.agg (aA X),.a (.v (.int .i64 id))] σ (fun v=>∃ p:Nat,v=.tuple #[.int .i64 p,.bool (lf X.ds id p)]/\iC X.ds id p):=by
 refine bW Tryz.func102 Z Z ⟨az 0 X,trivial,trivial⟩ fun w=>?_
 refine Za ?_
 refine aT Z Z Z Z Z Tryz.call166 Zl (Kz σ X.ds hl ho X.o X.c IX id) fun v ⟨p,hv,hp⟩=>⟨.ik [.a (.v (.int .i64 p)),.a (.b (lf X.ds id p))],Zl,hv.symm,?_⟩
 refine gn ?_
 refine aw TT rfl fun β w' _ _=>?_
 exact⟨p,rfl,hp⟩
end Go.Sy
namespace Go.Sy
open Go.Proofs
theorem Ft{α:Type}{a b c xs:List α}{p q r p1 p2:Nat}(ha:a.length=p)(hb:b.length=q)(hx:xs.length=q+r)(hc:c.length=r)(h1:p1=p+q)(h2:p2=p+q+r):
  ((a++xs).take p++b++(a++xs).drop p1).take p1++c++((a++xs).take p++b++(a++xs).drop p1).drop p2=a++b++c:=by
 subst ha hb hc h1 h2
 rw[ke,List.drop_length_add_append]
 have e1:(a++b++xs.drop b.length).take (a.length+b.length)=a++b:=by rw[<-af,ke]
 have e2:(a++b++xs.drop b.length).drop (a.length+b.length+c.length)=[]:=by
  apply List.drop_eq_nil_of_le
  simp only[af,bm]
  omega
 rw[e1,e2,aL]
theorem CU{α:Type}{a b c ys:List α}{p q r p1 p2:Nat}(ha:a.length=p)(hb:b.length=q)(hc:c.length=r)(hy:ys.length=q)(h1:p1=p+q)(h2:p2=p+q+r):
  ((a++c++ys).take p1++c++(a++c++ys).drop p2).take p++b++((a++c++ys).take p1++c++(a++c++ys).drop p2).drop p1=a++b++c:=by
 subst ha hb hc h1 h2
 have e0:(a++c++ys).drop (a.length+b.length+c.length)=[]:=by
  apply List.drop_eq_nil_of_le
  simp only[af]
  omega
 have e1:((a++c++ys).take (a.length+b.length)).length=a.length+b.length:=by
  rw[aE]
  simp only[af]
  omega
 rw[e0,aL]
 have e2:((a++c++ys).take (a.length+b.length)++c).drop (a.length+b.length)=c:=by
  conv=>lhs;arg 1;rw[<-e1]
  rw[List.drop_left]
 have e3:((a++c++ys).take (a.length+b.length)++c).take a.length=a:=by
  rw[fY Zo,kc,gA Zo,av,ke]
 rw[e2,e3]
theorem Tg(σ:al)(l:List eh)(hl:l.length<=1000000)(k:Nat)(hk:k<=l.length)(so:Option Addr)(sc:Nat)(pb:l.length<=sc)(d:eh)(gv:Nat)(vc:Nat)(V:bu σ (some ⟨gv,0,none⟩) 1 vc 2 (dK [d]))(hV:pd σ gv):
  pV Tryz.prog 108 [.a (.v (.slice so l.length sc)),.a (.v (.int .i64 k)),.a (.v (.slice (some ⟨gv,0,none⟩) 1 vc))] σ [GZ so sc l]
   (fun v _ A'=>∃ Om It,v=.slice Om (l.take k++d::l.drop k).length It/\(l.take k++d::l.drop k).length<=It/\A'=[GZ Om It (l.take k++d::l.drop k)]):=by
 by_cases cz:k=l.length
 ·subst cz
  rw[aI,bC]
  exact Me σ l hl so sc pb d _ vc V
 have hk:k<l.length:=by omega
 have T9:(l.take k++d::l.drop k).length=l.length+1:=by simp;omega
 rw[T9]
 refine fk Tryz.func108 Z Z Zl fun w=>?_
 refine jd 0 (E:=GZ so sc l) rfl (show 0<l.length by omega) fun gs YC=>?_
 have YC:so=some ⟨gs,0,none⟩:=YC
 subst YC
 have Ss:((dK (l.take k)).flatten.map AT.val).length=k*2:=by rw[aR,pA (sz:=2) (fun r hr=>(fR _ r hr).1)];simp[dK];omega
 have Hv:((dK (l.drop k)).flatten.map AT.val).length=(l.length - k)*2:=by rw[aR,pA (sz:=2) (fun r hr=>(fR _ r hr).1)];simp[dK]
 have LW:((dK [d]).flatten.map AT.val).length=2:=rfl
 have iZ:uX (l.take k++d::l.drop k)=(dK (l.take k)).flatten.map AT.val++(dK [d]).flatten.map AT.val++(dK (l.drop k)).flatten.map AT.val:=by
  rw[show l.take k++d::l.drop k=l.take k++([d]++l.drop k) from rfl,rB,rB,av]
  rfl
 have CY:uX l=(dK (l.take k)).flatten.map AT.val++(dK (l.drop k)).flatten.map AT.val:=by
  conv=>lhs;rw[<-cK k l]
  rw[rB]
  rfl
 refine Za ?_
 refine dL TT k l.length Z Z Z Z Z Z Z Z Z Z (.inr ⟨_,_,rfl,rfl⟩) (.inl ⟨rfl,rfl⟩) Zo pb pb (Zr ?_)
 refine Za ?_
 refine aG rfl (fun h=>absurd h (by decide)) (fun _=>?_)
 refine Zd ?_
 refine aG rfl (fun h=>absurd (ae h) Zo) (fun _=>?_)
 refine Zc ?_
 refine RA TT Z Z Z Z Z Z Z (Zr ?_)
 refine Za ?_
 refine aG rfl (fun h=>?_) (fun h=>?_)
 ·have h:=ae h
  have ak5:sc=l.length:=by omega
  refine vL 0 Z Z fun s1 cP x4=>?_
  have H:=kO x4 pb
  have V:=V.mono cP
  have HT:bu s1 (some ⟨gs,0,none⟩) k sc 2 (dK (l.take k)):=by
   have:=H.front (k:=k) Zo
   unfold dK at this ⊢
   rw[dG]
   exact this
  have HD:=H.sub (l:=k) (k:=l.length) Zo (aq _)
  rw[show((dK l).take l.length).drop k=dK (l.drop k) by unfold dK;rw[bY (by simp),dR]] at HD
  refine dV 90 2 ?_
  refine Za ?_
  refine eN TT k Z Z Z Z Z Z Z Z Z Z Zo pb (Zr ?_)
  refine Zg ?_
  refine cr 39 (.a (.v (.int .i64 ((l.length+1 - k:Nat):Int)))) rfl trivial (fun _=>aN (Value.int .i64) Zo) ?_
  refine z8 TT 0 Z Z Z Z Z Z Z Z Z Z Z Z Z HT Zo rfl (by decide) Zo Zo (by show(k+(l.length+1 - k))*32<=_;omega) fun g9 Y8 xs Pg vF=>aM TT rfl ?_
  rw[show k+(l.length+1 - k)=l.length+1 by omega] at Pg ⊢
  refine Za ?_
  refine dL TT k (l.length+1) Z Z Z Z Z Z Z Z Z Z (.inr ⟨_,_,rfl,rfl⟩) (.inl ⟨rfl,rfl⟩) Zo Pg Pg (Zr ?_)
  refine si TT 0 (g:=g9) k Z Z Z Z Z Z Z Z Z Z V Z Z ?_ (by decide) Zo (by show k+1<=l.length+1;omega) rfl (fun r hr=>(fR _ r hr).2.2) (Zr ?_)
  ·rw[ai Zo]
   exact aN some (jM _ _)
  refine Za ?_
  refine ck [(0,.pure),(1,.pure),(2,.pure),(3,.pure),(4,.pure),(5,.pure),(6,.pure),(7,.pure),(8,.sink)] mixed Zk (aM TT rfl ?_)
  refine Zr ?_
  refine eO Z Z Z Z Z Z Zo (Zr ?_)
  refine dL TT (k+1) (l.length+1) Z Z Z Z Z Z Z Z Z Z (.inr ⟨_,_,rfl,by omega⟩) (.inl ⟨rfl,rfl⟩) Zo Pg Pg (Zr ?_)
  refine dL TT k l.length Z Z Z Z Z Z Z Z Z Z (.inr ⟨_,_,rfl,rfl⟩) (.inl ⟨rfl,rfl⟩) Zo pb pb (Zr ?_)
  refine si TT 0 (g:=g9) (k+1) Z Z Z Z Z Z Z Z Z Z HD Z Z ?_ Zo Zo (by show k+1+(l.length - k)<=l.length+1;omega) rfl (fun r hr=>(fR _ r hr).2.2) (Zr ?_)
  ·rw[ai Zo]
   exact aN some (jM _ _)
  refine Zb ?_
  refine dq TT rfl fun β w' _ _=>?_
  refine⟨some ⟨g9,0,none⟩,Y8,rfl,Pg,?_⟩
  show [_]=[_]
  unfold GZ
  rw[iZ,T9]
  dsimp only
  rw[Ft (p:=k*2) (q:=2) (r:=(l.length - k)*2) Ss LW (by rw[vF];show(l.length+1 - k)*2=_;omega) Hv Zo Zo]
 have h:=ab h
 refine NR 0 (l.length+1) (g:=gs) Z Z (show l.length<=l.length+1 by omega) (show l.length+1<=sc by omega) fun ys X5=>?_
 refine Zc ?_
 refine eN TT (l.length+1) Z Z Z Z Z Z Z Z Z Zo Zo pb (Zr ?_)
 refine Zg ?_
 refine dL TT (k+1) (l.length+1) Z Z Z Z Z Z Z Z Z Z (.inr ⟨_,_,rfl,by omega⟩) (.inl ⟨rfl,rfl⟩) Zo Zo Zo (Zr ?_)
 refine z6 TT 0 (g:=gv) (g':=gs) (o:=(k+1)*2) (fn:=Tryz.f172) (tS:=54) (tR:=4) Z Z Z Z Z Tryz.func172 Zk Zk Zk Zk Z Z Z hV Z Z Z ?_ (show 0<sc*2 by omega) (Zr ?_)
 ·rw[ai Zo]
  exact aN some (jM _ _)
 refine Zb ?_
 refine ck [(0,.pure),(1,.pure),(2,.pure),(3,.pure),(4,.pure),(5,.pure),(6,.pure),(7,.pure),(8,.sink)] mixed Zk (aM TT rfl ?_)
 refine Zr ?_
 refine eO Z Z Z Z Z Z Zo (Zr ?_)
 refine dL TT (k+1) (l.length+1) Z Z Z Z Z Z Z Z Z Z (.inr ⟨_,_,rfl,by omega⟩) (.inl ⟨rfl,rfl⟩) Zo Zo Zo (Zr ?_)
 refine dL TT k (l.length+1) Z Z Z Z Z Z Z Z Z Z (.inr ⟨_,_,rfl,rfl⟩) (.inl ⟨rfl,rfl⟩) Zo Zo Zo (Zr ?_)
 have uP:((uX l++ys).drop (k*2)).take ((l.length - k)*2)=(dK (l.drop k)).flatten.map AT.val:=by
  rw[CY,av,<-Ss,List.drop_left,<-Hv,ke]
 refine I4 TT 0 (g:=gs) (k+1) k (l.length - k) Z Z Z Z Z Z Z Z Z Z Z Z ?_ ?_ (by show min _ _=_;omega) (by show k+1+(l.length - k)<=l.length+1;omega) (by show k+(l.length - k)<=l.length+1;omega) rfl ?_ (Zr ?_)
 ·rw[ai Zo]
  exact aN some (jM _ _)
 ·rw[ai Zo]
  exact aN some (jM _ _)
 ·intro v hv
  have hv:v∈((uX l++ys).drop (k*2)).take ((l.length - k)*2):=hv
  rw[uP] at hv
  obtain⟨c,hc,rfl⟩:=bL.1 hv
  obtain⟨r,hr,VM⟩:=kX.1 hc
  exact AT.one_den fy (dc.1 (fR _ r hr).2.2 c VM)
 refine Za ?_
 refine dL TT k (l.length+1) Z Z Z Z Z Z Z Z Z Z (.inr ⟨_,_,rfl,rfl⟩) (.inl ⟨rfl,rfl⟩) Zo Zo Zo (Zr ?_)
 refine si TT 0 (g:=gs) k Z Z Z Z Z Z Z Z Z Z V Z Z ?_ (by decide) Zo (by show k+1<=l.length+1;omega) rfl (fun r hr=>(fR _ r hr).2.2) (Zr ?_)
 ·rw[ai Zo]
  exact aN some (jM _ _)
 refine Zb ?_
 refine dq TT rfl fun β w' _ _=>?_
 refine⟨some ⟨gs,0,none⟩,sc,rfl,by omega,?_⟩
 show [_]=[_]
 unfold GZ
 rw[iZ,T9]
 dsimp only
 rw[uP,CY,CU (p:=k*2) (q:=2) (r:=(l.length - k)*2) Ss LW Hv (by rw[X5];show(l.length+1 - l.length)*2=_;omega) Zo Zo]
theorem RT(σ:al)(l:List eh)(hl:l.length<=1000000)(k:Nat)(hk:k<=l.length)(so:Option Addr)(sc:Nat)(pb:l.length<=sc)(d:eh)(gv:Nat)(vc:Nat)(V:bu σ (some ⟨gv,0,none⟩) 1 vc 1 (eo [d]))(hV:pd σ gv):
  pV Tryz.prog 110 [.a (.v (.slice so l.length sc)),.a (.v (.int .i64 k)),.a (.v (.slice (some ⟨gv,0,none⟩) 1 vc))] σ [zf so sc l]
   (fun v _ A'=>∃ Om It,v=.slice Om (l.take k++d::l.drop k).length It/\(l.take k++d::l.drop k).length<=It/\A'=[zf Om It (l.take k++d::l.drop k)]):=by
 by_cases cz:k=l.length
 ·subst cz
  rw[aI,bC]
  exact Lt σ l hl so sc pb d _ vc V
 have hk:k<l.length:=by omega
 have T9:(l.take k++d::l.drop k).length=l.length+1:=by simp;omega
 rw[T9]
 refine fk Tryz.func110 Z Z Zl fun w=>?_
 refine jd 0 (E:=zf so sc l) rfl (show 0<l.length by omega) fun gs YC=>?_
 have YC:so=some ⟨gs,0,none⟩:=YC
 subst YC
 have Ss:((eo (l.take k)).flatten.map AT.val).length=k*1:=by rw[aR,pA (sz:=1) (fun r hr=>(gF _ r hr).1)];simp[eo];omega
 have Hv:((eo (l.drop k)).flatten.map AT.val).length=(l.length - k)*1:=by rw[aR,pA (sz:=1) (fun r hr=>(gF _ r hr).1)];simp[eo]
 have LW:((eo [d]).flatten.map AT.val).length=1:=rfl
 have iZ:vS (l.take k++d::l.drop k)=(eo (l.take k)).flatten.map AT.val++(eo [d]).flatten.map AT.val++(eo (l.drop k)).flatten.map AT.val:=by
  rw[show l.take k++d::l.drop k=l.take k++([d]++l.drop k) from rfl,rv,rv,av]
  rfl
 have CY:vS l=(eo (l.take k)).flatten.map AT.val++(eo (l.drop k)).flatten.map AT.val:=by
  conv=>lhs;rw[<-cK k l]
  rw[rv]
  rfl
 refine Za ?_
 refine dL TT k l.length Z Z Z Z Z Z Z Z Z Z (.inr ⟨_,_,rfl,rfl⟩) (.inl ⟨rfl,rfl⟩) Zo pb pb (Zr ?_)
 refine Za ?_
 refine aG rfl (fun h=>absurd h (by decide)) (fun _=>?_)
 refine Zd ?_
 refine aG rfl (fun h=>absurd (ae h) Zo) (fun _=>?_)
 refine Zc ?_
 refine RA TT Z Z Z Z Z Z Z (Zr ?_)
 refine Za ?_
 refine aG rfl (fun h=>?_) (fun h=>?_)
 ·have h:=ae h
  have ak5:sc=l.length:=by omega
  refine vL 0 Z Z fun s1 cP x4=>?_
  have H:=iO x4 pb
  have V:=V.mono cP
  have HT:bu s1 (some ⟨gs,0,none⟩) k sc 1 (eo (l.take k)):=by
   have:=H.front (k:=k) Zo
   unfold eo at this ⊢
   rw[dG]
   exact this
  have HD:=H.sub (l:=k) (k:=l.length) Zo (aq _)
  rw[show((eo l).take l.length).drop k=eo (l.drop k) by unfold eo;rw[bY (by simp),dR]] at HD
  refine dV 74 1 ?_
  refine Za ?_
  refine eN TT k Z Z Z Z Z Z Z Z Z Z Zo pb (Zr ?_)
  refine Zg ?_
  refine cr 39 (.a (.v (.int .i64 ((l.length+1 - k:Nat):Int)))) rfl trivial (fun _=>aN (Value.int .i64) Zo) ?_
  refine z8 TT 0 Z Z Z Z Z Z Z Z Z Z Z Z Z HT Zo rfl (by decide) Zo Zo (by show(k+(l.length+1 - k))*24<=_;omega) fun g9 Y8 xs Pg vF=>aM TT rfl ?_
  rw[show k+(l.length+1 - k)=l.length+1 by omega] at Pg ⊢
  refine Za ?_
  refine dL TT k (l.length+1) Z Z Z Z Z Z Z Z Z Z (.inr ⟨_,_,rfl,rfl⟩) (.inl ⟨rfl,rfl⟩) Zo Pg Pg (Zr ?_)
  refine si TT 0 (g:=g9) k Z Z Z Z Z Z Z Z Z Z V Z Z ?_ (by decide) Zo (by show k+1<=l.length+1;omega) rfl (fun r hr=>(gF _ r hr).2.2) (Zr ?_)
  ·rw[ai Zo]
   exact aN some (jM _ _)
  refine Za ?_
  refine ck [(0,.pure),(1,.pure),(2,.pure),(3,.pure),(4,.pure),(5,.pure),(6,.pure),(7,.pure),(8,.sink)] mixed Zk (aM TT rfl ?_)
  refine Zr ?_
  refine eO Z Z Z Z Z Z Zo (Zr ?_)
  refine dL TT (k+1) (l.length+1) Z Z Z Z Z Z Z Z Z Z (.inr ⟨_,_,rfl,by omega⟩) (.inl ⟨rfl,rfl⟩) Zo Pg Pg (Zr ?_)
  refine dL TT k l.length Z Z Z Z Z Z Z Z Z Z (.inr ⟨_,_,rfl,rfl⟩) (.inl ⟨rfl,rfl⟩) Zo pb pb (Zr ?_)
  refine si TT 0 (g:=g9) (k+1) Z Z Z Z Z Z Z Z Z Z HD Z Z ?_ Zo Zo (by show k+1+(l.length - k)<=l.length+1;omega) rfl (fun r hr=>(gF _ r hr).2.2) (Zr ?_)
  ·rw[ai Zo]
   exact aN some (jM _ _)
  refine Zb ?_
  refine dq TT rfl fun β w' _ _=>?_
  refine⟨some ⟨g9,0,none⟩,Y8,rfl,Pg,?_⟩
  show [_]=[_]
  unfold zf
  rw[iZ,T9]
  dsimp only
  rw[Ft (p:=k*1) (q:=1) (r:=(l.length - k)*1) Ss LW (by rw[vF];show(l.length+1 - k)*1=_;omega) Hv Zo Zo]
 have h:=ab h
 refine NR 0 (l.length+1) (g:=gs) Z Z (show l.length<=l.length+1 by omega) (show l.length+1<=sc by omega) fun ys X5=>?_
 refine Zc ?_
 refine eN TT (l.length+1) Z Z Z Z Z Z Z Z Z Zo Zo pb (Zr ?_)
 refine Zg ?_
 refine dL TT (k+1) (l.length+1) Z Z Z Z Z Z Z Z Z Z (.inr ⟨_,_,rfl,by omega⟩) (.inl ⟨rfl,rfl⟩) Zo Zo Zo (Zr ?_)
 refine z6 TT 0 (g:=gv) (g':=gs) (o:=(k+1)*1) (fn:=Tryz.f174) (tS:=58) (tR:=4) Z Z Z Z Z Tryz.func174 Zk Zk Zk Zk Z Z Z hV Z Z Z ?_ (show 0<sc*1 by omega) (Zr ?_)
 ·rw[ai Zo]
  exact aN some (jM _ _)
 refine Zb ?_
 refine ck [(0,.pure),(1,.pure),(2,.pure),(3,.pure),(4,.pure),(5,.pure),(6,.pure),(7,.pure),(8,.sink)] mixed Zk (aM TT rfl ?_)
 refine Zr ?_
 refine eO Z Z Z Z Z Z Zo (Zr ?_)
 refine dL TT (k+1) (l.length+1) Z Z Z Z Z Z Z Z Z Z (.inr ⟨_,_,rfl,by omega⟩) (.inl ⟨rfl,rfl⟩) Zo Zo Zo (Zr ?_)
 refine dL TT k (l.length+1) Z Z Z Z Z Z Z Z Z Z (.inr ⟨_,_,rfl,rfl⟩) (.inl ⟨rfl,rfl⟩) Zo Zo Zo (Zr ?_)
 have uP:((vS l++ys).drop (k*1)).take ((l.length - k)*1)=(eo (l.drop k)).flatten.map AT.val:=by
  rw[CY,av,<-Ss,List.drop_left,<-Hv,ke]
 refine I4 TT 0 (g:=gs) (k+1) k (l.length - k) Z Z Z Z Z Z Z Z Z Z Z Z ?_ ?_ (by show min _ _=_;omega) (by show k+1+(l.length - k)<=l.length+1;omega) (by show k+(l.length - k)<=l.length+1;omega) rfl ?_ (Zr ?_)
 ·rw[ai Zo]
  exact aN some (jM _ _)
 ·rw[ai Zo]
  exact aN some (jM _ _)
 ·intro v hv
  have hv:v∈((vS l++ys).drop (k*1)).take ((l.length - k)*1):=hv
  rw[uP] at hv
  obtain⟨c,hc,rfl⟩:=bL.1 hv
  obtain⟨r,hr,VM⟩:=kX.1 hc
  exact AT.one_den fy (dc.1 (gF _ r hr).2.2 c VM)
 refine Za ?_
 refine dL TT k (l.length+1) Z Z Z Z Z Z Z Z Z Z (.inr ⟨_,_,rfl,rfl⟩) (.inl ⟨rfl,rfl⟩) Zo Zo Zo (Zr ?_)
 refine si TT 0 (g:=gs) k Z Z Z Z Z Z Z Z Z Z V Z Z ?_ (by decide) Zo (by show k+1<=l.length+1;omega) rfl (fun r hr=>(gF _ r hr).2.2) (Zr ?_)
 ·rw[ai Zo]
  exact aN some (jM _ _)
 refine Zb ?_
 refine dq TT rfl fun β w' _ _=>?_
 refine⟨some ⟨gs,0,none⟩,sc,rfl,by omega,?_⟩
 show [_]=[_]
 unfold zf
 rw[iZ,T9]
 dsimp only
 rw[uP,CY,CU (p:=k*1) (q:=1) (r:=(l.length - k)*1) Ss LW Hv (by rw[X5];show(l.length+1 - l.length)*1=_;omega) Zo Zo]
end Go.Sy
namespace Go.Sy
structure dz where
 kd:Int
 b:Bool
 n:oh
 s:ByteArray
 i:Int
deriving DecidableEq
def iz:ByteArray:=⟨#[]⟩
def iK:dz:=⟨0,false,fA,iz,0⟩
def dm (p:dz):Bool :=
 if p.kd=0 then decide (p=iK)
 else if p.kd=1 then decide ((⟨0,false,p.n,p.s,p.i⟩:dz)=iK)
 else if p.kd=2 then decide ((⟨0,p.b,fA,p.s,p.i⟩:dz)=iK)&&dv p.n
 else if p.kd=3 then decide ((⟨0,p.b,p.n,iz,p.i⟩:dz)=iK)
 else if p.kd=9 then decide ((⟨0,p.b,p.n,p.s,0⟩:dz)=iK)&&decide (0<=p.i)&&decide (p.i<=4294967295)
 else false
inductive Rt:dz->Prop
 | null:Rt iK
 | bool (b:Bool):Rt ⟨1,b,fA,iz,0⟩
 | num (n:oh) (h:dv n=true):Rt ⟨2,false,n,iz,0⟩
 | str (s:ByteArray):Rt ⟨3,false,fA,s,0⟩
 | whole (i:Int) (h1:0<=i) (h2:i<=4294967295):Rt ⟨9,false,fA,iz,i⟩
theorem lE(p:dz): dm p=true↔Rt p:=by
 obtain⟨kd,b,n,s,i⟩:=p
 constructor
 ·intro h
  unfold dm at h
  dsimp only at h
  split at h
  ·rename_i h0
   rw[aX] at h
   rw[h]
   exact Rt.null
  split at h
  ·rename_i h0 h1
   simp only[aX,iK,dz.mk.injEq,true_and] at h
   obtain⟨rfl,rfl,rfl⟩:=h
   subst h1
   exact Rt.bool b
  split at h
  ·rename_i h0 h1 h2
   simp only[aQ,aX,iK,dz.mk.injEq,true_and] at h
   obtain⟨⟨rfl,rfl,rfl⟩,hs⟩:=h
   subst h2
   exact Rt.num n hs
  split at h
  ·rename_i h0 h1 h2 h3
   simp only[aX,iK,dz.mk.injEq,true_and] at h
   obtain⟨rfl,rfl,rfl⟩:=h
   subst h3
   exact Rt.str s
  split at h
  ·rename_i h0 h1 h2 h3 h9
   simp only[aQ,aX,iK,dz.mk.injEq,true_and,and_true] at h
   obtain⟨⟨⟨rfl,rfl,rfl⟩,ha⟩,hb⟩:=h
   subst h9
   exact Rt.whole i ha hb
  ·cases h
 ·intro h
  cases h with
  | null=>rfl
  | bool b=>simp[dm,iK]
  | num n h=>simp[dm,iK,h]
  | str s=>simp[dm,iK]
  | whole i h1 h2=>simp[dm,iK,h1,h2]
def byteOf (x:Int):UInt8:=UInt8.ofNat (x % 256).toNat
theorem lp(x:Int): ((byteOf x).toNat:Int)=x % 256:=by
 unfold byteOf
 rw[UInt8.toNat_ofNat']
 omega
theorem PN{p:UInt8->Prop}(h:∀ n:Fin 256,p (UInt8.ofNat n.val))(c:UInt8): p c:=by
 have:=h ⟨c.toNat,c.toNat_lt⟩
 simpa using this
theorem Ob: ∀ c:UInt8,255 - (255 - c)=c:=PN (by decide +kernel)
theorem SX: ∀ c:UInt8,48+(c - 48+1) - 1=c:=PN (by decide +kernel)
theorem JZ: ∀ c:UInt8,fh c=true->c - 48+1≠0/\c - 48+1<=10:=PN (by decide +kernel)
def fO (d:oh):List UInt8 :=
 byteOf ((d.dg.size+d.ex+1000) / 256)::byteOf (d.dg.size+d.ex+1000)::(d.dg.data.toList.map (fun c=>c - 48+1)++[0])
def fN (l:List UInt8):List UInt8:=l.map fun c=>255 - c
theorem KO(l:List UInt8): fN (fN l)=l:=by
 unfold fN
 rw[jm]
 conv=>rhs;rw[<-List.map_id l]
 exact cY fun c _=>Ob c
def mL:List UInt8->List UInt8
 | []=>[]
 | c::l=>if c=0 then 0::255::mL l else c::mL l
def iF (p:dz):List UInt8 :=
 if p.kd=0 then [16]
 else if p.kd=1 then [if p.b then 33 else 32]
 else if p.kd=2 then (if p.n.dg.size=0 then [49] else if p.n.neg then 48::fN (fO p.n) else 50::fO p.n)
 else if p.kd=3 then 64::(mL p.s.data.toList++[0,0])
 else [80,byteOf (p.i / 16777216),byteOf (p.i / 65536),byteOf (p.i / 256),byteOf p.i]
def qO (l:List dz):List UInt8×Int :=
 if 16<l.length then ([],4) else if l.all dm then (l.flatMap iF,0) else ([],1)
def BF:List UInt8->Option (List UInt8×List UInt8)
 | []=>none
 | c::l=>if c=0 then some ([],l) else (BF l).map fun p=>(c::p.1,p.2)
theorem EF: ∀(a r:List UInt8),(∀ c∈a,c≠0)->BF (a++0::r)=some (a,r)
 | [],r,_=>by simp[BF]
 | c::a,r,h=>by
  rw[aZ,BF,ai (h c a8),EF a r fun x hx=>h x (ba c hx)]
  rfl
def NP (neg:Bool) (x y:UInt8) (ds:List UInt8):oh:=⟨neg,ju (ds.map fun c=>48+c - 1),x.toNat*256+y.toNat - 1000 - ds.length⟩
def Gu (b:List UInt8) (neg:Bool):Option (oh×List UInt8) :=
 match (if neg then fN b else b) with
 | x::y::s =>
  match BF s with
  | some (ds,_)=>if ds=[]\/(ds.any fun c=>decide (10<c))=true\/dv (NP neg x y ds)=false then none else some (NP neg x y ds,b.drop (3+ds.length))
  | none=>none
 | _=>none
def BQ:List UInt8->Option (List UInt8×List UInt8)
 | []=>none
 | [_]=>none
 | c::d::r =>
  if c≠0 then (BQ (d::r)).map fun p=>(c::p.1,p.2)
  else if d=0 then some ([],r) else if d=255 then (BQ r).map fun p=>(0::p.1,p.2) else none
def zv (b:List UInt8):Option (dz×List UInt8) :=
 match b with
 | []=>none
 | t::r =>
  if t=16 then some (iK,r)
  else if t=32\/t=33 then some (⟨1,decide (t=33),fA,iz,0⟩,r)
  else if t=49 then some (⟨2,false,fA,iz,0⟩,r)
  else if t=48\/t=50 then (Gu r (decide (t=48))).map fun p=>(⟨2,false,p.1,iz,0⟩,p.2)
  else if t=64 then (BQ r).map fun p=>(⟨3,false,fA,ju p.1,0⟩,p.2)
  else if t=80 then
   match r with
   | a::b::c::d::r=>some (⟨9,false,fA,iz,(a.toNat:Int)*16777216+b.toNat*65536+c.toNat*256+d.toNat⟩,r)
   | _=>none
  else none
theorem J0: ∀(s u:List UInt8),BQ (mL s++0::0::u)=some (s,u)
 | [],u=>by simp[mL,BQ]
 | c::s,u=>by
  have ih:=J0 s u
  unfold mL
  split
  ·rename_i h0
   subst h0
   rw[aZ,aZ,BQ,ih]
   simp
  ·rename_i h0
   have:∃ d r,mL s++0::0::u=d::r:=by
    cases h:mL s++0::0::u with
    | nil=>simp at h
    | cons d r=>exact⟨d,r,rfl⟩
   obtain⟨d,r,e⟩:=this
   rw[aZ,e,BQ,au h0,<-e,ih]
   rfl
theorem vi{d:oh}(h:dv d=true)(h0:d.dg.size≠0): (∀ c∈d.dg.data.toList,fh c=true) /\ -400<=d.dg.size+d.ex/\d.dg.size+d.ex<=400:=by
 obtain⟨ng,dg,ex⟩:=d
 obtain⟨l,rfl⟩:=oS dg
 simp only[gB] at h0 ⊢
 rw[jV _ _ _ h0] at h
 simp only[aQ,aX,dc] at h
 obtain⟨⟨⟨⟨⟨⟨⟨-,h1⟩,-⟩,-⟩,h2⟩,h3⟩,-⟩,-⟩:=h
 exact⟨h1,h2,h3⟩
theorem Oo{d:oh}(h:dv d=true)(h0:d.dg.size=0): d=fA:=by
 obtain⟨ng,dg,ex⟩:=d
 obtain⟨l,rfl⟩:=oS dg
 have h0:l.length=0:=by simpa using h0
 have hl:l=[]:=aY h0
 subst hl
 simp only[dv,jr,List.length_nil,if_true,aQ,iE,aX] at h
 obtain⟨rfl,rfl⟩:=h
 rfl
theorem Hc{l:List UInt8}(h:∀ c∈l,c<=10): (l.any fun c=>decide (10<c))=false:=by
 rw[List.any_eq_false]
 intro c hc
 have:=h c hc
 rw[aX,UInt8.not_lt]
 exact this
theorem Kc{d:oh}(h:dv d=true)(h0:d.dg.size≠0): NP d.neg (byteOf ((d.dg.size+d.ex+1000) / 256)) (byteOf (d.dg.size+d.ex+1000)) (d.dg.data.toList.map fun c=>c - 48+1)=d:=by
 obtain⟨-,h1,h2⟩:=vi h h0
 obtain⟨ng,dg,ex⟩:=d
 obtain⟨l,rfl⟩:=oS dg
 simp only[gB] at h1 h2 ⊢
 unfold NP
 rw[jr,jm,aR,lp,lp]
 congr 1
 ·congr 1
  conv=>rhs;rw[<-List.map_id l]
  exact cY fun c _=>SX c
 ·omega
theorem Il(d:oh): (fO d).length=3+d.dg.size:=by
 unfold fO
 rw[List.length_cons,List.length_cons,af,aR,b8,cZ]
 show d.dg.data.size+1+1+1=3+d.dg.data.size
 omega
theorem Ik{d:oh}(h:dv d=true)(h0:d.dg.size≠0)(u:List UInt8): Gu ((if d.neg then fN (fO d) else fO d)++u) d.neg=some (d,u):=by
 obtain⟨hd,-,-⟩:=vi h h0
 have hs:(if d.neg then fN ((if d.neg then fN (fO d) else fO d)++u) else ((if d.neg then fN (fO d) else fO d)++u))=fO d++(if d.neg then fN u else u):=by
  cases d.neg
  ·rfl
  ·show fN (fN (fO d)++u)=fO d++fN u
   have:fN (fN (fO d)++u)=fN (fN (fO d))++fN u:=aF
   rw[this,KO]
 unfold Gu
 rw[hs]
 unfold fO
 rw[aZ,aZ,av]
 dsimp only
 rw[show([0]++(if d.neg then fN u else u))=0::(if d.neg then fN u else u) from rfl,EF _ _ (fun c hc=>by
  obtain⟨x,hx,rfl⟩:=bL.1 hc
  exact(JZ x (hd x hx)).1)]
 dsimp only
 rw[Kc h h0,ai,aR]
 ·congr 2
  have hl:(if d.neg then fN (fO d) else fO d).length=3+d.dg.data.toList.length:=by
   have:=Il d
   split
   ·unfold fN;rw[aR,this];rfl
   ·rw[this];rfl
  show List.drop (3+d.dg.data.toList.length) _=u
  rw[<-hl]
  exact List.drop_left
 ·rintro(h1 | h1 | h1)
  ·rw[List.map_eq_nil_iff] at h1
   exact h0 (by show d.dg.data.size=0;rw[<-cZ,h1];rfl)
  ·rw[Hc fun c hc=>by
    obtain⟨x,hx,rfl⟩:=bL.1 hc
    exact(JZ x (hd x hx)).2] at h1
   cases h1
  ·rw[h] at h1;cases h1
theorem Pr{p:dz}(h:Rt p)(u:List UInt8): zv (iF p++u)=some (p,u):=by
 cases h with
 | null=>rfl
 | bool b=>cases b<;>rfl
 | num n h =>
  unfold iF
  dsimp only
  rw[ai (by decide),ai (by decide),au rfl]
  by_cases h0:n.dg.size=0
  ·rw[au h0,Oo h h0]
   rfl
  rw[ai h0]
  have hn:=Ik h h0 u
  cases JD:n.neg with
  | true =>
   rw[JD] at hn
   simp only[if_true] at hn ⊢
   rw[aZ]
   unfold zv
   dsimp only
   rw[ai (by decide),ai (by decide),ai (by decide),au (.inl rfl),bj rfl,hn]
   rfl
  | false =>
   rw[JD] at hn
   simp only[dI,if_false] at hn ⊢
   rw[aZ]
   unfold zv
   dsimp only
   rw[ai (by decide),ai (by decide),ai (by decide),au (.inr rfl),show decide ((50:UInt8)=48)=false from rfl,hn]
   rfl
 | str s =>
  unfold iF
  dsimp only
  rw[ai (by decide),ai (by decide),ai (by decide),au rfl,aZ,av]
  unfold zv
  dsimp only
  rw[ai (by decide),ai (by decide),ai (by decide),ai (by decide),au rfl,show [0,0]++u=0::0::u from rfl,J0]
  rfl
 | whole i h1 h2 =>
  show zv (80::byteOf (i / 16777216)::byteOf (i / 65536)::byteOf (i / 256)::byteOf i::u)=_
  unfold zv
  dsimp only
  rw[ai (by decide),ai (by decide),ai (by decide),ai (by decide),ai (by decide),au rfl]
  rw[lp,lp,lp,lp]
  congr 3
  omega
theorem Rc{p:dz}(h:Rt p): iF p≠[]:=by
 intro e
 have h1:=Pr h []
 rw[e] at h1
 cases h1
theorem TH{l:List dz}: l.all dm=true↔∀ p∈l,Rt p:=by
 rw[dc]
 exact⟨fun h p hp=>(lE p).1 (h p hp),fun h p hp=>(lE p).2 (h p hp)⟩
def ug:List UInt8->List UInt8->Int
 | [],[]=>0
 | [],_::_ => -1
 | _::_,[]=>1
 | a::l,b::m=>if a<b then -1 else if b<a then 1 else ug l m
theorem FN: ∀(p a b:List UInt8),ug (p++a) (p++b)=ug a b
 | [],a,b=>rfl
 | x::p,a,b=>by
  rw[aZ,aZ,ug,ai (UInt8.lt_irrefl x),ai (UInt8.lt_irrefl x),FN p a b]
end Go.Sy
namespace Go.Sy
open Go.Proofs
def cc (p:dz):List AT:=[.v (.int .i64 p.kd),.b p.b,.b p.n.neg,.v (.string p.n.dg),.v (.int .i64 p.n.ex),.v (.string p.s),.v (.int .i64 p.i)]
theorem bT(n:Nat)(p:dz): ∀ c∈cc p,c.lt n:=by simp[cc,AT.lt]
def m6 (l:List dz):List (List AT):=l.map cc
theorem wP{l:List dz}{i:Nat}{x:dz}(h:l[i]?=some x): (m6 l)[i]?=some (cc x):=by unfold m6;rw[aO,h];rfl
theorem Cx(l:List dz): ∀ r∈m6 l,r.length=7/\(∀ c∈r,c.lt 0)/\r.all AT.one=true:=by
 intro r hr
 obtain⟨x,_,rfl⟩:=bL.1 hr
 exact⟨rfl,bT 0 x,rfl⟩
def ai0 (l:List dz):List Value:=(m6 l).flatten.map AT.val
def lb (p:dz):Array Value:=#[.int .i64 p.kd,.bool p.b,.bool p.n.neg,.string p.n.dg,.int .i64 p.n.ex,.string p.s,.int .i64 p.i]
theorem Ot{P:Program}{w:World}{t:TypeId}{xs:Array Value}{o n:Nat}{d:TypeDesc}(hu:P.underlying t=some d)(hd:AY d=true)(hn:P.cellsOf t=n): (part t xs o).run P w=.ok (.agg (xs.extract o (o+n))) w:=by
 simp only[part,Sem.run_bind,jK hu,hd,Result.andThen_ok,if_true,oO hn hu,Sem.run_pure]
structure TU (t:Nat):Prop where
 qx:Tryz.prog.underlying t=some (.struct (Tryz.prog.fieldsOf t))
 held:Tryz.prog.stoodInHeld t=false
 grd:Tryz.prog.eqGuardType Tryz.prog.depth t=false
 fs:mF (Tryz.prog.fieldsOf t).toList [(3,0),(4,1),(24,2),(9,5),(3,6)]=true
theorem Xu: Tryz.prog.cellsOf 24=3:=by kernel_rfl
theorem Pz{t:Nat}(ht:TU t)(m:Nat)(a b:dz)(w:World): (Op.equalIn (m+1+1+1) t (.agg (lb a)) (.agg (lb b))).run Tryz.prog w=.ok (decide (a=b)) w:=by
 rw[run_equalIn_agg w (m+1+1) t _ _ ht.qx ht.held]
 have h:=ht.fs
 generalize (Tryz.prog.fieldsOf t).toList=fl at h
 obtain⟨f0,fl,rfl,n0,t0,o0,h⟩:=cA h
 obtain⟨f1,fl,rfl,n1,t1,o1,h⟩:=cA h
 obtain⟨f2,fl,rfl,n2,t2,o2,h⟩:=cA h
 obtain⟨f3,fl,rfl,n3,t3,o3,h⟩:=cA h
 obtain⟨f4,fl,rfl,n4,t4,o4,h⟩:=cA h
 cases fl with
 | cons _ _=>cases h
 | nil =>
  have ii:∀(f:Field) (o:Nat) (r:dz) (x:Int),f.type=3->f.offset=o->(lb r)[o]?=some (.int .i64 x)->(part f.type (lb r) f.offset).run Tryz.prog w=.ok (.int .i64 x) w:=fun f o r x ht ho hx=>jg (by rw[ht];exact pF) rfl (by rw[ho];exact hx)
  have bb:∀(f:Field) (o:Nat) (r:dz) (x:Bool),f.type=4->f.offset=o->(lb r)[o]?=some (.bool x)->(part f.type (lb r) f.offset).run Tryz.prog w=.ok (.bool x) w:=fun f o r x ht ho hx=>jg (by rw[ht];exact D6) rfl (by rw[ho];exact hx)
  have ss:∀(f:Field) (o:Nat) (r:dz) (x:ByteArray),f.type=9->f.offset=o->(lb r)[o]?=some (.string x)->(part f.type (lb r) f.offset).run Tryz.prog w=.ok (.string x) w:=fun f o r x ht ho hx=>jg (by rw[ht];exact D5) rfl (by rw[ho];exact hx)
  have dd:∀(r:dz),(part f2.type (lb r) f2.offset).run Tryz.prog w=.ok (.agg #[.bool r.n.neg,.string r.n.dg,.int .i64 r.n.ex]) w:=fun r=>by
   rw[Ot (n:=3) (by rw[t2];exact Qs) rfl (by rw[t2];exact Xu),o2]
   rfl
  rw[cW (r:=a.kd == b.kd) n0 (ii f0 0 a _ t0 o0 rfl) (ii f0 0 b _ t0 o0 rfl) (run_equalIn_int w (m+1) f0.type .i64 .i64 a.kd b.kd (by rw[t0];exact pF))]
  rw[cW (r:=a.b == b.b) n1 (bb f1 1 a _ t1 o1 rfl) (bb f1 1 b _ t1 o1 rfl) (run_equalIn_bool' w (m+1) f1.type a.b b.b (by rw[t1];exact D6))]
  rw[cW (r:=decide (a.n=b.n)) n2 (dd a) (dd b) (by rw[t2];exact x9 m a.n b.n w)]
  rw[cW (r:=decide (a.s=b.s)) n3 (ss f3 5 a _ t3 o3 rfl) (ss f3 5 b _ t3 o3 rfl) (vj (m+1) f3.type a.s b.s (by rw[t3];exact D5))]
  rw[cW (r:=a.i == b.i) n4 (ii f4 6 a _ t4 o4 rfl) (ii f4 6 b _ t4 o4 rfl) (run_equalIn_int w (m+1) f4.type .i64 .i64 a.i b.i (by rw[t4];exact pF))]
  simp only[Op.eqFields,Sem.run_pure]
  have:(decide (a=b))=(a.kd == b.kd&&(a.b == b.b&&(decide (a.n=b.n)&&(decide (a.s=b.s)&&a.i == b.i)))):=by
   rw[cg]
   cases a;cases b
   simp
  rw[this]
  cases (a.kd == b.kd)<;>cases (a.b == b.b)<;>cases decide (a.n=b.n)<;>cases decide (a.s=b.s)<;>cases (a.i == b.i)<;>rfl
section
variable {cf:Cf} {Q:Exit->Act->World->Prop} {σ:al} {env:Env} {hp:HP} {A:List AE} {nh:Nat} {it:Item} {rest:List Item}
theorem sg{t:Nat}(ht:TU t){d:Nat}{x y:Operand}{yt:TypeId}{ca cb:List AT}(a b:dz)(hP:cf.P=Tryz.prog)(fL:it.o.op=.binOp .eql t x y yt)(hd:it.o.dst=some d)(hg:bt it.guard env=some true)(hN:Nat.blt d cf.N=true)(hx:bP env x=some (.agg ca))(hy:bP env y=some (.agg cb))(hca:∀ β,ca.map (AT.den β)=(cc a).map (AT.den β))(DX:∀ β,cb.map (AT.den β)=(cc b).map (AT.den β))(hk:OJ cf rest Q σ ((d,.a (.b (decide (a=b))))::env) hp A nh): OJ cf (it::rest) Q σ env hp A nh:=by
 refine jB (.a (.b (decide (a=b)))) hd hg hN trivial (fun _ ac β ha w=>?_) hk
 have h1:ac.eval x=.agg (lb a):=(aD ha hx).trans (by simp only[SV.den,hca];rfl)
 have h2:ac.eval y=.agg (lb b):=(aD ha hy).trans (by simp only[SV.den,DX];rfl)
 rw[hP]
 have hG:(eqGuard .eql t x y (.agg (lb a)) (.agg (lb b))).run Tryz.prog w=.ok () w:=run_eqGuard_agg w _ _ _ _ _ _ ht.grd
 have hE:(Op.equalIn 10000 t (.agg (lb a)) (.agg (lb b))).run Tryz.prog w=.ok (decide (a=b)) w:=Pz ht 9997 a b w
 have hB:(binOp .eql t (.agg (lb a)) (.agg (lb b))).run Tryz.prog w=.ok (.bool (decide (a=b))) w:=by
  rw[run_eql_struct,hE]
  rfl
 simp only[execOp,fL,h1,h2,Sem.run_bind,hG,hB,Result.andThen_ok,Sem.run_pure]
 rfl
end
theorem xH: TU 99:=⟨by kernel_rfl,by kernel_rfl,by kernel_rfl,by kernel_rfl⟩
theorem US(σ:al)(p:dz)(hd:p.n.dg.size<=bJ): bZ Tryz.prog 218 [.agg (cc p)] σ (fun v=>v=.bool (dm p)):=by
 obtain⟨kd,b,n,s,i⟩:=p
 refine bW Tryz.func218 Z Z ⟨bT 0 _,trivial⟩ fun w=>?_
 refine Zd ?_
 refine aG rfl (fun h=>?_) (fun h0=>?_)
 ·have h:=ae (show decide (kd=0)=true from h)
  refine Zc ?_
  refine sg xH ⟨0,b,n,s,i⟩ iK Z Z Z Z Z Z Z (fun _=>rfl) (fun _=>rfl) (Zr ?_)
  refine Zb ?_
  refine aw TT rfl fun β w' _ _=>?_
  subst h
  rfl
 have h0:=ab (show decide (kd=0)=false from h0)
 refine Za ?_
 refine aG rfl (fun h=>?_) (fun h1=>?_)
 ·have h:=ae (show decide (kd=1)=true from h)
  refine Zc ?_
  refine sg xH ⟨0,false,n,s,i⟩ iK Z Z Z Z Z Z Z (fun _=>rfl) (fun _=>rfl) (Zr ?_)
  refine Zb ?_
  refine aw TT rfl fun β w' _ _=>?_
  subst h
  rfl
 have h1:=ab (show decide (kd=1)=false from h1)
 refine Za ?_
 refine aG rfl (fun h=>?_) (fun h2=>?_)
 ·have h:=ae (show decide (kd=2)=true from h)
  refine Za ?_
  refine sg xH ⟨0,b,fA,s,i⟩ iK Z Z Z Z Z Z Z (fun _=>rfl) (fun _=>rfl) (Zr ?_)
  refine ax 20 rfl (fun hq=>?_) (fun hq=>?_)
  ·have hq:decide ((⟨0,b,fA,s,i⟩:dz)=iK)=true:=hq
   refine Zr ?_
   refine aT Z Z Z Z Z Tryz.call228 Zl (FH σ n hd) fun v hv=>⟨.a (.b (dv n)),trivial,hv.symm,?_⟩
   refine gn ?_
   refine aw TT rfl fun β w' _ _=>?_
   subst h
   show Value.bool (dv n)=.bool (decide ((⟨0,b,fA,s,i⟩:dz)=iK)&&dv n)
   rw[hq,cp]
  ·have hq:decide ((⟨0,b,fA,s,i⟩:dz)=iK)=false:=hq
   refine gn ?_
   refine aw TT rfl fun β w' _ _=>?_
   subst h
   show Value.bool false=.bool (decide ((⟨0,b,fA,s,i⟩:dz)=iK)&&dv n)
   rw[hq,dt]
 have h2:=ab (show decide (kd=2)=false from h2)
 refine Za ?_
 refine aG rfl (fun h=>?_) (fun h3=>?_)
 ·have h:=ae (show decide (kd=3)=true from h)
  refine Zc ?_
  refine sg xH ⟨0,b,n,iz,i⟩ iK Z Z Z Z Z Z Z (fun _=>rfl) (fun _=>rfl) (Zr ?_)
  refine Zb ?_
  refine aw TT rfl fun β w' _ _=>?_
  subst h
  rfl
 have h3:=ab (show decide (kd=3)=false from h3)
 refine Za ?_
 refine aG rfl (fun h=>?_) (fun h9=>?_)
 ·have h:=ae (show decide (kd=9)=true from h)
  refine Za ?_
  refine sg xH ⟨0,b,n,s,0⟩ iK Z Z Z Z Z Z Z (fun _=>rfl) (fun _=>rfl) (Zr ?_)
  refine ax 34 rfl (fun hq=>?_) (fun hq=>?_)
  ·have hq:decide ((⟨0,b,n,s,0⟩:dz)=iK)=true:=hq
   refine Zr ?_
   refine ax 39 rfl (fun hi=>?_) (fun hi=>?_)
   ·have hi:decide (0<=i)=true:=hi
    refine gn ?_
    refine aw TT rfl fun β w' _ _=>?_
    subst h
    show Value.bool (decide (i<=4294967295))=.bool (decide ((⟨0,b,n,s,0⟩:dz)=iK)&&decide (0<=i)&&decide (i<=4294967295))
    rw[hq,hi,cp,cp]
   ·have hi:decide (0<=i)=false:=hi
    refine gn ?_
    refine aw TT rfl fun β w' _ _=>?_
    subst h
    show Value.bool false=.bool (decide ((⟨0,b,n,s,0⟩:dz)=iK)&&decide (0<=i)&&decide (i<=4294967295))
    rw[hi,lu,dt]
  ·have hq:decide ((⟨0,b,n,s,0⟩:dz)=iK)=false:=hq
   refine gn ?_
   refine aw TT rfl fun β w' _ _=>?_
   subst h
   show Value.bool false=.bool (decide ((⟨0,b,n,s,0⟩:dz)=iK)&&decide (0<=i)&&decide (i<=4294967295))
   rw[hq,dt,dt]
 have h9:=ab (show decide (kd=9)=false from h9)
 refine Zb ?_
 refine aw TT rfl fun β w' _ _=>?_
 unfold dm
 dsimp only
 rw[ai h0,ai h1,ai h2,ai h3,ai h9]
 rfl
end Go.Sy
namespace Go.Sy
open Go.Proofs
def x7 (l:List UInt8) (k:Nat):List UInt8:=l.take k++List.replicate (l.length - k) 0
theorem Pt(l:List UInt8): x7 l l.length=l:=by unfold x7;simp
theorem Ps{l:List UInt8}{k:Nat}{x:UInt8}(h:l[k]?=some x): (x7 l k).set k x=x7 l (k+1):=by
 obtain⟨hk,he⟩:=ah.1 h
 unfold x7
 have hl:(l.take k).length=k:=by rw[aE];omega
 rw[ak hk,he,show l.length - k=(l.length - (k+1))+1 by omega,List.replicate_succ,dY _ _ Zo,hl,fM,hX,av]
 rfl
theorem BM(l:List UInt8)(k:Nat)(x:UInt8): (kA l).set k (.int .u8 (x.toNat:Int))=kA (l.set k x):=by
 unfold kA
 rw[lW]
theorem KN(n:Nat): (List.replicate n ([.int .u8 0]:List Value)).flatten=kA (List.replicate n 0):=by
 induction n with
 | zero=>rfl
 | succ n ih =>
  rw[List.replicate_succ,List.replicate_succ,dx,ih]
  rfl
theorem Oc{l:List UInt8}{k:Nat}{x:UInt8}(h:l[k]?=some x): (fN l)[k]?=some (255 - x):=by unfold fN;rw[aO,h];rfl
theorem kf(l:List UInt8): (fN l).length=l.length:=by simp[fN]
theorem Qx(σ:al)(l:List UInt8)(hl:l.length<=1000000)(ao:Option Addr)(cap:Nat)(H:bu σ ao l.length cap 1 (gM l)):
  fa Tryz.prog 237 [.a (.v (.slice ao l.length cap))] σ (fun v bD=>∃ bo bc,v=.slice bo l.length bc/\bu bD bo l.length bc 1 (gM (fN l))):=by
 refine ek Tryz.func237 Z Z Zl fun w=>?_
 refine Za ?_
 refine Ec (n:=l.length) TT _ Z Z Z Z Z Z Z Z Z Z (by show l.length*1<=_;omega) Zo (Em [.int .u8 0] l.length) fun g=>?_
 rw[KN]
 refine Hz ?_
 refine bX (fun(_:Nat)=>σ) (fun k=>[(3,.a (.v (.slice (some ⟨g,0,none⟩) l.length l.length))),(9,.a (.v (.slice ao l.length cap))),(10,.a (.v (.int .i64 l.length))),(11,.a (.v (.int .i64 (k:Nat))))]) (fun _=>[]) (fun k=>[⟨some ⟨g,0,none⟩,l.length,l.length,5,1,kA (x7 (fN l) k)⟩]) 0
  (fun k=>k<=l.length) (fun k=>l.length - k) 0 (ay _) rfl Zs Zs (by unfold x7;rw[kf];rfl) Zl Zl fun k hk=>?_
 refine Za ?_
 refine aG rfl (fun h=>?_) (fun h=>?_)
 rotate_left
 ·have fQ:k=l.length:=by have:=ab h;omega
  have e:x7 (fN l) k=fN l:=by rw[fQ,<-kf l,Pt]
  rw[e]
  refine Ze ?_
  refine dD 0 Z Z fun s1 cP hS=>?_
  refine aw TT rfl fun β w' _ _=>?_
  have hS:b9 s1 (rI (some ⟨g,0,none⟩) l.length (fN l)):=by unfold rI;rw[kf];exact hS
  have:=rW hS (by rw[kf];exact aq _)
  rw[kf] at this
  exact⟨_,_,rfl,this⟩
 have cz:k<l.length:=by have:=ae h;omega
 have hx:=aa cz
 have bU:=sV hx
 have LN:=Ps (Oc hx)
 generalize l[k]=x at *
 refine Zd ?_
 refine bk TT Z Z Z Z Z Z Z Z Z H Zo bU (Zr ?_)
 refine Za ?_
 refine OM Z Z Z Z Z (Zr ?_)
 refine br TT Z Z Z Z Z Z Z Z Z ⟨by omega,by omega⟩ (Zr ?_)
 refine jC 0 (off:=k) (A':=[⟨some ⟨g,0,none⟩,l.length,l.length,5,1,kA (x7 (fN l) (k+1))⟩]) (c:=.v (.int .u8 ((255 - x).toNat:Int))) TT Z Z Z Z (by rw[jM];show some (SV.a (AT.v (.pointer (some ⟨g,((k:Nat):Int).toNat*1,none⟩))))=_;rw[kS];rfl) Z Z Z Z Z (by show k<l.length*1;omega) trivial rfl (by rw[<-LN,<-BM];rfl) (Zr ?_)
 refine Zc ?_
 refine an (k+1) cz Zo rfl Zs Zs rfl Zl Zl
theorem tX(x:Int): IntKind.u8.wrap x=((byteOf x).toNat:Int):=by
 rw[lp]
 rfl
theorem XC(h:Int): tQ .i64 h 8=h / 256:=by
 show h.fdiv 256=_
 rw[Int.fdiv_eq_ediv_of_nonneg _ (by decide)]
theorem EG: ∀ c:UInt8,IntKind.u8.wrap ((c.toNat:Int) - 48)=((c - 48).toNat:Int):=PN (by decide +kernel)
theorem EH: ∀ c:UInt8,IntKind.u8.wrap ((c.toNat:Int)+1)=((c+1).toNat:Int):=PN (by decide +kernel)
def yr (h:Int) (l:List UInt8) (k:Nat):List UInt8:=byteOf (h / 256)::byteOf h::(l.take k).map (fun c=>c - 48+1)
theorem ME(h:Int)(l:List UInt8)(k:Nat): (yr h l k).length<=2+l.length:=by
 unfold yr
 rw[List.length_cons,List.length_cons,aR,aE]
 omega
theorem Ia{h:Int}{l:List UInt8}{k:Nat}{c:UInt8}(hc:l[k]?=some c): yr h l (k+1)=yr h l k++[c - 48+1]:=by
 obtain⟨hk,he⟩:=ah.1 hc
 unfold yr
 rw[ak hk,he,aF]
 rfl
structure SzS where
 k:Nat
 oo:Option Addr
 oc:Nat
theorem QJ(σ:al)(d:oh)(hs:dv d=true)(h0:d.dg.size≠0): fa Tryz.prog 238 [.agg (lC d)] σ (fun v bD=>∃ ao cap,v=.slice ao (fO d).length cap/\bu bD ao (fO d).length cap 1 (gM (fO d))):=by
 obtain⟨am8,h1,h2⟩:=vi hs h0
 obtain⟨ng,dg,ex⟩:=d
 obtain⟨l,rfl⟩:=oS dg
 have jZ:=gB l
 dsimp only at h0 h1 h2
 rw[jZ] at h0
 have am1:l.length<=40:=by
  rw[jV _ _ _ h0] at hs
  simp only[aQ,aX] at hs
  exact hs.1.1.1.1.1.1.1
 refine ek Tryz.func238 Z Z Zl fun w=>?_
 refine Za ?_
 refine eO Z Z Z Z Z Z (by dsimp only;omega) (Zr ?_)
 refine eO Z Z Z Z Z Z (by dsimp only;omega) (Zr ?_)
 dsimp only
 have hH1:0<=((ju l).size:Int)+ex+1000:=by omega
 have hH2:((ju l).size:Int)+ex+1000<=1400:=by omega
 have Ye:fO ⟨ng,ju l,ex⟩=byteOf ((((ju l).size:Int)+ex+1000) / 256)::byteOf (((ju l).size:Int)+ex+1000)::(l.map (fun c=>c - 48+1)++[0]):=by
  unfold fO
  dsimp only
  rw[jr]
 generalize ((ju l).size:Int)+ex+1000=h at *
 refine Zg ?_
 have e1:IntKind.u8.wrap (tQ .i64 h 8)=((byteOf (h / 256)).toNat:Int):=by rw[tX,XC]
 have e2:IntKind.u8.wrap h=((byteOf h).toNat:Int):=tX h
 rw[e1,e2]
 refine gP 1 2 1 rfl Zl rfl (by decide) fun g=>?_
 refine uD (y:=ju l) TT Z Z Z Z Z Z Z Z Z Z Z fun ao cap s1 cP HB=>?_
 rw[Kh,jr,jZ] at HB
 refine cr 22 (.a (.v (.slice ao l.length cap))) rfl trivial (fun β=>by rw[jZ]) (Zr ?_)
 refine Zd ?_
 refine bX (fun(_:SzS)=>s1) (fun t=>[(4,.a (.v (.slice t.oo (yr h l t.k).length t.oc))),(22,.a (.v (.slice ao l.length cap))),(23,.a (.v (.int .i64 l.length))),(24,.a (.v (.int .i64 (t.k:Nat))))]) (fun _=>[]) (fun t=>[rI t.oo t.oc (yr h l t.k)]) 0
  (fun t=>t.k<=l.length/\(yr h l t.k).length<=t.oc) (fun t=>l.length - t.k) ⟨0,some ⟨g,0,none⟩,2⟩ ⟨ay _,aq _⟩ rfl Zs Zs rfl Zl Zl fun⟨k,oo,oc⟩ ⟨hk,j6⟩=>?_
 dsimp only at hk j6 ⊢
 have hlen:=ME h l k
 refine Za ?_
 refine aG rfl (fun hc=>?_) (fun hc=>?_)
 rotate_left
 ·have fQ:k=l.length:=by have:=ab hc;omega
  have e:yr h l k++[0]=fO ⟨ng,ju l,ex⟩:=by
   rw[Ye,fQ]
   unfold yr
   rw[aI]
   rfl
  refine Ze ?_
  refine bl TT 0 Z Z Z Z Z Z Z Z Z Z Z Z Z Z Z Z Z Z Zl rfl Zo (by show((yr h l k).length+1)*1<=_;omega) fun om nE lS=>aM TT rfl ?_
  refine Zb ?_
  refine dD 0 Z Z fun s2 cw hS=>?_
  refine aw TT rfl fun β w' _ _=>?_
  have lJ:(yr h l k++[0]).length=(yr h l k).length+1:=by simp
  have hS:b9 s2 (rI om nE (yr h l k++[0])):=by unfold rI;rw[lJ,kh];exact hS
  have:=rW hS (by rw[lJ];exact lS)
  rw[<-e]
  exact⟨om,nE,by rw[lJ];rfl,this⟩
 have cz:k<l.length:=by have:=ae hc;omega
 have hx:=aa cz
 have bU:=sV hx
 have m1:=Ia (h:=h) hx
 generalize l[k]=c at *
 refine Zd ?_
 refine bk TT Z Z Z Z Z Z Z Z Z HB Zo bU (Zr ?_)
 refine Za ?_
 refine kI ((c - 48).toNat:Int) Z Z Z Z Z Z (A9 (EG c)) (Zr ?_)
 refine kI ((c - 48+1).toNat:Int) Z Z Z Z Z Z (Ba (EH (c - 48))) (Zr ?_)
 refine bl TT 0 Z Z Z Z Z Z Z Z Z Z Z Z Z Z Z Z Z Z Zl rfl Zo (by show((yr h l k).length+1)*1<=_;omega) fun om nE lS=>aM TT rfl ?_
 refine Zc ?_
 have lJ:(yr h l (k+1)).length=(yr h l k).length+1:=by rw[m1];simp
 refine an (⟨k+1,om,nE⟩:SzS) ⟨cz,by dsimp only;omega⟩ (by dsimp only;omega) rfl ?_ Zs ?_ Zl Zl
 ·dsimp only
  rw[lJ]
  (repeat first | exact trivial | refine⟨rfl,?_⟩)
 ·show [_]=[_]
  dsimp only
  unfold rI
  rw[lJ,m1,kh]
  rfl
end Go.Sy
namespace Go.Proofs
open Go.Sy
open Go.Shelf
def Tryz.Ai:Go.Shelf.Ren:=⟨fun | 155=>239 | 154=>248 | 138=>258 | 165=>259 | 143=>260 | 166=>261 | 197=>262 | 169=>263 | 195=>267 | 218=>268 | 240=>269 | 241=>270 | 219=>271 | 260=>272 | 276=>275 | 277=>276 | 217=>277 | 225=>278 | 224=>279 | 267=>280 | 266=>283 | 314=>284 | n=>n,fun | 9=>9 | 3=>3 | 4=>4 | 72=>362 | 0=>0 | 76=>365 | 105=>249 | 21=>21 | 5=>5 | 70=>360 | 20=>20 | 37=>149 | 75=>364 | 127=>372 | 164=>374 | 46=>318 | 119=>376 | 139=>379 | 138=>378 | 146=>381 | 51=>380 | 80=>368 | n=>n,fun | 1=>0 | 3=>1 | 4=>2 | n=>n⟩
theorem Tryz.Vj: Go.Proofs.Lays.n155 Tryz.prog Tryz.Ai:={
 mixed:=by kernel_rfl
 f138:=Tryz.func258.trans (aN some Zk)
 f143:=Tryz.func260.trans (aN some Zk)
 f154:=Tryz.func248.trans (aN some Zk)
 f155:=Tryz.func239.trans (aN some Zk)
 f165:=Tryz.func259.trans (aN some Zk)
 f166:=Tryz.func261.trans (aN some Zk)
 f169:=Tryz.func263.trans (aN some Zk)
 f195:=Tryz.func267.trans (aN some Zk)
 f197:=Tryz.func262.trans (aN some Zk)
 f217:=Tryz.func277.trans (aN some Zk)
 f218:=Tryz.func268.trans (aN some Zk)
 f219:=Tryz.func271.trans (aN some Zk)
 f224:=Tryz.func279.trans (aN some Zk)
 f225:=Tryz.func278.trans (aN some Zk)
 f240:=Tryz.func269.trans (aN some Zk)
 f241:=Tryz.func270.trans (aN some Zk)
 f260:=Tryz.func272.trans (aN some Zk)
 f266:=Tryz.func283.trans (aN some Zk)
 f267:=Tryz.func280.trans (aN some Zk)
 f276:=Tryz.func275.trans (aN some Zk)
 f277:=Tryz.func276.trans (aN some Zk)
 f314:=Tryz.func284.trans (aN some Zk)
 t0:=Tryz.underlying0
 a0:=Tryz.isAgg0
 z0:=Tryz.sizeOf0
 v0:=Tryz.zeroValue0
 t3:=Tryz.underlying3
 a3:=Tryz.isAgg3
 z3:=Tryz.sizeOf3
 v3:=Tryz.zeroValue3
 t4:=Tryz.underlying4
 a4:=Tryz.isAgg4
 z4:=Tryz.sizeOf4
 v4:=Tryz.zeroValue4
 t5:=Tryz.underlying5
 a5:=Tryz.isAgg5
 z5:=Tryz.sizeOf5
 v5:=Tryz.zeroValue5
 t9:=Tryz.underlying9
 a9:=Tryz.isAgg9
 z9:=Tryz.sizeOf9
 v9:=Tryz.zeroValue9
 t20:=Tryz.underlying20
 a20:=Tryz.isAgg20
 z20:=Tryz.sizeOf20
 v20:=Tryz.zeroValue20
 t21:=Tryz.underlying21
 a21:=Tryz.isAgg21
 z21:=Tryz.sizeOf21
 v21:=Tryz.zeroValue21
 t37:=Tryz.underlying149
 a37:=Tryz.isAgg149
 z37:=Tryz.sizeOf149
 v37:=Tryz.zeroValue149
 t46:=Tryz.underlying318
 a46:=Tryz.isAgg318
 z46:=Tryz.sizeOf318
 v46:=Tryz.zeroValue318
 t51:=Tryz.underlying380
 a51:=Tryz.isAgg380
 z51:=Tryz.sizeOf380
 v51:=Tryz.zeroValue380
 t70:=Tryz.underlying360
 a70:=Tryz.isAgg360
 z70:=Tryz.sizeOf360
 v70:=Tryz.zeroValue360
 t72:=Tryz.underlying362
 a72:=Tryz.isAgg362
 z72:=Tryz.sizeOf362
 v72:=Tryz.zeroValue362
 t75:=Tryz.underlying364
 a75:=Tryz.isAgg364
 z75:=Tryz.sizeOf364
 v75:=Tryz.zeroValue364
 t76:=Tryz.underlying365
 a76:=Tryz.isAgg365
 z76:=Tryz.sizeOf365
 v76:=Tryz.zeroValue365
 t105:=Tryz.underlying249
 a105:=Tryz.isAgg249
 z105:=Tryz.sizeOf249
 v105:=Tryz.zeroValue249
 t119:=Tryz.underlying376
 a119:=Tryz.isAgg376
 z119:=Tryz.sizeOf376
 t127:=Tryz.underlying372
 a127:=Tryz.isAgg372
 z127:=Tryz.sizeOf372
 v127:=Tryz.zeroValue372
 t138:=Tryz.underlying378
 a138:=Tryz.isAgg378
 z138:=Tryz.sizeOf378
 v138:=Tryz.zeroValue378
 t139:=Tryz.underlying379
 a139:=Tryz.isAgg379
 z139:=Tryz.sizeOf379
 v139:=Tryz.zeroValue379
 t146:=Tryz.underlying381
 a146:=Tryz.isAgg381
 z146:=Tryz.sizeOf381
 v146:=Tryz.zeroValue381
 t164:=Tryz.underlying374
 a164:=Tryz.isAgg374
 z164:=Tryz.sizeOf374
 v164:=Tryz.zeroValue374
 g1:=by kernel_rfl
 g3:=by kernel_rfl
 g4:=by kernel_rfl }
theorem Tryz.yq: Builder.Extra Tryz.prog Tryz.Ai:={
 sizeBuilder:=by kernel_rfl
 liesBuilder:=by kernel_rfl
 t5:=Tryz.underlying5
 a5:=Tryz.isAgg5
 z5:=Tryz.sizeOf5
 v5:=Tryz.zeroValue5
 infoByte:=by kernel_rfl
 cellsByte:=by kernel_rfl
 sizeByte:=by kernel_rfl
 neB5:=by decide }
open Go.RowKit Go.Lib in
theorem Tryz.strings_ReplaceAll(s old new:ByteArray)(m:Int)(w:World)(hs:s.size<4294967281)(hm:w.cell? ⟨0,0,none⟩=some (.int .i64 m))(h1:1<=old.size)(hlen:s.size+Lib.countB s old*new.size<=140737488355328):
  Calls Tryz.prog 239 #[.string s,.string old,.string new] w fun e w' =>
   e=.returned (.string ⟨(Lib.replaceAll s.data.toList old.data.toList new.data.toList).toArray⟩)/\Below w.heap.size w w':=Any.strings_ReplaceAll Tryz.Vj Tryz.yq s old new m w hs hm h1 hlen
end Go.Proofs
namespace Go.Sy
open Go.Proofs
theorem J2: ∀ {s:List UInt8},(∀ c∈s,c≠0)->mL s=s
 | [],_=>rfl
 | c::s,h=>by
  rw[mL,ai (h c a8),J2 fun x hx=>h x (ba c hx)]
theorem NK: ∀(a r:List UInt8),(∀ c∈a,c≠0)->mL (a++0::r)=a++[0,255]++mL r
 | [],r,_=>by rw[cF,mL,au rfl];rfl
 | c::a,r,h=>by
  rw[aZ,mL,ai (h c a8),NK a r fun x hx=>h x (ba c hx)]
  rfl
theorem O2(s:List UInt8): (Lib.index s [0] = -1/\∀ c∈s,c≠0)\/∃ a r,s=a++0::r/\(∀ c∈a,c≠0)/\Lib.index s [0]=(a.length:Nat):=by
 rw[Lib.index_one]
 have Pc:=Lib.indexByte_ge s 0
 by_cases h:Lib.indexByte s 0 = -1
 ·refine .inl ⟨h,fun c hc h0=>?_⟩
  obtain⟨k,hk,rfl⟩:=gg.1 hc
  exact Lib.indexByte_none h k (by rw[aa hk,h0])
 ·obtain⟨o,ho⟩:∃ o:Nat,Lib.indexByte s 0=o:=⟨(Lib.indexByte s 0).toNat,by omega⟩
  obtain⟨h1,h2⟩:=Lib.indexByte_some ho
  obtain⟨hl,he⟩:=ah.1 h1
  refine .inr ⟨s.take o,s.drop (o+1),?_,fun c hc h0=>?_,by rw[ho,aE,gA Zo]⟩
  ·rw[<-he,<-aB hl,cK]
  ·obtain⟨k,hk,hk3⟩:=gg.1 hc
   have yx:=aa hk
   rw[hk3] at yx
   rw[aE] at hk
   rw[fE,au Zo,h0] at yx
   exact h2 k Zo yx
theorem xD: ∀(fuel:Nat) (s:List UInt8),s.length<fuel->Lib.replaceK [0] [0,255] (Lib.countFrom [0] fuel s) s=mL s
 | 0,s,h=>by omega
 | fuel+1,s,h=>by
  rcases O2 s with⟨h1,h2⟩ | ⟨a,r,rfl,h2,h3⟩
  ·rw[Lib.countFrom,h1]
   exact(J2 h2).symm
  ·have jv:¬ (Lib.index (a++0::r) [0] == -1)=true:=by rw[h3];intro e;have:=beq_iff_eq.1 e;omega
   have hd:(a++0::r).drop (a.length+1)=r:=by
    rw[List.drop_append,dO Zo]
    simp
   have ih:=xD fuel r (by simp at h;omega)
   rw[Lib.countFrom,ai jv,Nat.add_comm,Lib.replaceK_hit _ _ _ _ _ h3,h3]
   show(a++0::r).take a.length++[0,255]++Lib.replaceK [0] [0,255] (Lib.countFrom [0] fuel ((a++0::r).drop (a.length+1))) ((a++0::r).drop (a.length+1))=_
   rw[hd,ih,NK a r h2,ke]
theorem Ci(s:List UInt8): Lib.replaceAll s [0] [0,255]=mL s:=xD (s.length+1) s (db _)
theorem Cs{P:Program}{f:FuncId}{lM:List SV}{σ:al}{Φ:Value->Prop}(h:∀ w,tU σ w->Calls P f (lM.map (SV.den fy)).toArray w fun e w'=>∃ v,e=.returned v/\Φ v/\Go.RowKit.Below w.heap.size w w'): bZ P f lM σ Φ:=by
 intro w hw
 refine Calls.mono (h w hw) fun e w' ⟨v,he,hv,hb⟩=>⟨v,σ,he,⟨hb.os,hb.tape,hb.output,hb.size,fun b uR _=>hb.block b uR⟩,⟨al.le_refl _,fun b uR=>.inl uR⟩,fun b o ho=>?_,hv⟩
 have h1:=hw b o ho
 rw[hb.block b (bH.1 h1).1]
 exact h1
theorem Hf(σ:al)(m:Int)(hm:σ.cell ⟨0,0,none⟩=some (.int .i64 m))(s:ByteArray)(hs:s.size<=1000000):
  bZ Tryz.prog 239 [.a (.v (.string s)),.a (.v (.string ⟨#[0]⟩)),.a (.v (.string ⟨#[0,255]⟩))] σ (fun v=>v=.string (ju (mL s.data.toList))):=by
 refine Cs fun w hw=>?_
 have hc:=Lib.countB_mul_le ⟨#[0]⟩ (by decide) s.size s (aq _)
 have hz:(⟨#[0]⟩:ByteArray).size=1:=rfl
 have hz2:(⟨#[0,255]⟩:ByteArray).size=2:=rfl
 rw[hz,kS] at hc
 refine Calls.mono (Tryz.strings_ReplaceAll s ⟨#[0]⟩ ⟨#[0,255]⟩ m w Zo (Is hw hm) (by decide) (by rw[hz2];omega)) fun e w' ⟨he,hb⟩=>⟨_,he,?_,hb⟩
 show Value.string ⟨(Lib.replaceAll s.data.toList [0] [0,255]).toArray⟩=_
 rw[Ci]
 rfl
end Go.Sy
