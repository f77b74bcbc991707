/- Parts of the proof of CStreamsPlay: F71, F72, F74, F75, F76, Ls, Lt, F77, F78, F79, F80. No conditions. -/
import Derived.Test.YtlonlnagmfdlbaaGreatDoorM11
set_option maxRecDepth 100000
set_option maxHeartbeats 16000000
namespace Go.Sy
open Go.Proofs
theorem x3{l:List ByteArray}{j:Nat}{x:ByteArray}(hj:j<l.length)(h:jT (l.take j) x=false)(hx:l[j]≠x): jT (l.take (j+1)) x=false:=by
 rw[ak hj,wm,h,Bool.false_or]
 simp[jT,hx]
theorem zq{l:List ByteArray}{j k:Nat}{x:ByteArray}(hj:j<l.length)(zn:j<k)(hx:l[j]=x): jT (l.take k) x=true:=by
 rw[tF,<-hx]
 exact List.mem_take_iff_getElem.2 ⟨j,by omega,rfl⟩
theorem QS(σ:al)(g:aJ)(r:List AT)(hr:eQ σ g r): bZ Tryz.prog 205 [.agg r] σ (fun v=>v=.bool (pG g.ks)):=by
 obtain⟨la,lc,fG,ma,mc,ft,rfl,V⟩:=hr.open
 have cz:=V.kl
 simp only[bJ] at cz
 have yw:=V.kv
 refine bW Tryz.func205 Z Z Zl fun w=>?_
 refine Zd ?_
 refine bX (fun(_:Nat)=>σ) (fun k=>[(1,.a (.p 0 0)),(3,.a (.v (.int .i64 k)))]) (fun _=>[(0,.loc 28,dN g la lc ma mc)]) (fun _=>[]) 1
  (fun k=>k<=g.ks.length/\mv (g.ks.take k) (g.ks.drop k)=pG g.ks) (fun k=>g.ks.length - k) 0 ⟨ay _,rfl⟩ rfl Zs Zs rfl Zl Zl fun k ⟨hk,hp⟩=>?_
 refine Za ?_
 refine aG rfl (fun h=>?_) (fun h=>?_)
 rotate_left
 ·have fQ:k=g.ks.length:=by have:=ab h;omega
  subst fQ
  rw[bC,mv] at hp
  refine Ze ?_
  refine aw TT rfl fun β w' _ _=>?_
  rw[<-hp]
  rfl
 have kW:k<g.ks.length:=by have:=ae h;omega
 rw[aB kW,mv] at hp
 obtain⟨rk,ak7,ak6⟩:=V.v.get (aa (l:=g.vs) (i:=k) Zo)
 have ad1:=ia (aa kW) ak7
 obtain⟨Lx,Lw,pI,Ls,Lp,pE,rfl,V'⟩:=ak6.open
 refine Zd ?_
 refine bX (fun(_:Nat)=>σ) (fun j=>[(1,.a (.p 0 0)),(3,.a (.v (.int .i64 k))),(4,.a (.v (.int .i64 j)))]) (fun _=>[(0,.loc 28,dN g la lc ma mc)]) (fun _=>[]) 1
  (fun j=>j<=k/\jT (g.ks.take j) g.ks[k]=false) (fun j=>k - j) 0 ⟨ay _,rfl⟩ rfl Zs Zs rfl Zl Zl fun j ⟨hj,hq⟩=>?_
 refine Za ?_
 refine aG rfl (fun h=>?_) (fun h=>?_)
 rotate_left
 ·have LZ:j=k:=by have:=ab h;omega
  subst LZ
  rw[ai (by simp[hq])] at hp
  refine Zg ?_
  refine an (j+1) ⟨kW,by rw[ak kW];exact hp⟩ Zo rfl Zs Zs rfl Zl Zl
 have zn:j<k:=by have:=ae h;omega
 have m2:j<g.ks.length:=by omega
 obtain⟨rj,ak9,ak8⟩:=V.v.get (aa (l:=g.vs) (i:=j) Zo)
 have ad2:=ia (aa m2) ak9
 obtain⟨la2,lc2,ai5,ma2,mc2,ah7,rfl,V2⟩:=ak8.open
 refine Zd ?_
 refine ck [(0,.pure),(1,.quiet),(2,.pure),(3,.pure),(4,.pure),(5,.quiet),(6,.pure),(7,.quiet),(8,.pure),(9,.pure),(10,.pure),(11,.quiet),(12,.pure)] mixed Zk (aM TT rfl ?_)
 refine bk TT Z Z Z Z Z Z Z Z Z V.M Zo ad1 (Zr ?_)
 refine bk TT Z Z Z Z Z Z Z Z Z V.M Zo ad2 (Zr ?_)
 refine Za ?_
 refine aG rfl (fun h=>?_) (fun h=>?_)
 ·have h:g.ks[k]=g.ks[j]:=ae h
  rw[au (zq m2 zn h.symm)] at hp
  refine Zb ?_
  refine aw TT rfl fun β w' _ _=>?_
  rw[<-hp]
  rfl
 ·have h:¬ g.ks[k]=g.ks[j]:=ab h
  refine Zc ?_
  refine an (j+1) ⟨zn,x3 m2 hq (fun e=>h e.symm)⟩ Zo rfl Zs Zs rfl Zl Zl
def yK (p:Int×Int):Int:=if p.1≠0 then 0 else p.2
theorem UQ(g:aJ): ∀(σ:al) (r:List AT) (deep c:Int),eQ σ g r->0<=deep->deep+g.weight<=1099511627776->g.weight<=1000000->0<=c->c<=4096 ->
  bZ Tryz.prog 144 [.agg r,.a (.v (.int .i64 deep)),.a (.v (.int .i64 (c+1)))] σ (fun v=>v=.tuple #[.int .i64 (yK (fW g deep c)),.int .i64 (fW g deep c).1]):=by
 induction g using aJ.sL with | _ g ih=>?_
 intro σ r deep c hr Ev VJ hw vV Bq
 have oV:=hr
 obtain⟨la,lc,fG,ma,mc,ft,rfl,V⟩:=hr.open
 have Eu:=R6 g
 have yw:=V.kv
 have qu:=Iv g deep c
 refine bW Tryz.func144 Z Z Zl fun w=>?_
 refine Zd ?_
 refine aT Z Z Z Z Z Tryz.call204 Zl (ab2 σ g _ oV) fun v hv=>⟨.a (.b (fU g)),trivial,(by rw[hv,XJ];rfl),?_⟩
 refine gX ?_
 refine aG rfl (fun h=>?_) (fun h=>?_)
 ·have h:fU g=false:=by simpa using h
  rw[au h] at qu
  refine Zb ?_
  refine aw TT rfl fun β w' _ _=>?_
  rw[qu]
  rfl
 have h:fU g=true:=by simpa using h
 rw[ai (by simp[h])] at qu
 refine Za ?_
 refine aT Z Z Z Z Z Tryz.call205 Zl (QS σ g _ oV) fun v hv=>⟨.a (.b (pG g.ks)),trivial,hv.symm,?_⟩
 refine gX ?_
 refine aG rfl (fun h=>?_) (fun h=>?_)
 ·rw[au h] at qu
  refine Zb ?_
  refine aw TT rfl fun β w' _ _=>?_
  rw[qu]
  rfl
 rw[ai (by simp[h])] at qu
 refine fm (α:=Unit) (fun _=>σ) (fun _=>[(1,.a (.v (.int .i64 deep))),(2,.a (.v (.int .i64 (c+1)))),(3,.a (.p 0 0))]) (fun _=>[(0,.loc 28,dN g la lc ma mc)]) (fun _=>[]) 1
  (fun _=>¬ (4<=g.kind/\64<=deep)/\¬ 4096<c+1) ?_ (fun _ ⟨Jy,LL⟩=>?_)
 ·refine Za ?_
  refine ax 23 rfl (fun h=>?_) (fun h=>?_)
  ·have h4:4<=g.kind:=ae h
   refine gX ?_
   refine aG rfl (fun h=>?_) (fun h=>?_)
   ·have YV:64<=deep:=ae h
    rw[au ⟨h4,YV⟩] at qu
    refine Zb ?_
    refine aw TT rfl fun β w' _ _=>?_
    rw[qu]
    rfl
   have YV:¬ 64<=deep:=ab h
   have hn:¬ (4<=g.kind/\64<=deep):=fun h=>YV h.2
   rw[ai hn] at qu
   refine Za ?_
   refine aG rfl (fun h=>?_) (fun h=>?_)
   ·have h:4096<c+1:=ae h
    rw[au h] at qu
    refine Zb ?_
    refine aw TT rfl fun β w' _ _=>?_
    rw[qu]
    rfl
   have h:¬ 4096<c+1:=ab h
   refine Zc ?_
   refine an () ⟨hn,h⟩ aj rfl Zs Zs rfl Zl Zl
  ·have h4:¬ 4<=g.kind:=ab h
   have hn:¬ (4<=g.kind/\64<=deep):=fun h=>h4 h.1
   rw[ai hn] at qu
   refine D2 ?_
   refine aG rfl (fun h=>?_) (fun h=>?_)
   ·have h:4096<c+1:=ae h
    rw[au h] at qu
    refine Zb ?_
    refine aw TT rfl fun β w' _ _=>?_
    rw[qu]
    rfl
   have h:¬ 4096<c+1:=ab h
   refine Zc ?_
   refine an () ⟨hn,h⟩ aj rfl Zs Zs rfl Zl Zl
 rw[ai Jy,ai LL] at qu
 have hlen:(g.l++g.vs).length=g.l.length+g.ks.length:=by rw[af,yw]
 refine Zd ?_
 refine gC (fun _ _=>σ) (fun(k:Nat) (c':Int)=>[(1,.a (.v (.int .i64 deep))),(2,.a (.v (.int .i64 c'))),(3,.a (.p 0 0)),(8,.a (.v (.int .i64 k)))]) (fun _ _=>[(0,.loc 28,dN g la lc ma mc)]) (fun _ _=>[]) 1
  (fun k c'=>k<=(g.l++g.vs).length/\0<=c'/\c'<=4096/\gI ((g.l++g.vs).drop k) deep c'=fW g deep c) (fun k _=>(g.l++g.vs).length - k) 0 (c+1)
  ⟨ay _,by omega,by omega,qu.symm⟩ rfl Zs Zs rfl Zl Zl fun k c' ⟨hk,VO,Ph,vW⟩=>?_
 refine Zg ?_
 refine aG rfl (fun h=>?_) (fun h=>?_)
 rotate_left
 ·have fQ:k=(g.l++g.vs).length:=by have:=ab h;omega
  subst fQ
  rw[bC,gI] at vW
  refine Ze ?_
  refine aw TT rfl fun β w' _ _=>?_
  rw[<-vW]
  rfl
 have kW:k<(g.l++g.vs).length:=by have:=ae h;omega
 have LM:=vD (aP kW)
 have hb:=B8 (g.l++g.vs)[k] (deep+1) c' Ph
 rw[aB kW,gI] at vW
 have pa:∀ h:k<g.l.length,(g.l++g.vs)[k]=g.l[k]:=fun h=>List.getElem_append_left h
 have hxr:∀ h:¬ k<g.l.length,(g.l++g.vs)[k]=g.vs[k - g.l.length]'Zo:=fun h=>List.getElem_append_right Zo
 generalize (g.l++g.vs)[k]=x at *
 refine Zd ?_
 refine ji (fun(_:Option Addr×Nat×Option Addr×Nat)=>σ) (fun _=>[(1,.a (.v (.int .i64 deep))),(2,.a (.v (.int .i64 c'))),(3,.a (.p 0 0)),(8,.a (.v (.int .i64 k))),(9,.a (.p 1 0))])
  (fun a=>[(0,.loc 28,dN g la lc ma mc),(1,.loc 28,dN x a.1 a.2.1 a.2.2.1 a.2.2.2)]) (fun _=>[]) 2 (fun a=>∃ lr vr,PQ σ x a.1 a.2.1 lr a.2.2.1 a.2.2.2 vr) ?_ (fun⟨a1,a2,a3,a4⟩ ⟨lr,vr,VX⟩=>?_)
 ·refine aG rfl (fun h=>?_) (fun h=>?_)
  ·have cz:k<g.l.length:=by have:=ae h;omega
   have hx:=pa cz
   obtain⟨rr,um,xh⟩:=V.l.get (aa cz)
   rw[<-hx] at xh
   obtain⟨Lx,Lw,pI,Ls,Lp,pE,rfl,V'⟩:=xh.open
   refine Za ?_
   refine bk TT Z Z Z Z Z Z Z Z Z V.L Zo um (Zr ?_)
   refine Zc ?_
   refine an (Lx,Lw,Ls,Lp) ⟨_,_,V'⟩ aj rfl Zs Zs rfl Zl Zl
  ·have cz:¬ k<g.l.length:=by have:=ab h;omega
   have hx:=hxr cz
   have Yv:k - g.l.length<g.ks.length:=by omega
   obtain⟨rr,um,xh⟩:=V.v.get (aa (l:=g.vs) (i:=k - g.l.length) Zo)
   have bU:=ia (aa Yv) um
   rw[<-hx] at xh
   obtain⟨Lx,Lw,pI,Ls,Lp,pE,rfl,V'⟩:=xh.open
   have he:(k:Int) - (g.l.length:Int)=((k - g.l.length:Nat):Int):=by omega
   refine Zg ?_
   rw[he]
   refine bk TT Z Z Z Z Z Z Z Z Z V.M Zo bU (Zr ?_)
   refine Zc ?_
   refine an (Lx,Lw,Ls,Lp) ⟨_,_,V'⟩ aj rfl Zs Zs rfl Zl Zl
 dsimp only at VX ⊢
 have ih1:=ih x LM σ _ (deep+1) c' VX.rep Zo Zo Zo VO Ph
 refine Zc ?_
 refine aT Z Z Z Z Z Tryz.call144 Zl ih1 fun v hv=>⟨.ik [.a (.v (.int .i64 (yK (fW x (deep+1) c')))),.a (.v (.int .i64 (fW x (deep+1) c').1))],by (repeat' (first | exact trivial | exact bh rfl | exact dF _ _ _ _ _ _ | exact dw _ _ | refine kz.of ?_ | refine SV.iv ?_ | exact SV.ez | exact AT.ez | exact eQ.qv (by assumption) | constructor)),hv.symm,?_⟩
 refine gX ?_
 refine aG rfl (fun h=>?_) (fun h=>?_)
 ·have h:(fW x (deep+1) c').1≠0:=by simpa using h
  rw[au h] at vW
  refine Zb ?_
  refine aw TT rfl fun β w' _ _=>?_
  rw[<-vW]
  unfold yK
  rw[au h]
  rfl
 ·have h:(fW x (deep+1) c').1=0:=by simpa using h
  rw[ai (by simp[h])] at vW
  have er:yK (fW x (deep+1) c')=(fW x (deep+1) c').2:=by unfold yK;rw[ai (by simp[h])]
  rw[er]
  refine Zc ?_
  refine an (k+1,(fW x (deep+1) c').2) ⟨kW,by dsimp only;omega,hb.2.2 h,vW⟩ (by dsimp only;omega) rfl Zs Zs rfl Zl Zl
theorem NZ(σ:al)(g:aJ)(r:List AT)(hr:eQ σ g r)(hw:g.weight<=1000000): bZ Tryz.prog 66 [.agg r] σ (fun v=>v=.int .i64 (kU g)):=by
 obtain⟨la,lc,fG,ma,mc,ft,rfl,V⟩:=hr.open
 have h1:=UQ g σ _ 0 0 V.rep Zo Zo hw Zo Zo
 refine bW Tryz.func66 Z Z Zl fun w=>?_
 refine Za ?_
 refine aT Z Z Z Z Z Tryz.call144 Zl h1 fun v hv=>⟨.ik [.a (.v (.int .i64 (yK (fW g 0 0)))),.a (.v (.int .i64 (fW g 0 0).1))],by (repeat' (first | exact trivial | exact bh rfl | exact dF _ _ _ _ _ _ | exact dw _ _ | refine kz.of ?_ | refine SV.iv ?_ | exact SV.ez | exact AT.ez | exact eQ.qv (by assumption) | constructor)),hv.symm,?_⟩
 refine gn ?_
 refine aw TT rfl fun β w' _ _=>?_
 rfl
end Go.Sy
namespace Go.Sy
open Go.Proofs
theorem Cp{σ:al}{ao:Option Addr}{cap:Nat}{l:List aH}(h:b9 σ (Ra ao l.length cap l))(hc:l.length<=cap): bu σ ao l.length cap 11 (cv l) :=
 h.sl (E:=Ra ao l.length cap l) rfl (fun r hr=>⟨(kn l r hr).1,(kn l r hr).2.1⟩) (rb l) rfl hc
theorem TR(σ:al)(g:aJ)(r:List AT)(aK:Int)(hr:eQ σ g r)(hw:g.weight<=100000):
  pV Tryz.prog 81 [.agg r,.a (.v (.int .i64 aK))] σ [] (fun v _ A'=>∃ E,A'=[E]/\∃ ao cap,(gN g aK).1.length<=cap/\E=Ra ao (gN g aK).1.length cap (gN g aK).1/\v=.tuple #[.slice ao (gN g aK).1.length cap,.int .i64 (gN g aK).2]):=by
 obtain⟨la,lc,fG,ma,mc,ft,rfl,V⟩:=hr.open
 refine fk Tryz.func81 Z Z Zl fun w=>?_
 have bad:(aK<1\/1000<aK)->gN g aK=([],1):=fun h=>by unfold gN;rw[au h]
 refine Za ?_
 refine ax 10 rfl (fun h=>?_) (fun h=>?_)
 ·have h1:aK<1:=ae h
  rw[bad (.inl h1)]
  refine gn ?_
  refine kg 131 11 ?_
  refine dq TT rfl fun β w' _ _=>?_
  exact⟨_,rfl,none,0,aq _,rfl,rfl⟩
 have h1:¬ aK<1:=ab h
 refine gX ?_
 refine aG rfl (fun h=>?_) (fun h=>?_)
 ·have h2:1000<aK:=ae h
  rw[bad (.inr h2)]
  refine Zb ?_
  refine kg 131 11 ?_
  refine dq TT rfl fun β w' _ _=>?_
  exact⟨_,rfl,none,0,aq _,rfl,rfl⟩
 have h2:¬ 1000<aK:=ab h
 have e1:gN g aK=if kU g≠0 then ([],kU g) else ((bG aK g 0 false bF 0).1,0):=by unfold gN;rw[ai Zo]
 rw[e1]
 refine Zc ?_
 refine aT Z Z Z Z Z Tryz.call66 Zl (NZ σ g _ hr Zo) fun v hv=>⟨.a (.v (.int .i64 (kU g))),trivial,hv.symm,?_⟩
 refine gX ?_
 refine aG rfl (fun h=>?_) (fun h=>?_)
 ·have h3:kU g≠0:=by simpa using h
  rw[au h3]
  refine Zb ?_
  refine kg 131 11 ?_
  refine dq TT rfl fun β w' _ _=>?_
  exact⟨_,rfl,none,0,aq _,rfl,rfl⟩
 have h3:kU g=0:=by simpa using h
 rw[ai (by simp[h3])]
 refine Zd ?_
 refine gP 1 1 3 rfl Zl rfl (by decide) fun gs=>?_
 refine qp 131 11 ?_
 refine dT [0,1] (A0:=yH gs none 0 0 aK []) (Ar:=[]) Z Z Z Z Z Z Z Tryz.call155 (by (repeat' (first | exact trivial | exact bh rfl | exact dF _ _ _ _ _ _ | exact dw _ _ | refine kz.of ?_ | refine SV.iv ?_ | exact SV.ez | exact AT.ez | exact eQ.qv (by assumption) | constructor))) (pV.b rfl (HR g σ _ false bF 0 gs none 0 0 aK [] V.rep Zo Zo Zo Zo (by simp;omega) (dB _) Zo (aq _))) fun v nC A2 cw ⟨hv,iB,dk,zp,hA⟩=>⟨.ik [],Zl,hv.symm,?_⟩
 subst hA
 rw[cF] at zp ⊢
 refine gX ?_
 refine eH 0 (c:=.v (.slice iB (bG aK g 0 false bF 0).1.length dk)) TT Z Z Z Z Z Z Z Z Z Z Z trivial (Zr ?_)
 refine Zb ?_
 refine WG [1] Z Z ?_
 refine dq TT rfl fun β w' _ _=>?_
 exact⟨_,rfl,iB,dk,zp,rfl,rfl⟩
theorem TQ(σ:al)(g:aJ)(r:List AT)(aK:Int)(hr:eQ σ g r)(hw:g.weight<=100000):
  fa Tryz.prog 81 [.agg r,.a (.v (.int .i64 aK))] σ (fun v bD=>∃ ao cap,v=.tuple #[.slice ao (gN g aK).1.length cap,.int .i64 (gN g aK).2]/\bu bD ao (gN g aK).1.length cap 11 (cv (gN g aK).1)) :=
 (TR σ g r aK hr hw).MJ fun v _ _ E ⟨ao,cap,hc,hE,hv⟩ _ hS=>⟨ao,cap,hv,Cp (by rw[<-hE];exact hS) hc⟩
end Go.Sy
namespace Go.Sy
open Go.Proofs
theorem Xw: Tryz.prog.underlying 131=some (.struct (Tryz.prog.fieldsOf 131)):=by kernel_rfl
theorem Py(m:Nat)(a b:aH)(w:World): (Op.equalIn (m+1+1+1) 131 (.agg (km a)) (.agg (km b))).run Tryz.prog w=.ok (decide (a=b)) w:=by
 rw[run_equalIn_agg w (m+1+1) 131 _ _ Xw Zk]
 have h:mF (Tryz.prog.fieldsOf 131).toList [(3,0),(3,1),(3,2),(3,3),(4,4),(9,5),(4,6),(24,7),(9,10)]=true:=by kernel_rfl
 generalize (Tryz.prog.fieldsOf 131).toList=fl at h
 obtain⟨f0,fl,rfl,n0,t0,o0,h⟩:=cA h
 obtain⟨f1,fl,rfl,n1,t1,o1,h⟩:=cA h
 obtain⟨f2,fl,rfl,n2,t2,o2,h⟩:=cA h
 obtain⟨f3,fl,rfl,n3,t3,o3,h⟩:=cA h
 obtain⟨f4,fl,rfl,n4,t4,o4,h⟩:=cA h
 obtain⟨f5,fl,rfl,n5,t5,o5,h⟩:=cA h
 obtain⟨f6,fl,rfl,n6,t6,o6,h⟩:=cA h
 obtain⟨f7,fl,rfl,n7,t7,o7,h⟩:=cA h
 obtain⟨f8,fl,rfl,n8,t8,o8,h⟩:=cA h
 cases fl with
 | cons _ _=>cases h
 | nil =>
  have ii:∀(f:Field) (o:Nat) (r:aH) (x:Int),f.type=3->f.offset=o->(km r)[o]?=some (.int .i64 x)->(part f.type (km r) f.offset).run Tryz.prog w=.ok (.int .i64 x) w:=fun f o r x ht ho hx=>jg (by rw[ht];exact pF) rfl (by rw[ho];exact hx)
  have bb:∀(f:Field) (o:Nat) (r:aH) (x:Bool),f.type=4->f.offset=o->(km r)[o]?=some (.bool x)->(part f.type (km r) f.offset).run Tryz.prog w=.ok (.bool x) w:=fun f o r x ht ho hx=>jg (by rw[ht];exact D6) rfl (by rw[ho];exact hx)
  have ss:∀(f:Field) (o:Nat) (r:aH) (x:ByteArray),f.type=9->f.offset=o->(km r)[o]?=some (.string x)->(part f.type (km r) f.offset).run Tryz.prog w=.ok (.string x) w:=fun f o r x ht ho hx=>jg (by rw[ht];exact D5) rfl (by rw[ho];exact hx)
  have dd:∀(r:aH),(part f7.type (km r) f7.offset).run Tryz.prog w=.ok (.agg #[.bool r.n.neg,.string r.n.dg,.int .i64 r.n.ex]) w:=fun r=>by
   rw[Ou (n:=3) (by rw[t7];exact Qs) rfl (by rw[t7];kernel_rfl),o7]
   rfl
  rw[cW (r:=a.st == b.st) n0 (ii f0 0 a _ t0 o0 rfl) (ii f0 0 b _ t0 o0 rfl) (run_equalIn_int w (m+1) f0.type .i64 .i64 a.st b.st (by rw[t0];exact pF))]
  rw[cW (r:=a.en == b.en) n1 (ii f1 1 a _ t1 o1 rfl) (ii f1 1 b _ t1 o1 rfl) (run_equalIn_int w (m+1) f1.type .i64 .i64 a.en b.en (by rw[t1];exact pF))]
  rw[cW (r:=a.lv == b.lv) n2 (ii f2 2 a _ t2 o2 rfl) (ii f2 2 b _ t2 o2 rfl) (run_equalIn_int w (m+1) f2.type .i64 .i64 a.lv b.lv (by rw[t2];exact pF))]
  rw[cW (r:=a.kd == b.kd) n3 (ii f3 3 a _ t3 o3 rfl) (ii f3 3 b _ t3 o3 rfl) (run_equalIn_int w (m+1) f3.type .i64 .i64 a.kd b.kd (by rw[t3];exact pF))]
  rw[cW (r:=a.nm == b.nm) n4 (bb f4 4 a _ t4 o4 rfl) (bb f4 4 b _ t4 o4 rfl) (run_equalIn_bool' w (m+1) f4.type a.nm b.nm (by rw[t4];exact D6))]
  rw[cW (r:=decide (a.name=b.name)) n5 (ss f5 5 a _ t5 o5 rfl) (ss f5 5 b _ t5 o5 rfl) (vj (m+1) f5.type a.name b.name (by rw[t5];exact D5))]
  rw[cW (r:=a.b == b.b) n6 (bb f6 6 a _ t6 o6 rfl) (bb f6 6 b _ t6 o6 rfl) (run_equalIn_bool' w (m+1) f6.type a.b b.b (by rw[t6];exact D6))]
  rw[cW (r:=decide (a.n=b.n)) n7 (dd a) (dd b) (by rw[t7];exact x9 m a.n b.n w)]
  rw[cW (r:=decide (a.s=b.s)) n8 (ss f8 10 a _ t8 o8 rfl) (ss f8 10 b _ t8 o8 rfl) (vj (m+1) f8.type a.s b.s (by rw[t8];exact D5))]
  simp only[Op.eqFields,Sem.run_pure]
  have:(decide (a=b))=(a.st == b.st&&(a.en == b.en&&(a.lv == b.lv&&(a.kd == b.kd&&(a.nm == b.nm&&(decide (a.name=b.name)&&(a.b == b.b&&(decide (a.n=b.n)&&decide (a.s=b.s))))))))):=by
   rw[cg]
   cases a;cases b
   simp
  rw[this]
  cases (a.st == b.st)<;>cases (a.en == b.en)<;>cases (a.lv == b.lv)<;>cases (a.kd == b.kd)<;>cases (a.nm == b.nm)<;>cases decide (a.name=b.name)<;>cases (a.b == b.b)<;>cases decide (a.n=b.n)<;>cases decide (a.s=b.s)<;>rfl
section
variable {cf:Cf} {Q:Exit->Act->World->Prop} {σ:al} {env:Env} {hp:HP} {A:List AE} {nh:Nat} {it:Item} {rest:List Item}
theorem OK{d:Nat}{x y:Operand}{yt:TypeId}(a b:aH)(hP:cf.P=Tryz.prog)(fL:it.o.op=.binOp .neq 131 x y yt)(hd:it.o.dst=some d)(hg:bt it.guard env=some true)(hN:Nat.blt d cf.N=true)(hx:bP env x=some (.agg (di a)))(hy:bP env y=some (.agg (di b)))(hk:OJ cf rest Q σ ((d,.a (.b (!decide (a=b))))::env) hp A nh): OJ cf (it::rest) Q σ env hp A nh:=by
 refine jB (.a (.b (!decide (a=b)))) hd hg hN trivial (fun _ ac β ha w=>?_) hk
 have h1:ac.eval x=.agg (km a):=aD ha hx
 have h2:ac.eval y=.agg (km b):=aD ha hy
 rw[hP]
 have hG:(eqGuard .neq 131 x y (.agg (km a)) (.agg (km b))).run Tryz.prog w=.ok () w:=run_eqGuard_agg w _ _ _ _ _ _ Zk
 have hE:(Op.equalIn 10000 131 (.agg (km a)) (.agg (km b))).run Tryz.prog w=.ok (decide (a=b)) w:=Py 9997 a b w
 have hB:(binOp .neq 131 (.agg (km a)) (.agg (km b))).run Tryz.prog w=.ok (.bool (!decide (a=b))) w:=by
  rw[run_neq_struct,hE]
  rfl
 simp only[execOp,fL,h1,h2,Sem.run_bind,hG,hB,Result.andThen_ok,Sem.run_pure]
 rfl
end
end Go.Sy
namespace Go.Sy
open Go.Proofs
theorem Zi(σ:al)(L:List aH)(hL:L.length<=140737488355328)(hf:∀ r∈L,r.name.size<=140737488355328/\r.s.size<=140737488355328)(ao:Option Addr)(cap:Nat)(H:bu σ ao L.length cap 11 (cv L))(Je:Int):
  bZ Tryz.prog 12 [.a (.v (.slice ao L.length cap)),.a (.v (.int .i64 Je))] σ (fun v=>∃ b,v=.bool b/\(b=true->(L.length:Int)<=Je/\∀ r∈L,r.name.size+r.s.size<=300/\r.n.dg.size<=200)):=by
 refine bW Tryz.func12 Z Z Zl fun w=>?_
 refine Za ?_
 refine aG rfl (fun h=>?_) (fun h=>?_)
 ·refine Zb ?_
  refine aw TT rfl fun β w' _ _=>?_
  exact⟨false,rfl,fun h=>by cases h⟩
 have hm:(L.length:Int)<=Je:=by
  have:=ab h
  omega
 refine Zd ?_
 refine bX (fun(_:Nat)=>σ) (fun k=>[(0,.a (.v (.slice ao L.length cap))),(5,.a (.v (.int .i64 k)))]) (fun _=>[]) (fun _=>[]) 0
  (fun k=>k<=L.length/\∀ r∈L.take k,r.name.size+r.s.size<=300/\r.n.dg.size<=200) (fun k=>L.length - k) 0 ⟨ay _,fun r hr=>by simp at hr⟩ rfl Zs Zs rfl Zl Zl fun k ⟨hk,mD⟩=>?_
 refine Za ?_
 refine aG rfl (fun h=>?_) (fun h=>?_)
 rotate_left
 ·refine Ze ?_
  refine aw TT rfl fun β w' _ _=>?_
  have fQ:k=L.length:=by have:=ab h;omega
  subst fQ
  rw[aI] at mD
  exact⟨true,rfl,fun _=>⟨hm,mD⟩⟩
 have cz:k<L.length:=by have:=ae h;omega
 have bU:=dn (aa cz)
 have hfx:=hf L[k] (aP cz)
 have mi:L.take (k+1)=L.take k++[L[k]]:=ak cz
 generalize L[k]=x at *
 refine Zd ?_
 refine ck [(0,.pure),(1,.pure),(2,.pure),(3,.pure),(4,.quiet),(5,.pure),(6,.pure),(7,.pure),(8,.pure),(9,.pure),(10,.quiet),(11,.pure),(12,.pure),(13,.pure),(14,.pure),(15,.pure),(16,.pure),(17,.pure),(18,.pure),(19,.pure),(20,.quiet),(21,.pure),(22,.pure),(23,.pure)] mixed Zk (aM TT rfl ?_)
 refine bk TT Z Z Z Z Z Z Z Z Z H Zo bU (Zr ?_)
 refine bk TT Z Z Z Z Z Z Z Z Z H Zo bU (Zr ?_)
 refine eO Z Z Z Z Z Z Zo (Zr ?_)
 refine ax 30 rfl (fun h=>?_) (fun h=>?_)
 ·refine gn ?_
  refine aw TT rfl fun β w' _ _=>?_
  exact⟨false,rfl,fun h=>by cases h⟩
 have m1:=ab h
 refine Zr ?_
 refine bk TT Z Z Z Z Z Z Z Z Z H Zo bU (Zr ?_)
 refine Za ?_
 refine aG rfl (fun h=>?_) (fun h=>?_)
 ·refine Zb ?_
  refine aw TT rfl fun β w' _ _=>?_
  exact⟨false,rfl,fun h=>by cases h⟩
 ·have mR:=ab h
  refine Zc ?_
  refine an (k+1) ⟨cz,fun r hr=>?_⟩ Zo rfl Zs Zs rfl Zl Zl
  rw[mi] at hr
  rcases bz.1 hr with hr | hr
  ·exact mD r hr
  ·rw[aU.1 hr]
   omega
end Go.Sy
namespace Go.Sy
open Go.Proofs
def kJ (L:List aH) (lv:Int):Nat->Int
 | 0 => -1
 | k+1=>if lv<=(L[k]?.map aH.lv).getD 0 then kJ L lv k else k
def hH (L:List aH) (i:Nat):Int:=kJ L ((L[i]?.map aH.lv).getD 0) i
theorem EV(σ:al)(L:List aH)(hL:L.length<=bJ)(ao:Option Addr)(cap:Nat)(H:bu σ ao L.length cap 11 (cv L))(i:Nat)(hi:i<L.length):
  bZ Tryz.prog 191 [.a (.v (.slice ao L.length cap)),.a (.v (.int .i64 i))] σ (fun v=>v=.int .i64 (hH L i)):=by
 simp only[bJ] at hL
 have bU:=dn (aa hi)
 have pL:(L[i]?.map aH.lv).getD 0=L[i].lv:=by rw[aa hi];rfl
 unfold hH
 rw[pL]
 generalize L[i]=x at *
 refine bW Tryz.func191 Z Z Zl fun w=>?_
 refine Zg ?_
 refine bX (fun _=>σ) (fun(k:Nat)=>[(0,.a (.v (.slice ao L.length cap))),(1,.a (.v (.int .i64 i))),(5,.a (.v (.int .i64 ((k:Int) - 1))))]) (fun _=>[]) (fun _=>[]) 0
  (fun k=>k<=i/\kJ L x.lv k=kJ L x.lv i) (fun k=>k) i ⟨aq _,rfl⟩ rfl Zs Zs rfl Zl Zl fun k ⟨hk,hp⟩=>?_
 refine Za ?_
 refine ck [(0,.pure),(1,.pure),(2,.pure),(3,.pure),(4,.pure),(5,.pure),(6,.pure),(7,.quiet),(8,.pure),(9,.pure),(10,.pure),(11,.pure),(12,.quiet),(13,.pure),(14,.pure)] mixed Zk (aM TT rfl ?_)
 refine ax 10 rfl (fun h=>?_) (fun h=>?_)
 rotate_left
 ·have fQ:k=0:=by have:=ab h;omega
  subst fQ
  refine D2 ?_
  refine aw TT rfl fun β w' _ _=>?_
  rw[<-hp]
  rfl
 obtain⟨k,rfl⟩:∃ m,k=m+1:=⟨k - 1,by have:=ae h;omega⟩
 have cz:k<L.length:=by omega
 have oC:=dn (aa cz)
 have JH:(L[k]?.map aH.lv).getD 0=L[k].lv:=by rw[aa cz];rfl
 rw[kJ,JH] at hp
 have he:((k+1:Nat):Int) - 1=k:=by omega
 rw[he]
 generalize L[k]=y at *
 refine Zr ?_
 refine bk TT Z Z Z Z Z Z Z Z Z H Zo oC (Zr ?_)
 refine bk TT Z Z Z Z Z Z Z Z Z H Zo bU (Zr ?_)
 refine Za ?_
 refine aG rfl (fun h=>?_) (fun h=>?_)
 ·rw[au (ae h)] at hp
  refine Zg ?_
  refine an k ⟨by omega,hp⟩ (db k) rfl Zs Zs rfl Zl Zl
 ·rw[ai (ab h)] at hp
  refine Ze ?_
  refine aw TT rfl fun β w' _ _=>?_
  rw[<-hp]
  rfl
end Go.Sy
namespace Go.Sy
mutual
def sd:Nat->List aH->List Int×List aH
 | 0,l=>([],l)
 | _+1,[]=>([],[])
 | n+1,r::l=>(r.st::((rL n r.lv l).1++[r.en]),(rL n r.lv l).2)
def rL:Nat->Int->List aH->List Int×List aH
 | 0,_,l=>([],l)
 | _+1,_,[]=>([],[])
 | n+1,lv,k::l =>
  if lv<k.lv then ((sd n (k::l)).1++(rL n lv (sd n (k::l)).2).1,(rL n lv (sd n (k::l)).2).2) else ([],k::l)
end
def IS (L:List aH):List Int:=(sd (jb L) L).1
def EB:Int->List Int->Bool
 | _,[]=>true
 | p,x::l=>decide (p<x)&&EB x l
def D4:Int->List Int->Int->Prop
 | lo,[],hi=>lo<=hi
 | lo,x::l,hi=>lo<x/\D4 x l hi
theorem Mp: ∀(l:List Int) (p:Int),EB p l=true↔∃ hi,D4 p l hi
 | [],p=>⟨fun _=>⟨p,dB p⟩,fun _=>rfl⟩
 | x::l,p=>by
  rw[EB,aQ,aX,Mp l x]
  constructor
  ·intro ⟨h1,hi,h2⟩;exact⟨hi,h1,h2⟩
  ·intro ⟨hi,h1,h2⟩;exact⟨h1,hi,h2⟩
theorem pe: ∀(a b:List Int) (lo hi:Int),D4 lo (a++b) hi↔∃ m,D4 lo a m/\D4 m b hi
 | [],b,lo,hi=>by
  rw[cF]
  constructor
  ·intro h;exact⟨lo,dB lo,h⟩
  ·intro ⟨m,h1,h2⟩
   cases b with
   | nil=>exact Int.le_trans h1 h2
   | cons x b=>exact⟨Int.lt_of_le_of_lt h1 h2.1,h2.2⟩
 | x::a,b,lo,hi=>by
  rw[aZ]
  simp only[D4,pe a b x hi]
  constructor
  ·intro ⟨h1,m,h2,h3⟩;exact⟨m,⟨h1,h2⟩,h3⟩
  ·intro ⟨m,⟨h1,h2⟩,h3⟩;exact⟨h1,m,h2,h3⟩
mutual
inductive Uk:aJ->Int->Bool->ByteArray->List aH->List Int->Prop
 | mk {g:aJ} {lv:Int} {nm:Bool} {name:ByteArray} {st en:Int} {K:List aH} {os:List Int} (h:Qh (jt g) (lv+1) K os):Uk g lv nm name (⟨st,en,lv,g.kind,nm,name,g.b,g.n,g.s⟩::K) (st::(os++[en]))
inductive Qh:List mg->Int->List aH->List Int->Prop
 | nil {lv:Int}:Qh [] lv [] []
 | cons {x:mg} {xs:List mg} {lv:Int} {A B:List aH} {a b:List Int} (h1:Uk x.v lv x.nm x.name A a) (h2:Qh xs lv B b):Qh (x::xs) lv (A++B) (a++b)
end
mutual
theorem Uk.lay: ∀ {g:aJ} {lv:Int} {nm:Bool} {name:ByteArray} {L:List aH} {os:List Int},Uk g lv nm name L os->∀ {lo hi:Int},D4 lo os hi->jf g lv nm name lo L hi
 | _,_,_,_,_,_,.mk (os:=os) h,lo,hi,hu=>by
  obtain⟨h1,h2⟩:=hu
  obtain⟨m,h3,h4,h5⟩:=(pe os _ _ _).1 h2
  exact .mk h1 (h.lay h3) h4 h5
theorem Qh.lay: ∀ {xs:List mg} {lv:Int} {L:List aH} {os:List Int},Qh xs lv L os->∀ {lo hi:Int},D4 lo os hi->nH xs lv lo L hi
 | _,_,_,_,.nil,_,_,hu=>.nil hu
 | _,_,_,_,.cons (a:=a) h1 h2,lo,hi,hu=>by
  obtain⟨m,h3,h4⟩:=(pe a _ _ _).1 hu
  exact .cons (h1.lay h3) (h2.lay h4)
end
mutual
theorem jf.sh: ∀ {g:aJ} {lv:Int} {nm:Bool} {name:ByteArray} {lo hi:Int} {L:List aH},jf g lv nm name lo L hi->∃ os,Uk g lv nm name L os/\D4 lo os hi
 | _,_,_,_,_,_,_,.mk h1 h2 h3 h4=>by
  obtain⟨os,a,b⟩:=h2.sh
  exact⟨_,.mk a,h1,(pe os _ _ _).2 ⟨_,b,h3,h4⟩⟩
theorem nH.sh: ∀ {xs:List mg} {lv lo hi:Int} {L:List aH},nH xs lv lo L hi->∃ os,Qh xs lv L os/\D4 lo os hi
 | _,_,_,_,_,.nil h=>⟨[],.nil,h⟩
 | _,_,_,_,_,.cons h1 h2=>by
  obtain⟨a,a1,a2⟩:=h1.sh
  obtain⟨b,b1,b2⟩:=h2.sh
  exact⟨_,.cons a1 b1,(pe a _ _ _).2 ⟨_,a2,b2⟩⟩
end
theorem S5{A B:List aH}: ∀ {L:List aH},L.map er=(A++B).map er->∃ L1 L2,L=L1++L2/\L1.map er=A.map er/\L2.map er=B.map er:=by
 intro L h
 rw[aF] at h
 obtain⟨L1,L2,h1,h2,h3⟩:=List.map_eq_append_iff.1 h
 exact⟨L1,L2,h1,h2,h3⟩
mutual
theorem S6: ∀(n:Nat) (g:aJ),nG g<=n->g.wf->∀(lv:Int) (nm:Bool) (name:ByteArray) (now:Int) (L:List aH),L.map er=(bG 1 g lv nm name now).1.map er->∃ os,Uk g lv nm name L os
 | 0,g,hn,_,_,_,_,_,_,_=>by have:=uY g;omega
 | n+1,g,hn,hw,lv,nm,name,now,L,h=>by
  rw[oL 1 g lv nm name now hw,bx] at h
  have hc:=yb hw
  cases L with
  | nil=>cases h
  | cons r K =>
   rw[bx] at h
   injection h with h1 h2
   obtain⟨os,hK⟩:=S7 n (jt g) Zo (sS hw) (lv+1) (now+1) K h2
   obtain⟨st,en,l,kd,m,na,b,d,s⟩:=r
   simp only[er,rY,aH.mk.injEq,true_and] at h1
   obtain⟨rfl,rfl,rfl,rfl,rfl,rfl,rfl⟩:=h1
   exact⟨_,.mk hK⟩
termination_by n=>(n,0)
theorem S7: ∀(n:Nat) (xs:List mg),lk xs<=n->aJ.pS (gk xs)->∀(lv now:Int) (L:List aH),L.map er=(gZ 1 xs lv now).1.map er->∃ os,Qh xs lv L os
 | _,[],_,_,lv,now,L,h=>by
  have:L=[]:=by simpa[gZ] using h
  subst this
  exact⟨[],.nil⟩
 | n,x::xs,hn,hw,lv,now,L,h=>by
  simp only[gk,bx,aJ.pS] at hw
  have hc:lk (x::xs)=nG x.v+lk xs:=rfl
  unfold gZ at h
  dsimp only at h
  obtain⟨A,B,rfl,hA,hB⟩:=S5 h
  obtain⟨a,ha⟩:=S6 n x.v Zo hw.1 lv x.nm x.name now A hA
  obtain⟨b,hb⟩:=S7 n xs Zo hw.2 lv _ B hB
  exact⟨_,.cons ha hb⟩
termination_by n xs=>(n,xs.length+1)
end
theorem Uk.ne{g:aJ}{lv:Int}{nm:Bool}{name:ByteArray}{L:List aH}{os:List Int}(h:Uk g lv nm name L os): ∃ r K,L=r::K/\r.lv=lv:=by
 cases h with
 | mk h=>exact⟨_,_,rfl,rfl⟩
theorem Qh.head{xs:List mg}{lv:Int}{L rest:List aH}{os:List Int}(h:Qh xs lv L os)(hr:behind lv rest): behind lv (L++rest):=by
 cases h with
 | nil=>exact hr
 | cons h1 h2 =>
  obtain⟨r,K,rfl,hl⟩:=h1.ne
  show r.lv<=lv
  omega
mutual
theorem Uk.ord: ∀ {g:aJ} {lv:Int} {nm:Bool} {name:ByteArray} {L:List aH} {os:List Int},Uk g lv nm name L os->∀(n:Nat) (rest:List aH),2*L.length<=n->behind lv rest->sd n (L++rest)=(os,rest)
 | _,lv,_,_,_,_,.mk (K:=K) h,n,rest,hn,hr=>by
  rw[List.length_cons] at hn
  obtain⟨n,rfl⟩:∃ m,n=m+1:=⟨n - 1,by omega⟩
  rw[aZ,sd,h.ord n lv rest Zo Zo hr]
theorem Qh.ord: ∀ {xs:List mg} {lv:Int} {L:List aH} {os:List Int},Qh xs lv L os->∀(n:Nat) (T6:Int) (rest:List aH),2*L.length+1<=n->lv=T6+1->behind T6 rest->rL n T6 (L++rest)=(os,rest)
 | _,_,_,_,.nil,n,T6,rest,hn,he,hr=>by
  obtain⟨n,rfl⟩:∃ m,n=m+1:=⟨n - 1,by omega⟩
  rw[cF]
  cases rest with
  | nil=>rfl
  | cons r rest =>
   have hr:r.lv<=T6:=hr
   rw[rL,ai Zo]
 | _,lv,_,_,.cons (A:=A) (B:=B) (a:=a) (b:=b) h1 h2,n,T6,rest,hn,he,hr=>by
  rw[af] at hn
  obtain⟨n,rfl⟩:∃ m,n=m+1:=⟨n - 1,by omega⟩
  obtain⟨r,K,hA,hl⟩:=h1.ne
  have hlA:A.length=K.length+1:=by rw[hA];rfl
  have e1:=h1.ord n (B++rest) Zo (h2.head (hr.mono Zo))
  have e2:=h2.ord n T6 rest Zo he hr
  rw[av]
  rw[hA,aZ] at e1 ⊢
  rw[rL,au Zo,e1]
  dsimp only
  rw[e2]
end
mutual
theorem zN: ∀(n:Nat) (l:List aH),(eY n l).1.wf
 | 0,l=>⟨rfl,trivial,trivial⟩
 | _+1,[]=>⟨rfl,trivial,trivial⟩
 | n+1,r::l=>by
  rw[eY]
  exact Jm n r.lv l
theorem Jm: ∀(n:Nat) (lv:Int) (l:List aH),(dQ n lv l).ks.length=(dQ n lv l).vs.length/\aJ.pS (dQ n lv l).ls/\aJ.pS (dQ n lv l).vs
 | 0,_,l=>⟨rfl,trivial,trivial⟩
 | _+1,_,[]=>⟨rfl,trivial,trivial⟩
 | n+1,lv,k::l=>by
  have h1:=zN n (k::l)
  have h2:=Jm n lv (eY n (k::l)).2
  rw[dQ]
  split
  ·split
   ·exact⟨by dsimp only;rw[List.length_cons,List.length_cons,h2.1],h2.2.1,h1,h2.2.2⟩
   ·exact⟨h2.1,⟨h1,h2.2.1⟩,h2.2.2⟩
  ·exact⟨rfl,trivial,trivial⟩
end
def AM:Int->List aH->Bool
 | _,[]=>true
 | p,r::l=>decide (0<=r.lv)&&decide (r.lv<=64)&&decide (r.lv<=p+1)&&decide (r.lv≠0)&&AM r.lv l
def vT:List aH->Bool
 | []=>true
 | r::l=>decide (0<=r.lv)&&decide (r.lv<=64)&&AM r.lv l
theorem Jq{g:aJ}{deep:Int}(h:rl g deep)(hw:g.wf): (jt g≠[]->deep<64)/\rm (gk (jt g)) (deep+1):=by
 obtain⟨h1,h2,h3,h4,h5⟩:=(Rw g deep).1 h
 obtain⟨k1,k2⟩:=As h1
 refine⟨fun jv=>?_,?_⟩
 ·have:4<=g.kind:=by
   by_cases hl:g.l=[]
   ·by_cases hk:g.ks=[]
    ·refine absurd ?_ jv
     unfold jt
     rw[hl,hk]
     cases g.vs<;>rfl
    ·have:=k2 hk;omega
   ·have:=k1 hl;omega
  omega
 ·rw[nL hw]
  rw[E9] at h4 h5 ⊢
  intro x hx
  rcases bz.1 hx with hx | hx
  ·exact h4 x hx
  ·exact h5 x hx
mutual
theorem jf.lev: ∀ {g:aJ} {lv:Int} {nm:Bool} {name:ByteArray} {lo hi:Int} {L:List aH},jf g lv nm name lo L hi->g.wf->rl g lv->lv<=64->1<=lv->∀(p:Int) (rest:List aH),lv<=p+1->(∀ q:Int,lv<=q+1->AM q rest=true)->AM p (L++rest)=true
 | _,lv,_,_,_,_,_,.mk h1 h2 h3 h4,hw,mK,hl,h0,p,rest,hp,hr=>by
  obtain⟨d1,d2⟩:=Jq mK hw
  rw[aZ,AM]
  have:=h2.lev (sS hw) d2 (fun h=>by have:=d1 h;omega) Zo lv rest (dB _) (fun q hq=>hr q Zo)
  rw[this,bj (show(0:Int)<=lv by omega),bj (show lv<=64 by omega),bj (show lv<=p+1 by omega),bj (show lv≠0 by omega)]
  rfl
theorem nH.lev: ∀ {xs:List mg} {lv lo hi:Int} {L:List aH},nH xs lv lo L hi->aJ.pS (gk xs)->rm (gk xs) lv->(xs≠[]->lv<=64)->1<=lv->∀(p:Int) (rest:List aH),lv<=p+1->(∀ q:Int,lv<=q+1->AM q rest=true)->AM p (L++rest)=true
 | _,_,_,_,_,.nil h,_,_,_,_,p,rest,hp,hr=>hr p hp
 | x::xs,lv,_,_,_,.cons (B:=B) h1 h2,hw,mK,hl,h0,p,rest,hp,hr=>by
  simp only[gk,bx,aJ.pS] at hw
  have mK:rl x.v lv/\rm (gk xs) lv:=mK
  have hl:=hl (by simp)
  rw[av]
  exact h1.lev hw.1 mK.1 hl h0 p (B++rest) hp fun q hq=>h2.lev hw.2 mK.2 (fun _=>hl) h0 q rest hq hr
end
theorem jf.vT{g:aJ}{nm:Bool}{name:ByteArray}{lo hi:Int}{L:List aH}(h:jf g 0 nm name lo L hi)(hw:g.wf)(mK:rl g 0): Go.Sy.vT L=true:=by
 cases h with
 | mk h1 h2 h3 h4 =>
  obtain⟨d1,d2⟩:=Jq mK hw
  have:=h2.lev (sS hw) d2 (fun h=>by have:=d1 h;omega) Zo 0 [] Zo (fun _ _=>rfl)
  rw[aL] at this
  unfold Go.Sy.vT
  dsimp only
  rw[this]
  rfl
def NG (r:aH) (xs:List mg):aJ:=if r.kd=5 then .mk r.kd r.b r.n r.s [] (xs.map mg.name) (xs.map mg.v) else .mk r.kd r.b r.n r.s (xs.map mg.v) [] []
theorem NF{r:aH}{xs:List mg}(h:∀ x∈xs,x.nm=decide (r.kd=5)/\(x.nm=false->x.name=bF)): jt (NG r xs)=xs:=by
 unfold NG jt
 by_cases hk:r.kd=5
 ·rw[au hk]
  show xX []++uf (xs.map mg.v) (xs.map mg.name)=xs
  rw[show xX []=[] from rfl,cF]
  have:∀ l:List mg,(∀ x∈l,x.nm=true)->uf (l.map mg.v) (l.map mg.name)=l:=by
   intro l
   induction l with
   | nil=>intro _;rfl
   | cons x l ih =>
    intro hl
    rw[bx,bx,uf,ih fun y hy=>hl y (ba _ hy)]
    have:=hl x a8
    obtain⟨nm,name,v⟩:=x
    dsimp only at this
    rw[this]
  exact this xs fun x hx=>by rw[(h x hx).1,bj hk]
 ·rw[ai hk]
  show xX (xs.map mg.v)++uf [] []=xs
  rw[show uf [] []=[] from rfl,aL]
  unfold xX
  rw[jm]
  have:∀ x∈xs,((fun g=>(⟨false,bF,g⟩:mg)) ∘ mg.v) x=id x:=by
   intro x hx
   obtain⟨h1,h2⟩:=h x hx
   rw[b7 hk] at h1
   have h3:=h2 h1
   clear h2 hx
   obtain⟨nm,name,v⟩:=x
   dsimp only at h1 h3
   subst h1 h3
   rfl
  rw[cY this,List.map_id]
theorem SP{r:aH}{xs:List mg}(h:aJ.pS (gk xs)): (NG r xs).wf:=by
 unfold NG
 split
 ·exact⟨by simp,trivial,h⟩
 ·exact⟨rfl,h,trivial⟩
theorem SQ(r:aH)(xs:List mg): (NG r xs).kind=r.kd/\(NG r xs).b=r.b/\(NG r xs).n=r.n/\(NG r xs).s=r.s:=by
 unfold NG
 split<;>exact⟨rfl,rfl,rfl,rfl⟩
theorem WL(ko:List Int)(x:Int): ((ko++[x]).getLast? == some 5)=decide (x=5):=by
 rw[List.getLast?_concat]
 by_cases h:x=5
 ·subst h;rfl
 ·rw[b7 h]
  simp[h]
theorem Lm{op:List Int}{r:aH}{l:List aH}(h:eU op (r::l)=true)(h0:0<=r.lv){m:Nat}(hm:r.lv<=m): eU (op.take m) (r::l)=true:=by
 rw[eU] at h ⊢
 rw[kc,gA Zo]
 exact h
theorem uH: ∀(n:Nat) (l:List aH),l.length<=n->∀(k:Nat) (ro:List aH) (ko:List Int) (last:Int),0<k->ro≠[]->ko.length=ro.length->eL k ro last l=true->eU ko l=true ->
  ∃(A B:List aH) (xs:List mg) (mid:Int),l=A++B/\nH xs ro.length last A mid/\aJ.pS (gk xs)/\(∀ x∈xs,x.nm=(ko.getLast? == some 5)/\(x.nm=false->x.name=bF)) /\
   (∀ r,B.head?=some r->r.lv<ro.length)/\eL (k+A.length) ro mid B=true/\eU ko B=true
 | _,[],_,k,ro,ko,last,hk,hro,ZJ,h1,h2=>⟨[],[],[],last,rfl,.nil (dB _),trivial,fun x hx=>(by cases hx),fun r hr=>(by cases hr),h1,h2⟩
 | 0,r::l,hn,_,_,_,_,_,_,_,_,_=>by simp at hn
 | n+1,r::l,hn,k,ro,ko,last,hk,hro,ZJ,h1,h2=>by
  have Ug:=h1
  rw[eL] at Ug
  split at Ug
  ·cases Ug
  rename_i hc
  have ud:0<=r.lv/\r.lv<=ro.length/\r.lv≠0:=by
   refine⟨Int.not_lt.1 fun h=>hc (.inl h),Int.not_lt.1 fun h=>hc (.inr (.inl h)),fun h=>hc (.inr (.inr ?_))⟩
   rw[bj h,b7 (show ¬ (k:Int)=0 by omega)]
   rfl
  by_cases dj:r.lv<ro.length
  ·exact⟨[],r::l,[],last,rfl,.nil (dB _),trivial,fun x hx=>(by cases hx),fun r' hr=>(by cases hr;exact dj),h1,h2⟩
  have hle:(ro.length:Int)=r.lv:=by omega
  rw[mG last hle] at Ug
  dsimp only at Ug
  split at Ug
  ·cases Ug
  rename_i pL
  have qg:=h2
  rw[eU] at qg
  have mi:ko.take r.lv.toNat=ko:=bY Zo
  rw[mi] at qg
  split at qg
  ·cases qg
  rename_i Qb
  simp only[jx,aQ,not_or,not_and,bne_iff_ne,ne_eq,Decidable.not_not,iE,eD,Decidable.not_not] at Qb
  obtain⟨A1,B1,Z0,XU,rfl,hI,KD,Jy,hB1,Al,hm1⟩:=uH n l (by simpa using hn) (k+1) (r::ro) (ko++[r.kd]) r.st (Nat.succ_pos k) (by simp) (by simp[ZJ]) Ug qg
  have aj2:∀ x∈Z0,x.nm=decide (r.kd=5)/\(x.nm=false->x.name=bF):=by
   intro x hx
   obtain⟨a,b⟩:=Jy x hx
   refine⟨?_,b⟩
   rw[a,WL]
  have Yw:=NF aj2
  obtain⟨e1,e2,e3,e4⟩:=SQ r Z0
  have Sb:XU<r.en/\eL (k+1+A1.length) ro r.en B1=true:=by
   cases B1 with
   | nil =>
    rw[eL,closeAll] at Al
    split at Al
    ·cases Al
    ·rename_i hh
     exact⟨by omega,by rw[eL];exact Al⟩
   | cons s B1 =>
    have hs:=hB1 s rfl
    rw[List.length_cons] at hs
    rw[eL] at Al ⊢
    split at Al
    ·cases Al
    rename_i vV
    rw[gy,au Zo] at Al
    by_cases hh:r.en<=XU
    ·rw[au hh] at Al;cases Al
    rw[ai hh] at Al
    rw[ai (by
     rintro(h | h | h)
     ·exact vV (.inl h)
     ·omega
     ·exact vV (.inr (.inr h)))]
    exact⟨by omega,Al⟩
  have Nn:eU ko B1=true:=by
   cases B1 with
   | nil=>rfl
   | cons s B1 =>
    have hs:=hB1 s rfl
    rw[List.length_cons] at hs
    have h0:0<=s.lv:=by
     have:=Sb.2
     rw[eL] at this
     split at this
     ·cases this
     ·rename_i vV
      exact Int.not_lt.1 fun h=>vV (.inl h)
    have:=Lm hm1 h0 (m:=ro.length) Zo
    rw[fY Zo,bY Zo] at this
    exact this
  have hV:jf (NG r Z0) ro.length r.nm r.name last (r::A1) r.en:=by
   have:=jf.mk (g:=NG r Z0) (lv:=(ro.length:Int)) (nm:=r.nm) (name:=r.name) (lo:=last) (st:=r.st) (en:=r.en) (m:=XU) (hi:=r.en) (K:=A1) Zo (by
    rw[Yw]
    rw[List.length_cons] at hI
    exact hI) Sb.1 (dB _)
   rw[e1,e2,e3,e4,hle] at this
   rw[hle]
   exact this
  obtain⟨A2,B2,xs2,ai4,rfl,hI2,AO,LL,hB2,Qc,Nn⟩:=uH n B1 (by rw[List.length_cons,af] at hn;omega) (k+1+A1.length) ro ko r.en Zo hro ZJ Sb.2 Nn
  refine⟨r::A1++A2,B2,⟨r.nm,r.name,NG r Z0⟩::xs2,ai4,by simp,.cons hV hI2,⟨SP KD,AO⟩,?_,hB2,?_,Nn⟩
  ·intro x hx
   rcases bM.1 hx with rfl | hx
   ·refine⟨?_,?_⟩
    ·exact Qb.1
    ·exact Qb.2
   ·exact LL x hx
  ·rw[af,List.length_cons,show k+(A1.length+1+A2.length)=k+1+A1.length+A2.length by omega]
   exact Qc
theorem RG{L:List aH}(h1:gK L=true)(h2:m7 L=true): ∃ g,jf g 0 false bF (-1) L ((L.head?.map aH.en).getD 0)/\g.wf:=by
 unfold gK at h1
 unfold m7 at h2
 rw[aQ] at h1
 obtain⟨h1,h3⟩:=h1
 cases L with
 | nil=>simp at h3
 | cons r l =>
  rw[eL] at h1
  split at h1
  ·cases h1
  rename_i hc
  have ud:r.lv=0:=by
   have a:¬ r.lv<0:=fun h=>hc (.inl h)
   have b:¬ (([]:List aH).length:Int)<r.lv:=fun h=>hc (.inr (.inl h))
   simp only[List.length_nil] at b
   omega
  rw[gy] at h1
  dsimp only at h1
  split at h1
  ·cases h1
  rename_i pL
  rw[eU] at h2
  split at h2
  ·cases h2
  rename_i Qb
  rw[List.take_nil,cF] at h2
  rw[List.take_nil] at Qb
  simp only[List.getLast?_nil,jx,aQ,not_or,not_and,bne_iff_ne,ne_eq,Decidable.not_not,iE,eD] at Qb
  have qg:r.nm=false:=Qb.1
  have Sh:r.name=bF:=Qb.2 qg
  obtain⟨A,B,xs,mid,rfl,hI,hw,hx,hB,hn,hm⟩:=uH l.length l (aq _) 1 [r] [r.kd] r.st Nat.one_pos (by simp) rfl h1 h2
  have hB0:B=[]:=by
   cases B with
   | nil=>rfl
   | cons s B =>
    have hs:=hB s rfl
    rw[b8] at hs
    rw[eL] at hn
    split at hn
    ·cases hn
    rename_i vV
    exfalso
    have a:¬ s.lv<0:=fun h=>vV (.inl h)
    refine vV (.inr (.inr ?_))
    rw[bj (show s.lv=0 by omega),b7 (show ¬ ((1+A.length:Nat):Int)=0 by omega)]
    rfl
  subst hB0
  rw[eL,closeAll] at hn
  split at hn
  ·cases hn
  rename_i JH
  have Yw:=NF (r:=r) (xs:=xs) fun x Eo=>by
   obtain⟨a,b⟩:=hx x Eo
   refine⟨?_,b⟩
   rw[a]
   exact WL [] r.kd
  obtain⟨e1,e2,e3,e4⟩:=SQ r xs
  refine⟨NG r xs,?_,SP hw⟩
  have:=jf.mk (g:=NG r xs) (lv:=0) (nm:=false) (name:=bF) (lo := -1) (st:=r.st) (en:=r.en) (m:=mid) (hi:=r.en) (K:=A) Zo (by rw[Yw];exact hI) Zo (dB _)
  rw[e1,e2,e3,e4] at this
  rw[aL]
  show jf _ _ _ _ _ (r::A) r.en
  have hr:r=⟨r.st,r.en,0,r.kd,false,bF,r.b,r.n,r.s⟩:=by
   rw[<-ud,<-qg,<-Sh]
  rw[<-hr] at this
  exact this
theorem rZ{L:List aH}(h:eG L=true): jf (fB L).1 0 false bF (-1) L ((L.head?.map aH.en).getD 0)/\(fB L).1.wf/\(fB L).2=[]:=by
 obtain⟨-,h1,h2,-,-⟩:=r9 h
 obtain⟨g,hl,hw⟩:=RG h1 h2
 have hb:=hl.built hw
 rw[hb]
 exact⟨hl,hw,rfl⟩
def kp (L:List aH):Bool :=
 if L.length=0\/5000<L.length then false
 else if vT L=false then false
 else if (L.head?.map aH.lv).getD 0≠0\/(L.head?.map aH.nm).getD false=true\/1099511627776<(L.head?.map aH.en).getD 0 then false
 else if (fB L).2≠[]\/kU (fB L).1≠0 then false
 else if L.map er≠(bG 1 (fB L).1 0 false bF 0).1.map er then false
 else EB (-1) (IS L)
theorem jf.top{g:aJ}{lv:Int}{nm:Bool}{name:ByteArray}{lo hi:Int}{L:List aH}(h:jf g lv nm name lo L hi):
  jf g lv nm name lo L ((L.head?.map aH.en).getD 0)/\L.length≠0/\(L.head?.map aH.lv).getD 0=lv/\(L.head?.map aH.nm).getD false=nm:=by
 cases h with
 | mk a b c d=>exact⟨.mk a b c (dB _),by simp,rfl,rfl⟩
theorem Vl{g:aJ}{lv:Int}{nm:Bool}{name:ByteArray}{lo hi:Int}{L:List aH}(h:jf g lv nm name lo L hi): EB lo (IS L)=true:=by
 obtain⟨os,h1,h2⟩:=h.sh
 have:=h1.ord (jb L) [] (by unfold jb;omega) trivial
 rw[aL] at this
 unfold IS
 rw[this]
 exact(Mp _ _).2 ⟨_,h2⟩
theorem yQ{L:List aH}(hl:L.length<=4096): kp L=eG L:=by
 rw[cg]
 constructor
 ·intro h
  unfold kp at h
  split at h
  ·cases h
  split at h
  ·cases h
  split at h
  ·cases h
  rename_i _ _ h3
  split at h
  ·cases h
  rename_i h4
  split at h
  ·cases h
  rename_i h5
  have h5:=Decidable.not_not.1 h5
  have hw:(fB L).1.wf:=zN _ _
  obtain⟨os,WS⟩:=S6 _ _ (aq _) hw 0 false bF 0 L h5
  have ho:=WS.ord (jb L) [] (by unfold jb;omega) trivial
  rw[aL] at ho
  unfold IS at h
  rw[ho] at h
  obtain⟨hi,hu⟩:=(Mp _ _).1 h
  have O6:=WS.lay hu
  have JH:(L.head?.map aH.en).getD 0<=1099511627776:=Int.not_lt.1 fun hc=>h3 (.inr (.inr hc))
  have hs:kU (fB L).1=0:=Decidable.not_not.1 fun hc=>h4 (.inr hc)
  exact OY O6.top.1 (dB _) hw hs hl JH
 ·intro h
  obtain⟨-,-,-,a4,a5⟩:=r9 h
  obtain⟨O6,hw,YO⟩:=rZ h
  obtain⟨mK,-⟩:=Iu.1 a5
  have GM:=O6.vT hw mK
  have VF:=O6.At hw 1 0
  have al4:=Vl O6
  have mT:=O6.top.2
  unfold kp
  rw[ai Zo,ai (by rw[GM];decide),ai (by
   rw[mT.2.1,mT.2.2]
   rintro(h | h | h)
   ·exact h rfl
   ·cases h
   ·omega),ai (by
   rintro(h | h)
   ·exact h YO
   ·exact h a5),ai (fun h=>h VF)]
  exact al4
end Go.Sy
namespace Go.Sy
def A6 (L:List aH):Prop:=∀(i j:Nat) (x y:aH),i<j->L[i]?=some x->L[j]?=some y ->
 x.en≠y.st/\(y.st<x.en↔∀(k:Nat) (z:aH),i<k->k<=j->L[k]?=some z->x.lv<z.lv)
mutual
theorem jf.Mj: ∀ {g:aJ} {lv:Int} {nm:Bool} {name:ByteArray} {lo hi:Int} {L:List aH},jf g lv nm name lo L hi->A6 L
 | g,lv,nm,name,_,_,_,.mk (st:=st) (en:=en) (K:=K) h1 h2 h3 h4=>by
  have ih:=h2.Mj
  have qu:=h2.bd
  have ud:=h2.XX
  intro i j x y iP hx hy
  obtain⟨j,rfl⟩:∃ m,j=m+1:=⟨j - 1,by omega⟩
  rw[bg] at hy
  have hyK:=qu y (aC hy)
  cases i with
  | zero =>
   rw[bn] at hx
   obtain rfl:=bI hx
   refine⟨by dsimp only;omega,fun _=>?_,fun _=>by dsimp only;omega⟩
   intro k z hk _ hz
   obtain⟨k,rfl⟩:∃ m,k=m+1:=⟨k - 1,by omega⟩
   rw[bg] at hz
   have:=(ud z (aC hz)).1
   dsimp only
   omega
  | succ i =>
   rw[bg] at hx
   obtain⟨a,b⟩:=ih i j x y Zo hx hy
   refine⟨a,b.trans ⟨fun h k z hk O8 hz=>?_,fun h k z hk O8 hz=>?_⟩⟩
   ·obtain⟨k,rfl⟩:∃ m,k=m+1:=⟨k - 1,by omega⟩
    rw[bg] at hz
    exact h k z Zo Zo hz
   ·exact h (k+1) z Zo Zo (by rw[bg];exact hz)
theorem nH.Mj: ∀ {xs:List mg} {lv lo hi:Int} {L:List aH},nH xs lv lo L hi->A6 L
 | _,_,_,_,_,.nil h=>by
  intro i j x y _ hx
  simp at hx
 | _,lv,_,_,_,.cons (mid:=mid) (A:=A) (B:=B) h1 h2=>by
  have ihA:=h1.Mj
  have ihB:=h2.Mj
  have bA:=h1.bd
  have bB:=h2.bd
  have lA:=h1.XX
  have hle:=h2.le
  intro i j x y iP hx hy
  by_cases hj:j<A.length
  ·rw[aV hj] at hy
   rw[aV Zo] at hx
   obtain⟨a,b⟩:=ihA i j x y iP hx hy
   refine⟨a,b.trans ⟨fun h k z hk O8 hz=>?_,fun h k z hk O8 hz=>?_⟩⟩
   ·rw[aV Zo] at hz
    exact h k z hk O8 hz
   ·exact h k z hk O8 (by rw[aV Zo];exact hz)
  ·rw[aW Zo] at hy
   have hyB:=bB y (aC hy)
   by_cases hi:i<A.length
   ·rw[aV hi] at hx
    have hxA:=bA x (aC hx)
    have Vz:=(lA x (aC hx)).1
    refine⟨by omega,fun h=>by omega,fun h=>?_⟩
    exfalso
    cases h2 with
    | nil=>simp at hy
    | cons c d =>
     cases c with
     | mk c1 c2 c3 c4 =>
      have:=h A.length _ hi Zo (by rw[aW (aq _),fM,aZ,bn])
      dsimp only at this
      omega
   ·rw[aW Zo] at hx
    obtain⟨a,b⟩:=ihB (i - A.length) (j - A.length) x y Zo hx hy
    refine⟨a,b.trans ⟨fun h k z hk O8 hz=>?_,fun h k z hk O8 hz=>?_⟩⟩
    ·rw[aW Zo] at hz
     exact h (k - A.length) z Zo Zo hz
    ·refine h (k+A.length) z Zo Zo ?_
     rw[aW Zo,Nat.add_sub_cancel]
     exact hz
end
def ru (lv:Int):List aH->Nat
 | []=>0
 | r::l=>if lv<r.lv then ru lv l+1 else 0
def ka (lv:Int):Nat->List aH->List Nat
 | _,[]=>[]
 | k,r::l=>if lv<r.lv then (if r.lv=lv+1 then k::ka lv (k+1) l else ka lv (k+1) l) else []
def lG (L:List aH) (i:Nat):List Nat:=ka (xR L i) (i+1) (L.drop (i+1))
theorem qG{L:List aH}{i:Nat}{x:aH}(h:L[i]?=some x): xR L i=x.lv:=by unfold xR;rw[h];rfl
theorem QQ{L:List aH}(H:A6 L){i:Nat}{x:aH}(hx:L[i]?=some x): ∀(n j:Nat),L.length - j<=n->i<j->(∀(k:Nat) (z:aH),i<k->k<j->L[k]?=some z->x.lv<z.lv)->K3 x.en (L.drop j)=ru x.lv (L.drop j)
 | 0,j,hn,iP,_=>by rw[dO Zo];rfl
 | n+1,j,hn,iP,hb=>by
  by_cases hj:j<L.length
  ·have hy:L[j]?=some L[j]:=aa hj
   have hc:=(H i j x _ iP hx hy).2
   rw[aB hj,K3,ru]
   by_cases hl:x.lv<L[j].lv
   ·have uR:∀(k:Nat) (z:aH),i<k->k<j+1->L[k]?=some z->x.lv<z.lv:=by
     intro k z h1 h2 h3
     by_cases hk:k=j
     ·subst hk
      rw[hy] at h3
      obtain rfl:=bI h3
      exact hl
     ·exact hb k z h1 Zo h3
    rw[au (hc.2 fun k z h1 h2 h3=>uR k z h1 Zo h3),au hl,QQ H hx n (j+1) Zo Zo uR]
   ·rw[ai (fun h=>hl (hc.1 h j _ iP (aq _) hy)),ai hl]
  ·rw[dO Zo];rfl
theorem UN{L:List aH}(H:A6 L){i:Nat}{x:aH}(hx:L[i]?=some x): K3 x.en (L.drop (i+1))=ru x.lv (L.drop (i+1)) :=
 QQ H hx _ (i+1) (aq _) (db i) fun k z h1 h2=>by omega
theorem Rg{L:List aH}(H:A6 L){i:Nat}{x:aH}(hx:L[i]?=some x): ∀ k:Nat,k<=i->(∀(m:Nat) (z:aH),k<=m->m<i->L[m]?=some z->x.lv<=z.lv)->nR L x.st k=kJ L x.lv k
 | 0,_,_=>rfl
 | k+1,hk,hb=>by
  have Eu:=(ah.1 hx).1
  have hy:L[k]?=some (L[k]'Zo):=aa _
  obtain⟨jv,hc⟩:=H k i _ x Zo hy hx
  rw[nR,kJ,hy]
  dsimp only[Option.map_some,Option.getD_some]
  by_cases hl:x.lv<=(L[k]'Zo).lv
  ·rw[au hl,au]
   ·refine Rg H hx k Zo fun m z h1 h2 h3=>?_
    by_cases hm:m=k
    ·subst hm
     rw[hy] at h3
     obtain rfl:=bI h3
     exact hl
    ·exact hb m z Zo h2 h3
   ·have:¬ x.st<(L[k]'Zo).en:=fun h=>by
     have:=hc.1 h i x Zo (aq _) hx
     omega
    omega
  ·rw[ai hl,ai]
   have:x.st<(L[k]'Zo).en:=hc.2 fun m z h1 h2 h3=>by
    by_cases hm:m=i
    ·subst hm
     rw[hx] at h3
     obtain rfl:=bI h3
     omega
    ·have:=hb m z Zo Zo h3
     omega
   omega
theorem xB{L:List aH}(H:A6 L){i:Nat}(hi:i<L.length): jX L i=hH L i:=by
 have hx:L[i]?=some L[i]:=aa hi
 unfold jX hH
 rw[hx]
 exact Rg H hx i (aq _) fun m z h1 h2=>by omega
theorem Ce{lv:Int}: ∀(T:List aH) (k:Nat),ka lv k T=ka lv (k+ru (lv+1) T) (T.drop (ru (lv+1) T))
 | [],k=>rfl
 | r::l,k=>by
  rw[ru]
  by_cases h:lv+1<r.lv
  ·rw[au h,ka,au Zo,ai Zo,Ce l (k+1),dH]
   congr 1
   omega
  ·rw[ai h]
   rfl
theorem CO(lv:Int): ∀(T:List aH) (r:aH),(T.drop (ru lv T)).head?=some r->r.lv<=lv
 | [],r,h=>by simp[ru] at h
 | x::l,r,h=>by
  rw[ru] at h
  split at h
  ·rw[dH] at h
   exact CO lv l r h
  ·rw[cJ,List.head?_cons,bf] at h
   subst h
   omega
theorem Jj(lv:Int): ∀(T:List aH) (k:Nat) (z:aH),k<ru lv T->T[k]?=some z->lv<z.lv
 | [],k,z,h,_=>by simp[ru] at h
 | x::l,k,z,h,hz=>by
  rw[ru] at h
  split at h
  ·rename_i hx
   cases k with
   | zero =>
    rw[bn,bf] at hz
    subst hz
    exact hx
   | succ k =>
    rw[bg] at hz
    exact Jj lv l k z Zo hz
  ·omega
theorem Na{L:List aH}(H:A6 L){i:Nat}{x:aH}(hx:L[i]?=some x): ∀(n k:Nat),L.length<k+n->i<k->(∀(m:Nat) (z:aH),i<m->m<k->L[m]?=some z->x.lv<z.lv)->(∀ z,L[k]?=some z->z.lv<=x.lv+1) ->
  Fo L x.en n k=ka x.lv k (L.drop k)
 | 0,k,hn,KE,_,_=>by rw[dO Zo];rfl
 | n+1,k,hn,KE,hb,zm=>by
  unfold Fo
  by_cases hk:k<L.length
  ·have hy:L[k]?=some L[k]:=aa hk
   have hc:=(H i k x _ KE hx hy).2
   rw[dif_pos hk,aB hk,ka]
   by_cases hl:x.lv<L[k].lv
   ·have hle:L[k].lv=x.lv+1:=by have:=zm _ hy;omega
    rw[au (hc.2 fun m z h1 h2 h3=>?_),au hl,au hle,Ce (L.drop (k+1)) (k+1)]
    ·congr 1
     have ed:runK L L[k].en (k+1)=k+1+ru (x.lv+1) (L.drop (k+1)):=by
      unfold runK
      rw[UN H hy,hle]
     rw[ed,List.drop_drop]
     refine Na H hx n _ Zo Zo (fun m z h1 h2 h3=>?_) fun z hz=>?_
     ·by_cases hm:m<k
      ·exact hb m z h1 hm h3
      ·by_cases Nn:m=k
       ·subst Nn
        rw[hy] at h3
        obtain rfl:=bI h3
        exact hl
       ·have:=Jj (x.lv+1) (L.drop (k+1)) (m - (k+1)) z Zo (by rw[fF,show k+1+(m - (k+1))=m by omega];exact h3)
        omega
     ·refine CO (x.lv+1) (L.drop (k+1)) z ?_
      rw[List.drop_drop,kQ,fF,eM]
      exact hz
    ·by_cases hm:m=k
     ·subst hm
      rw[hy] at h3
      obtain rfl:=bI h3
      exact hl
     ·exact hb m z h1 Zo h3
   ·rw[ai (fun h=>hl (hc.1 h k _ KE (aq _) hy)),ai hl]
  ·rw[dif_neg hk,dO Zo]
   rfl
def Ks (L:List aH):Prop:=∀(i:Nat) (x y:aH),L[i]?=some x->L[i+1]?=some y->y.lv<=x.lv+1
theorem M8: ∀(L:List aH) (p:Int),AM p L=true->(∀ y,L[0]?=some y->y.lv<=p+1)/\Ks L
 | [],p,_=>⟨fun y h=>by simp at h,fun i x y h=>by simp at h⟩
 | r::l,p,h=>by
  rw[AM] at h
  simp only[aQ,aX] at h
  obtain⟨a,b⟩:=M8 l r.lv h.2
  refine⟨fun y hy=>?_,fun i x y hx hy=>?_⟩
  ·rw[bn,bf] at hy
   subst hy
   exact h.1.1.2
  ·rw[bg] at hy
   cases i with
   | zero =>
    rw[bn,bf] at hx
    subst hx
    exact a y hy
   | succ i =>
    rw[bg] at hx
    exact b i x y hx hy
theorem Gx{L:List aH}(h:vT L=true): Ks L:=by
 cases L with
 | nil=>intro i x y hx;simp at hx
 | cons r l =>
  unfold vT at h
  simp only[aQ] at h
  obtain⟨a,b⟩:=M8 l r.lv h.2
  intro i x y hx hy
  rw[bg] at hy
  cases i with
  | zero =>
   rw[bn,bf] at hx
   subst hx
   exact a y hy
  | succ i =>
   rw[bg] at hx
   exact b i x y hx hy
theorem Cg{L:List aH}(H:A6 L)(JB:Ks L){i:Nat}(hi:i<L.length): lN L i=lG L i:=by
 have hx:L[i]?=some L[i]:=aa hi
 unfold lN lG
 rw[qG hx,hx]
 exact Na H hx L.length (i+1) Zo (db i) (fun m z h1 h2=>by omega) fun z hz=>JB i _ z hx hz
def sI (i:Nat):List Nat->Nat
 | []=>0
 | m::ms=>if m=i then 0 else sI i ms+1
def oP (L:List aH) (i p:Nat):GStep :=
 match L[i]? with
 | some r=>if r.nm then ⟨r.name,0,true⟩ else ⟨bF,sI i (lG L p),false⟩
 | none=>⟨bF,0,false⟩
def jA (L:List aH):Nat->Nat->List GStep
 | 0,_=>[]
 | n+1,i=>if hH L i<0 then [] else jA L n (hH L i).toNat++[oP L i (hH L i).toNat]
def jz (L:List aH) (i:Nat):List GStep:=jA L (i+1) i
theorem Jv: ∀(ms:List Nat) (i k:Nat),i∈ms->LH i ms k=(k+sI i ms:Nat)
 | [],_,_,h=>by cases h
 | m::ms,i,k,h=>by
  unfold LH sI
  by_cases hm:m=i
  ·rw[au hm.symm,au hm];rfl
  ·rw[ai (fun e=>hm e.symm),ai hm,Jv ms i (k+1) (by
    rcases bM.1 h with h | h
    ·exact absurd h.symm hm
    ·exact h)]
   congr 1
   omega
theorem Fg(L:List aH)(lv:Int): ∀ k:Nat,-1<=kJ L lv k/\kJ L lv k<k
 | 0=>by simp[kJ]
 | k+1=>by
  have:=Fg L lv k
  simp only[kJ]
  split<;>omega
theorem nt(L:List aH)(i:Nat): -1<=hH L i/\hH L i<i:=Fg L _ i
theorem uI{L:List aH}{lv:Int}: ∀ {k p:Nat},kJ L lv k=p->k<=L.length->(∃ x,L[p]?=some x/\x.lv<lv)/\∀(m:Nat) (z:aH),p<m->m<k->L[m]?=some z->lv<=z.lv
 | 0,p,h,_=>by unfold kJ at h;omega
 | k+1,p,h,hk=>by
  have hy:L[k]?=some (L[k]'Zo):=aa _
  rw[kJ,hy] at h
  dsimp only[Option.map_some,Option.getD_some] at h
  split at h
  ·rename_i hl
   obtain⟨a,b⟩:=uI h Zo
   refine⟨a,fun m z h1 h2 h3=>?_⟩
   by_cases hm:m=k
   ·subst hm
    rw[hy] at h3
    obtain rfl:=bI h3
    exact hl
   ·exact b m z h1 Zo h3
  ·rename_i hl
   obtain rfl:k=p:=by omega
   exact⟨⟨_,hy,by omega⟩,fun m z h1 h2=>by omega⟩
theorem Fe{lv:Int}: ∀(T:List aH) (k j:Nat) (r:aH),T[j]?=some r->r.lv=lv+1->(∀(m:Nat) (z:aH),m<j->T[m]?=some z->lv<z.lv)->k+j∈ka lv k T
 | [],_,_,_,h,_,_=>by simp at h
 | x::T,k,0,r,h,hr,_=>by
  rw[bn,bf] at h
  subst h
  rw[ka,au Zo,au hr]
  exact a8
 | x::T,k,j+1,r,h,hr,hb=>by
  rw[bg] at h
  have h0:=hb 0 x Zo rfl
  have:=Fe T (k+1) j r h hr fun m z h1 h2=>hb (m+1) z Zo (by rw[bg];exact h2)
  rw[show k+1+j=k+(j+1) by omega] at this
  rw[ka,au h0]
  split
  ·exact ba _ this
  ·exact this
theorem Lz{L:List aH}(JB:Ks L){i p:Nat}(hi:i<L.length)(hp:hH L i=p): i∈lG L p:=by
 have hx:L[i]?=some L[i]:=aa hi
 have ZA:=(nt L i).2
 rw[hp] at ZA
 unfold hH at hp
 rw[hx] at hp
 obtain⟨⟨y,hy,Zu⟩,hb⟩:=uI (k:=i) hp Zo
 dsimp only[Option.map_some,Option.getD_some] at Zu hb
 have h1:(L[p+1]'Zo).lv<=y.lv+1:=JB p y _ hy (aa _)
 have hl:L[i].lv=y.lv+1:=by
  by_cases ZB:p+1=i
  ·subst ZB;omega
  ·have:=hb (p+1) _ Zo Zo (aa Zo)
   omega
 unfold lG
 rw[qG hy]
 have:=Fe (lv:=y.lv) (L.drop (p+1)) (p+1) (i - (p+1)) L[i] (by rw[fF,show p+1+(i - (p+1))=i by omega];exact hx) hl fun m z h1 h2=>by
  rw[fF] at h2
  have:=hb (p+1+m) z Zo Zo h2
  omega
 rw[show p+1+(i - (p+1))=i by omega] at this
 exact this
theorem Ih(s:GStep): l5 s s=true:=by
 obtain⟨k,a,n⟩:=s
 cases n<;>simp[l5]
theorem Ig{s t:GStep}(h:l5 s t=true): l5 t s=true:=by
 obtain⟨k1,a1,n1⟩:=s
 obtain⟨k2,a2,n2⟩:=t
 cases n1<;>cases n2<;>simp[l5] at h ⊢<;>exact h.symm
theorem F9{s t u:GStep}(h1:l5 s t=true)(h2:l5 t u=true): l5 s u=true:=by
 obtain⟨k1,a1,n1⟩:=s
 obtain⟨k2,a2,n2⟩:=t
 obtain⟨k3,a3,n3⟩:=u
 cases n1<;>cases n2<;>cases n3<;>simp[l5] at h1 h2 ⊢<;>exact h1.trans h2
theorem B9: ∀ {a b:List GStep},jR a b=true->jR b a=true
 | [],[],_=>rfl
 | [],_::_,h=>by cases h
 | _::_,[],h=>by cases h
 | x::a,y::b,h=>by
  rw[jR,aQ] at h ⊢
  exact⟨Ig h.1,B9 h.2⟩
theorem q9: ∀ {a b c:List GStep},jR a b=true->jR b c=true->jR a c=true
 | [],[],c,_,h=>h
 | [],_::_,_,h,_=>by cases h
 | _::_,[],_,h,_=>by cases h
 | x::a,y::b,[],_,h=>by cases h
 | x::a,y::b,z::c,h1,h2=>by
  rw[jR,aQ] at h1 h2 ⊢
  exact⟨F9 h1.1 h2.1,q9 h1.2 h2.2⟩
theorem xA: ∀ {a b c d:List GStep},jR a b=true->jR c d=true->jR (a++c) (b++d)=true
 | [],[],c,d,_,h=>h
 | [],_::_,_,_,h,_=>by cases h
 | _::_,[],_,_,h,_=>by cases h
 | x::a,y::b,c,d,h1,h2=>by
  rw[jR,aQ] at h1
  rw[aZ,aZ,jR,aQ]
  exact⟨h1.1,xA h1.2 h2⟩
theorem Iw{a b c:List GStep}(h:jR a b=true): jR a c=jR b c:=by
 rw[cg]
 exact⟨fun h1=>q9 (B9 h) h1,fun h1=>q9 h h1⟩
theorem QT{L:List aH}(H:A6 L)(JB:Ks L){i p:Nat}(hi:i<L.length)(hp:hH L i=p): l5 (stepG L i p) (oP L i p)=true:=by
 have hx:L[i]?=some L[i]:=aa hi
 have hm:=Lz JB hi hp
 have px:p<L.length:=by have:=(nt L i).2;omega
 have hk:=Cg H JB px
 unfold stepG oP
 rw[hx]
 dsimp only
 cases hn:L[i].nm with
 | true =>
  rw[au rfl,au rfl]
  exact Ih _
 | false =>
  rw[ai (by simp),ai (by simp),hk,Jv _ _ _ hm,cG]
  simp[l5]
theorem ES{L:List aH}(H:A6 L)(JB:Ks L): ∀(n i:Nat),i<L.length->jR (P4 L n i).reverse (jA L n i)=true
 | 0,_,_=>rfl
 | n+1,i,hi=>by
  rw[P4,jA,xB H hi]
  by_cases h:hH L i<0
  ·rw[au h,au h];rfl
  ·rw[ai h,ai h,List.reverse_cons]
   have dj:=nt L i
   refine xA (ES H JB n _ Zo) ?_
   have:=QT H JB hi (p:=(hH L i).toNat) Zo
   rw[jR,this]
   rfl
theorem EU{L:List aH}(H:A6 L)(JB:Ks L){i:Nat}(hi:i<L.length): jR (rK L i) (jz L i)=true:=ES H JB (i+1) i hi
theorem S9{L M:List aH}(h:L.map er=M.map er){i:Nat}{x:aH}(hx:L[i]?=some x): ∃ y,M[i]?=some y/\er x=er y:=by
 have:=aN (fun l=>l[i]?) h
 simp only[aO,hx,Option.map_some] at this
 cases hy:M[i]? with
 | none=>rw[hy] at this;simp at this
 | some y =>
  rw[hy] at this
  exact⟨y,rfl,bI this⟩
theorem yL{lv:Int}: ∀(T:List aH) (k:Nat),ka lv k (T.map er)=ka lv k T
 | [],_=>rfl
 | r::T,k=>by
  rw[bx,ka,ka,yL T (k+1)]
  rfl
theorem Ow{L M:List aH}(h:L.map er=M.map er)(i:Nat): lG L i=lG M i:=by
 unfold lG
 rw[S8 h i,<-yL (L.drop (i+1)),<-yL (M.drop (i+1)),dR,dR,h]
theorem Fh{L M:List aH}(h:L.map er=M.map er)(lv:Int): ∀ k:Nat,kJ L lv k=kJ M lv k
 | 0=>rfl
 | k+1=>by
  have:=S8 h k
  unfold xR at this
  rw[kJ,kJ,this,Fh h lv k]
theorem OU{L M:List aH}(h:L.map er=M.map er)(i:Nat): hH L i=hH M i:=by
 have:=S8 h i
 unfold xR at this
 unfold hH
 rw[this,Fh h]
theorem Dm{L M:List aH}(h:L.map er=M.map er): L.length=M.length:=by
 have:=aN List.length h
 rwa [aR,aR] at this
theorem QA{L M:List aH}(h:L.map er=M.map er)(hk:∀ i,i<L.length->lN L i=lN M i){i p:Nat}(hp:p<L.length): stepG L i p=stepG M i p:=by
 unfold stepG
 rw[hk p hp]
 cases hx:L[i]? with
 | none =>
  have:M[i]?=none:=by
   rw[List.getElem?_eq_none_iff] at hx ⊢
   rw[<-Dm h];exact hx
  rw[this]
 | some x =>
  obtain⟨y,hy,he⟩:=S9 h hx
  rw[hy]
  obtain⟨_,_,_,_,_,_,_,_,_⟩:=x
  obtain⟨_,_,_,_,_,_,_,_,_⟩:=y
  simp only[er,rY,aH.mk.injEq,true_and] at he
  obtain⟨rfl,rfl,rfl,rfl,rfl,rfl,rfl⟩:=he
  rfl
theorem FB{L M:List aH}(h:L.map er=M.map er)(s:GStep): ∀(ks:List Nat) (n:Nat),kN L s ks n=kN M s ks n
 | [],_=>rfl
 | k::ks,n=>by
  unfold kN
  cases hx:L[k]? with
  | none =>
   have:M[k]?=none:=by
    rw[List.getElem?_eq_none_iff] at hx ⊢
    rw[<-Dm h];exact hx
   rw[this]
  | some x =>
   obtain⟨y,hy,he⟩:=S9 h hx
   rw[hy]
   dsimp only
   rw[FB h s ks (n+1)]
   obtain⟨_,_,_,_,_,_,_,_,_⟩:=x
   obtain⟨_,_,_,_,_,_,_,_,_⟩:=y
   simp only[er,rY,aH.mk.injEq,true_and] at he
   obtain⟨rfl,rfl,rfl,rfl,rfl,rfl,rfl⟩:=he
   rfl
theorem JU{L M:List aH}(h:L.map er=M.map er)(hk:∀ i,i<L.length->lN L i=lN M i): ∀(to:List GStep) (i:Nat),i<L.length->l9 L i to=l9 M i to
 | [],_,_=>rfl
 | s::to,i,hi=>by
  rw[l9,l9,FB h,hk i hi]
  cases hf:kN M s (lN M i) 0 with
  | none=>rfl
  | some k =>
   dsimp only
   exact JU h hk to k (by rw[Dm h];exact Di hf)
theorem Qq{L M:List aH}(h:L.map er=M.map er)(hk:∀ i,i<L.length->lN L i=lN M i)(hp:∀ i,i<L.length->jX L i=jX M i): ∀(n i:Nat),i<L.length->P4 L n i=P4 M n i
 | 0,_,_=>rfl
 | n+1,i,hi=>by
  have dj:=Ld L i
  rw[P4,P4,<-hp i hi]
  by_cases hc:jX L i<0
  ·rw[au hc,au hc]
  ·rw[ai hc,ai hc,QA h hk Zo,Qq h hk hp n _ Zo]
theorem Po{s t:GStep}(h:l5 s t=true)(n:Nat)(r:aH): sC s n r=sC t n r:=by
 obtain⟨k1,a1,n1⟩:=s
 obtain⟨k2,a2,n2⟩:=t
 cases n1<;>cases n2<;>simp[l5] at h<;>subst h<;>simp[sC]
theorem Aq{s t:GStep}(h:l5 s t=true)(L:List aH): ∀(ks:List Nat) (n:Nat),kN L s ks n=kN L t ks n
 | [],_=>rfl
 | k::ks,n=>by
  unfold kN
  cases L[k]? with
  | none=>rfl
  | some x=>dsimp only;rw[Po h,Aq h L ks (n+1)]
theorem Dj(L:List aH): ∀ {a b:List GStep},jR a b=true->∀ i,l9 L i a=l9 L i b
 | [],[],_,_=>rfl
 | [],_::_,h,_=>by cases h
 | _::_,[],h,_=>by cases h
 | x::a,y::b,h,i=>by
  rw[jR,aQ] at h
  rw[l9,l9,Aq h.1]
  cases kN L y (lN L i) 0 with
  | none=>rfl
  | some k=>exact Dj L h.2 k
theorem Ap{L:List aH}{s:GStep}: ∀ {ks:List Nat} {n q:Nat},kN L s ks n=some q->∃(m:Nat) (r:aH),ks[m]?=some q/\L[q]?=some r/\sC s (n+m) r=true
 | [],_,_,h=>by cases h
 | k::ks,n,q,h=>by
  unfold kN at h
  cases hx:L[k]? with
  | none=>rw[hx] at h;cases h
  | some r =>
   rw[hx] at h
   dsimp only at h
   split at h
   ·rename_i hf
    obtain rfl:=bI h
    exact⟨0,r,rfl,hx,hf⟩
   ·obtain⟨m,r',h1,h2,h3⟩:=Ap h
    exact⟨m+1,r',by rw[bg];exact h1,h2,by rw[show n+(m+1)=n+1+m by omega];exact h3⟩
theorem Pm{s:GStep}{m:Nat}{x:mg}{r:aH}(h1:r.nm=x.nm)(h2:r.name=x.name)(h:sC s m r=true): l5 (stepOf m x) s=true:=by
 obtain⟨k,a,n⟩:=s
 unfold sC at h
 rw[h1,h2] at h
 unfold stepOf
 cases n<;>cases hx:x.nm<;>rw[hx] at h<;>simp[l5] at h ⊢<;>exact h
theorem JS{aK:Int}(hg:0<aK){L:List aH}: ∀(to:List GStep) {g:aJ} {p:Nat} {now:Int} {pre:List GStep} {q:Nat},Loc aK L g p now pre->l9 L p to=q->∃ P h vR,Sub aK g p now P h q vR/\jR P to=true
 | [],g,p,now,pre,q,hl,h=>by
  have h:(p:Int)=q:=h
  obtain rfl:p=q:=by omega
  exact⟨[],g,now,.refl g p now,rfl⟩
 | s::to,g,p,now,pre,q,hl,h=>by
  rw[l9] at h
  cases hf:kN L s (lN L p) 0 with
  | none=>rw[hf] at h;dsimp only at h;omega
  | some k =>
   rw[hf] at h
   dsimp only at h
   obtain⟨m,r,h1,h2,h3⟩:=Ap hf
   rw[cG] at h3
   have hlen:(lN L p).length=(jt g).length:=(xV hg hl).1
   have hm:m<(jt g).length:=by
    have:=(ah.1 h1).1
    omega
   have hx:(jt g)[m]?=some (jt g)[m]:=aa hm
   rw[hl.xV hg hm] at h1
   obtain rfl:=bI h1
   obtain⟨r',e1,e2,e3⟩:=hl.Gz hg hx
   rw[e1] at h2
   obtain rfl:=bI h2
   obtain⟨P,h',vR,hs,hP⟩:=JS hg to (hl.kid hg hx).1 h
   refine⟨_,h',vR,.step hx hs,?_⟩
   rw[jR,Pm e2 e3 h3,hP]
   rfl
def yR (L:List aH) (to:List GStep):Nat->Nat->Int
 | 0,_ => -1
 | n+1,k=>if jR (jz L k) to then k else yR L to n (k+1)
def Lb (L:List aH) (to:List GStep):Int:=yR L to L.length 0
theorem zX{L:List aH}{to:List GStep}: ∀(n k:Nat),(∀ j,k<=j->j<k+n->jR (jz L j) to=false)->yR L to n k = -1
 | 0,_,_=>rfl
 | n+1,k,h=>by
  rw[yR,h k (aq _) Zo,ai (by simp)]
  exact zX n (k+1) fun j h1 h2=>h j Zo Zo
theorem zW{L:List aH}{to:List GStep}{q:Nat}(hq:jR (jz L q) to=true): ∀(n k:Nat),k<=q->q<k+n->(∀ j,k<=j->j<q->jR (jz L j) to=false)->yR L to n k=q
 | 0,k,h1,h2,_=>by omega
 | n+1,k,h1,h2,h=>by
  rw[yR]
  by_cases hk:k=q
  ·subst hk
   rw[au hq]
  ·rw[h k (aq _) Zo,ai (by simp)]
   exact zW hq n (k+1) Zo Zo fun j h3 h4=>h j Zo h4
theorem QY{L:List aH}{g:aJ}{lo hi:Int}(hl:jf g 0 false bF lo L hi)(hw:g.wf)(hk:nX g)(mK:rl g 0)(to:List GStep): l9 L 0 to=Lb L to:=by
 have H:=hl.Mj
 have JB:=Gx (hl.vT hw mK)
 have VF:=hl.At hw 1 0
 have hS:=EL (aK:=1) Zo hw 0 false bF 0
 have HS:=hS.Mj
 have an5:=Gx (hS.vT hw mK)
 have hlen:=Dm VF
 have af6:=ta 1 g 0 false bF 0 hw
 have xi:∀ i,i<L.length->lN L i=lN (bG 1 g 0 false bF 0).1 i:=fun i hi=>by
  rw[Cg H JB hi,Cg HS an5 Zo,Ow VF]
 have hpr:∀ i,i<L.length->jX L i=jX (bG 1 g 0 false bF 0).1 i:=fun i hi=>by
  rw[xB H hi,xB HS Zo,OU VF]
 have mT:0<L.length:=by
  cases hl with
  | mk=>simp
 have px:∀ i,i<L.length->rK L i=rK (bG 1 g 0 false bF 0).1 i:=fun i hi=>by
  unfold rK
  rw[Qq VF xi hpr _ i hi]
 have Hy:l9 L 0 to=l9 (bG 1 g 0 false bF 0).1 0 to:=JU VF xi to 0 mT
 have Xa:∀ i,i<L.length->jR (jz L i) to=true->l9 L 0 to=i:=by
  intro i hi hs
  obtain⟨h,now,h1,h2⟩:=On (aK:=1) Zo (nm:=false) (name:=bF) hw hk (i:=i) Zo
  have h3:=RR (aK:=1) Zo h1 (uJ (nm:=false) (name:=bF) hw hk)
  have h4:=q9 (EU H JB hi) hs
  rw[px i hi] at h4
  rw[Hy,<-Dj _ h4,h3]
 unfold Lb
 by_cases JD:∃ q:Nat,l9 L 0 to=q
 ·obtain⟨q,hq⟩:=JD
  have zk:=hq
  rw[Hy] at zk
  obtain⟨P,h,vR,hs,hP⟩:=JS (aK:=1) Zo to (uJ (nm:=false) (name:=bF) hw hk) zk
  have hql:q<L.length:=by
   obtain⟨_,_,e⟩:=(Loc.sub Zo hs (uJ (nm:=false) (name:=bF) hw hk)).aa6
   have:=(ah.1 e).1
   omega
  have al2:rK L q=P:=by
   rw[px q hql]
   unfold rK
   have:=(Loc.sub Zo hs (uJ (nm:=false) (name:=bF) hw hk)).place (q+1) Zo
   rw[this,cF,List.reverse_reverse]
  have hsq:jR (jz L q) to=true:=by
   rw[<-Iw (EU H JB hql),al2]
   exact hP
  rw[hq,zW hsq L.length 0 (ay _) Zo fun j _ hj=>?_]
  cases hc:jR (jz L j) to with
  | false=>rfl
  | true =>
   have:=Xa j Zo hc
   omega
 ·have Al:l9 L 0 to = -1:=by
   have:∀(to:List GStep) (i:Nat),(∃ q:Nat,l9 L i to=q)\/l9 L i to = -1:=by
    intro to
    induction to with
    | nil=>intro i;exact .inl ⟨i,rfl⟩
    | cons s to ih =>
     intro i
     rw[l9]
     cases kN L s (lN L i) 0 with
     | none=>exact .inr rfl
     | some k=>exact ih k
   rcases this to 0 with h | h
   ·exact absurd h JD
   ·exact h
  rw[Al,zX]
  intro j _ hj
  cases hc:jR (jz L j) to with
  | false=>rfl
  | true=>exact absurd ⟨j,Xa j Zo hc⟩ JD
theorem uy{L:List aH}(h:eG L=true): A6 L/\Ks L/\∀ to,l9 L 0 to=Lb L to:=by
 obtain⟨hl,hw,-⟩:=rZ h
 have hs:=(r9 h).2.2.2.2
 have mK:=(Iu.1 hs).1
 exact⟨hl.Mj,Gx (hl.vT hw mK),fun to=>QY hl hw (EO _ 0 0 hs) mK to⟩
end Go.Sy
namespace Go.Sy
open Go.Proofs
structure RbS where
 σ:al
 m:Nat
 k:Nat
 ls:List aJ
 lr:List (List AT)
 la:Option Addr
 lc:Nat
 ks:List ByteArray
 vs:List aJ
 vr:List (List AT)
 ma:Option Addr
 mc:Nat
def xE (r:aH) (s:RbS):List AT:=[.v (.int .i64 r.kd),.b r.b,.b r.n.neg,.v (.string r.n.dg),.v (.int .i64 r.n.ex),.v (.string r.s),.v (.slice s.la s.ls.length s.lc),.v (.slice s.ma s.ks.length s.mc)]
def rbA (s:RbS):List AE:=[⟨s.la,s.ls.length,s.lc,28,8,s.lr.flatten.map AT.val⟩,⟨s.ma,s.ks.length,s.mc,184,9,(ig s.ks s.vr).flatten.map AT.val⟩]
theorem Q3(L:List aH)(hF:qj L)(hL:L.length<=100000)(ao:Option Addr)(cap:Nat): ∀(n:Nat) (σ:al) (k:Nat),bu σ ao L.length cap 11 (cv L)->k<L.length->2*(L.drop k).length<=n ->
  fa Tryz.prog 154 [.a (.v (.slice ao L.length cap)),.a (.v (.int .i64 k))] σ (fun v bD=>∃ r k',v=(SV.ik [.agg r,.a (.v (.int .i64 (k':Nat)))]).den fy/\eQ bD (eY n (L.drop k)).1 r/\L.drop k'=(eY n (L.drop k)).2/\k<k'/\k'<=L.length):=by
 intro n
 induction n using Nat.strongRecOn with | _ n ih=>?_
 intro σ k H hk hn
 have DW:(L.drop k).length=L.length - k:=bm
 obtain⟨n,rfl⟩:∃ m,n=m+1:=⟨n - 1,by omega⟩
 have Pe:L.drop k=L[k]::L.drop (k+1):=aB hk
 have bU:(cv L)[k]?=some (di L[k]):=dn (aa hk)
 have lj:=hF _ (aP hk)
 have mC:=H.pn
 rw[Pe,eY]
 generalize hx:L[k]=x at *
 dsimp only
 refine ek Tryz.func154 Z Z Zl fun w=>?_
 refine Za ?_
 refine bk TT Z Z Z Z Z Z Z Z Z H Zo bU (Zr ?_)
 refine Zg ?_
 refine dV 28 8 (dV 184 9 ?_)
 refine fm (fun(s:RbS)=>s.σ) (fun s=>[(7,.a (.p 3 0)),(8,.a (.v (.int .i64 s.k))),(4,.a (.p 0 0))])
  (fun s=>[(0,.loc 28,zeroV),(3,.loc 28,xE x s)]) rbA 4
  (fun s=>σ.le s.σ/\s.ls=(dQ n x.lv (L.drop (k+1))).ls/\s.ks=(dQ n x.lv (L.drop (k+1))).ks/\s.vs=(dQ n x.lv (L.drop (k+1))).vs/\L.drop s.k=(dQ n x.lv (L.drop (k+1))).rest /\
   fJ s.σ s.ls s.lr/\fJ s.σ s.vs s.vr/\s.ks.length=s.vs.length/\k<s.k/\s.k<=L.length/\s.ls.length+s.ks.length<=L.length/\(∀ y∈s.ks,y.size<=bJ)/\s.ls.length<=s.lc/\s.ks.length<=s.mc) ?_
  (fun s ⟨hs,e1,e2,e3,e4,De,Ex,yw,zm,yx,hlen,GO,vV,Bq⟩=>?_)
 ·refine bX (fun(s:RbS)=>s.σ) (fun s=>[(0,.a (.v (.slice ao L.length cap))),(6,.a (.p 2 0)),(7,.a (.p 3 0)),(8,.a (.v (.int .i64 s.k))),(4,.a (.p 0 0))])
   (fun s=>[(0,.loc 28,zeroV),(2,.loc 131,di x),(3,.loc 28,xE x s)]) rbA 4
   (fun s=>σ.le s.σ/\s.ls++(dQ s.m x.lv (L.drop s.k)).ls=(dQ n x.lv (L.drop (k+1))).ls/\s.ks++(dQ s.m x.lv (L.drop s.k)).ks=(dQ n x.lv (L.drop (k+1))).ks/\s.vs++(dQ s.m x.lv (L.drop s.k)).vs=(dQ n x.lv (L.drop (k+1))).vs /\
    (dQ s.m x.lv (L.drop s.k)).rest=(dQ n x.lv (L.drop (k+1))).rest/\s.m<=n/\2*(L.drop s.k).length+1<=s.m /\
    fJ s.σ s.ls s.lr/\fJ s.σ s.vs s.vr/\s.ks.length=s.vs.length/\k<s.k/\s.k<=L.length/\s.ls.length+s.ks.length+(L.length - s.k)<=L.length/\(∀ y∈s.ks,y.size<=bJ)/\s.ls.length<=s.lc/\s.ks.length<=s.mc)
   (fun s=>L.length - s.k) ⟨σ,n,k+1,[],[],none,0,[],[],[],none,0⟩ ⟨al.le_refl _,rfl,rfl,rfl,rfl,aq _,by dsimp only;rw[bm];omega,rfl,rfl,rfl,by dsimp only;omega,by dsimp only;omega,by dsimp only[List.length_nil];omega,fun y h=>(by cases h),aq _,aq _⟩
   rfl Zs Zs rfl Zl Zl fun⟨s,m,k1,ls,lr,la,lc,ks,vs,vr,ma,mc⟩ ⟨hs,e1,e2,e3,e4,hm,Nn,De,Ex,yw,zm,yx,hlen,GO,vV,Bq⟩=>?_
  dsimp only at hs e1 e2 e3 e4 hm Nn De Ex yw zm yx hlen GO vV Bq ⊢
  obtain⟨m,rfl⟩:∃ m',m=m'+1:=⟨m - 1,by omega⟩
  refine Za ?_
  refine ck [(0,.pure),(1,.pure),(2,.pure),(3,.pure),(4,.pure),(5,.pure),(6,.pure),(7,.pure),(8,.pure),(9,.quiet),(10,.pure),(11,.quiet),(12,.pure),(13,.pure)] mixed Zk (aM TT rfl ?_)
  refine ax 30 rfl (fun h=>?_) (fun h=>?_)
  rotate_left
  ·have fQ:k1=L.length:=by have:=ab h;omega
   subst fQ
   rw[bC,dQ] at e1 e2 e3 e4
   simp only[aL] at e1 e2 e3
   refine D2 ?_
   refine an ⟨s,m,L.length,ls,lr,la,lc,ks,vs,vr,ma,mc⟩ ⟨hs,e1,e2,e3,by dsimp only;rw[bC];exact e4,De,Ex,yw,zm,yx,by dsimp only;omega,GO,vV,Bq⟩ aj rfl Zs Zs rfl Zl Zl
  have cz:k1<L.length:=by have:=ae h;omega
  have Ev:L.drop k1=L[k1]::L.drop (k1+1):=aB cz
  have oC:(cv L)[k1]?=some (di L[k1]):=dn (aa cz)
  have Sz:=hF _ (aP cz)
  generalize hy:L[k1]=y at *
  rw[Ev,dQ] at e1 e2 e3 e4
  refine Zr ?_
  refine bk TT Z Z Z Z Z Z Z Z Z (H.mono hs) Zo oC (Zr ?_)
  refine Za ?_
  refine aG rfl (fun h=>?_) (fun h=>?_)
  rotate_left
  ·have ud:¬ x.lv<y.lv:=ab h
   simp only[ai ud,aL] at e1 e2 e3 e4
   refine Ze ?_
   refine an ⟨s,m,k1,ls,lr,la,lc,ks,vs,vr,ma,mc⟩ ⟨hs,e1,e2,e3,by dsimp only;rw[Ev];exact e4,De,Ex,yw,zm,yx,by dsimp only;omega,GO,vV,Bq⟩ aj rfl Zs Zs rfl Zl Zl
  have ud:x.lv<y.lv:=ae h
  rw[au ud] at e1 e2 e3 e4
  refine Zd ?_
  have af4:(L.drop k1).length=L.length - k1:=bm
  refine bN Z Z Z Z Z Tryz.call154 ⟨trivial,trivial,trivial⟩ (ih m Zo s k1 (H.mono hs) cz Zo) fun v nC cw ⟨rr,k2,hv,oV,mS,ae9,LY⟩=>⟨.ik [.agg rr,.a (.v (.int .i64 k2))],SV.iv ⟨oV.qv,trivial,trivial⟩,hv.symm,?_⟩
  rw[Ev] at oV mS
  rw[<-mS] at e1 e2 e3 e4
  generalize (eY m (y::L.drop (k1+1))).1=gx at *
  obtain⟨Ut,Us,F3,Ur,Uq,F0,rfl,XV⟩:=oV.open
  have af3:(L.drop k2).length=L.length - k2:=bm
  have mR:=al.le_trans hs cw
  have SJ:=De.mono cw
  have SI:=Ex.mono cw
  have DU:=De.len
  have hvr:=Ex.len
  refine gX ?_
  refine bk TT Z Z Z Z Z Z Z Z Z (H.mono mR) Zo oC (Zr ?_)
  refine Za ?_
  refine aG rfl (fun h=>?_) (fun h=>?_)
  ·simp only[au (show y.nm=true from h)] at e1 e2 e3 e4
   refine Za ?_
   refine ck [(0,.pure),(1,.quiet),(2,.pure),(3,.pure),(4,.pure),(5,.pure),(6,.quiet),(7,.quiet),(8,.pure),(9,.dP),(10,.sink),(11,.pure),(12,.sink)] mixed Zk (aM TT rfl ?_)
   refine bk TT Z Z Z Z Z Z Z Z Z (H.mono mR) Zo oC (Zr ?_)
   refine bl TT 1 Z Z Z Z Z Z Z Z Z Z Z Z Z Z Z Z Z Z Zl rfl Zo (by show(ks.length+1)*128<=_;omega) fun iB dk gS=>aM TT rfl ?_
   refine Zg ?_
   refine an ⟨nC,m,k2,ls,lr,la,lc,ks++[y.name],vs++[gx],vr++[dN gx Ut Us Ur Uq],iB,dk⟩
    ⟨mR,e1,by rw[av];exact e2,by rw[av];exact e3,e4,by dsimp only;omega,by dsimp only;omega,SJ,fJ.append SI ⟨_,_,rfl,oV,rfl⟩,by simp[yw],by dsimp only;omega,LY,by dsimp only;rw[af,b8];omega,
     fun z hz=>by
      rcases bz.1 hz with hz | hz
      ·exact GO z hz
      ·rw[aU.1 hz];exact Sz.2.2,vV,by dsimp only;rw[af];exact gS⟩ (by dsimp only;omega) rfl Zs ?_ ?_ Zl Zl
   ·refine⟨rfl,rfl,?_,trivial⟩
    show some _=some _
    unfold xE
    rw[af]
    rfl
   ·unfold rbA
    dsimp only
    rw[tn _ _ _ _ Zo,af]
    simp only[fj,aF,dx,List.flatten_nil,aL]
    rfl
  ·simp only[ai (show ¬ y.nm=true by simp[show y.nm=false from h])] at e1 e2 e3 e4
   refine Za ?_
   refine bl TT 0 Z Z Z Z Z Z Z Z Z Z Z Z Z Z Z Z Z Z Zl rfl Zo (by show(ls.length+1)*112<=_;omega) fun iB dk gS=>aM TT rfl ?_
   refine Zg ?_
   refine an ⟨nC,m,k2,ls++[gx],lr++[dN gx Ut Us Ur Uq],iB,dk,ks,vs,vr,ma,mc⟩
    ⟨mR,by rw[av];exact e1,e2,e3,e4,by dsimp only;omega,by dsimp only;omega,fJ.append SJ ⟨_,_,rfl,oV,rfl⟩,SI,yw,by dsimp only;omega,LY,by dsimp only;rw[af,b8];omega,
     GO,by dsimp only;rw[af];exact gS,Bq⟩ (by dsimp only;omega) rfl Zs ?_ ?_ Zl Zl
   ·refine⟨rfl,rfl,?_,trivial⟩
    show some _=some _
    unfold xE
    rw[af]
    rfl
   ·unfold rbA
    dsimp only
    rw[af]
    simp only[fj,aF,dx,List.flatten_nil,aL]
    rfl
 obtain⟨s,m,k1,ls,lr,la,lc,ks,vs,vr,ma,mc⟩:=s
 dsimp only at hs e1 e2 e3 e4 De Ex yw zm yx hlen GO vV Bq ⊢
 rw[<-e1,<-e2,<-e3,<-e4]
 clear e1 e2 e3 e4
 have DU:=De.len
 have hvr:=Ex.len
 refine Zb ?_
 refine dD 0 Z Z fun lQ cP x4=>?_
 refine dD 0 Z Z fun nC cw Fy=>?_
 refine aw TT rfl fun β w' _ _=>?_
 have S1:=(x4.sl (rows:=lr) (sz:=8) rfl (fun r hr=>⟨(De.rows r hr).1,(De.rows r hr).2.1⟩) DU rfl vV).mono cw
 have S2:=Fy.sl (rows:=ig ks vr) (sz:=9) (n:=ks.length) rfl (fun r hr=>?_) (pt Zo) rfl Bq
 ·refine⟨xE x ⟨s,m,k1,ls,lr,la,lc,ks,vs,vr,ma,mc⟩,k1,rfl,?_,rfl,zm,yx⟩
  simp only[eQ]
  exact⟨la,lc,lr,ma,mc,vr,rfl,S1,(De.mono cP).mono cw,yw,S2,(Ex.mono cP).mono cw,lj.1,lj.2.1,by simp only[bJ];omega,by simp only[bJ];omega,GO⟩
 ·obtain⟨j,hj⟩:=List.getElem?_of_mem hr
  have m2:=(ah.1 hj).1
  rw[pt Zo] at m2
  have hg:=ia (aa m2) (aa (l:=vr) (i:=j) Zo)
  rw[hg] at hj
  injection hj with hj
  subst hj
  have:=Ex.rows _ (aP (l:=vr) (n:=j) Zo)
  exact⟨by simp[qJ,this.1],zh this.2.1⟩
end Go.Sy
namespace Go.Sy
open Go.Proofs
mutual
theorem vq: ∀(n:Nat) (l:List aH),2*l.length<=n->0<l.length->(sd n l).2.length<l.length/\(sd n l).1.length+2*(sd n l).2.length=2*l.length
 | 0,l,h,h0=>by omega
 | n+1,[],h,h0=>by simp at h0
 | n+1,r::l,h,h0=>by
  rw[List.length_cons] at h
  have:=yU n r.lv l Zo
  simp only[sd,List.length_cons,af,List.length_nil]
  omega
theorem yU: ∀(n:Nat) (lv:Int) (l:List aH),2*l.length+1<=n->(rL n lv l).2.length<=l.length/\(rL n lv l).1.length+2*(rL n lv l).2.length=2*l.length
 | 0,_,l,h=>by omega
 | n+1,_,[],h=>by simp[rL]
 | n+1,lv,k::l,h=>by
  rw[List.length_cons] at h
  rw[rL]
  split
  ·have h1:=vq n (k::l) (by rw[List.length_cons];omega) (by simp)
   rw[List.length_cons] at h1
   have h2:=yU n lv (sd n (k::l)).2 Zo
   simp only[List.length_cons,af]
   omega
  ·simp
end
structure ah0 where
 σ:al
 m:Nat
 k:Nat
 o:List Int
 oo:Option Addr
 oc:Nat
theorem LI(l:List Int): ∀ r∈kK l,r.all AT.one=true:=by
 intro r hr
 obtain⟨x,_,rfl⟩:=bL.1 hr
 rfl
theorem ON(L:List aH)(hL:L.length<=100000)(ao:Option Addr)(cap:Nat): ∀(n:Nat) (σ:al) (k:Nat),bu σ ao L.length cap 11 (cv L)->k<L.length->2*(L.drop k).length<=n ->
  fa Tryz.prog 203 [.a (.v (.slice ao L.length cap)),.a (.v (.int .i64 k))] σ (fun v bD=>∃ oo oc k',v=(SV.ik [.a (.v (.slice oo (sd n (L.drop k)).1.length oc)),.a (.v (.int .i64 (k':Nat)))]).den fy/\bu bD oo (sd n (L.drop k)).1.length oc 1 (kK (sd n (L.drop k)).1)/\L.drop k'=(sd n (L.drop k)).2/\k<k'/\k'<=L.length):=by
 intro n
 induction n using Nat.strongRecOn with | _ n ih=>?_
 intro σ k H hk hn
 have DW:(L.drop k).length=L.length - k:=bm
 have qu:=(vq n (L.drop k) hn Zo).2
 obtain⟨n,rfl⟩:∃ m,n=m+1:=⟨n - 1,by omega⟩
 have Pe:L.drop k=L[k]::L.drop (k+1):=aB hk
 have bU:(cv L)[k]?=some (di L[k]):=dn (aa hk)
 rw[Pe,sd] at qu ⊢
 generalize hx:L[k]=x at *
 dsimp only at qu ⊢
 refine ek Tryz.func203 Z Z Zl fun w=>?_
 refine Za ?_
 refine bk TT Z Z Z Z Z Z Z Z Z H Zo bU (Zr ?_)
 refine Zg ?_
 refine zM 1 1 1 rfl Zl rfl (by decide) fun g0=>?_
 refine Za ?_
 refine fm (fun(s:ah0)=>s.σ) (fun s=>[(0,.a (.v (.slice ao L.length cap))),(1,.a (.v (.int .i64 k))),(6,.a (.v (.slice s.oo s.o.length s.oc))),(7,.a (.v (.int .i64 s.k)))])
  (fun _=>[]) (fun s=>[Fv s.oo s.oc s.o]) 0
  (fun s=>σ.le s.σ/\s.o=x.st::(rL n x.lv (L.drop (k+1))).1/\L.drop s.k=(rL n x.lv (L.drop (k+1))).2/\k<s.k/\s.k<=L.length/\s.o.length<=s.oc) ?_
  (fun s ⟨hs,e1,e2,zm,yx,j6⟩=>?_)
 ·refine bX (fun(s:ah0)=>s.σ) (fun s=>[(0,.a (.v (.slice ao L.length cap))),(1,.a (.v (.int .i64 k))),(6,.a (.v (.slice s.oo s.o.length s.oc))),(7,.a (.v (.int .i64 s.k)))])
   (fun _=>[]) (fun s=>[Fv s.oo s.oc s.o]) 0
   (fun s=>σ.le s.σ/\s.o++(rL s.m x.lv (L.drop s.k)).1=x.st::(rL n x.lv (L.drop (k+1))).1/\(rL s.m x.lv (L.drop s.k)).2=(rL n x.lv (L.drop (k+1))).2/\s.m<=n/\2*(L.drop s.k).length+1<=s.m/\k<s.k/\s.k<=L.length/\s.o.length<=s.oc/\s.o.length<=2*L.length)
   (fun s=>L.length - s.k) ⟨σ,n,k+1,[x.st],some ⟨g0,0,none⟩,1⟩ ⟨al.le_refl _,rfl,rfl,aq _,by dsimp only;rw[bm];omega,by dsimp only;omega,by dsimp only;omega,aq _,by show(1:Nat)<=2*L.length;omega⟩
   rfl Zs Zs rfl Zl Zl fun⟨s,m,k1,o,oo,oc⟩ ⟨hs,e1,e2,hm,Nn,zm,yx,j6,Hs⟩=>?_
  dsimp only at hs e1 e2 hm Nn zm yx j6 Hs ⊢
  obtain⟨m,rfl⟩:∃ m',m=m'+1:=⟨m - 1,by omega⟩
  refine Za ?_
  refine ck [(0,.pure),(1,.pure),(2,.pure),(3,.pure),(4,.pure),(5,.pure),(6,.pure),(7,.pure),(8,.pure),(9,.quiet),(10,.pure),(11,.pure),(12,.pure),(13,.pure),(14,.quiet),(15,.pure),(16,.pure)] mixed Zk (aM TT rfl ?_)
  refine ax 22 rfl (fun h=>?_) (fun h=>?_)
  rotate_left
  ·have fQ:k1=L.length:=by have:=ab h;omega
   subst fQ
   rw[bC,rL] at e1 e2
   simp only[aL] at e1
   refine D2 ?_
   refine an ⟨s,m,L.length,o,oo,oc⟩ ⟨hs,e1,by dsimp only;rw[bC];exact e2,zm,yx,j6⟩ aj rfl Zs Zs rfl Zl Zl
  have cz:k1<L.length:=by have:=ae h;omega
  have Ev:L.drop k1=L[k1]::L.drop (k1+1):=aB cz
  have oC:(cv L)[k1]?=some (di L[k1]):=dn (aa cz)
  generalize hy:L[k1]=y at *
  rw[Ev,rL] at e1 e2
  refine Zr ?_
  refine bk TT Z Z Z Z Z Z Z Z Z (H.mono hs) Zo oC (Zr ?_)
  refine bk TT Z Z Z Z Z Z Z Z Z (H.mono hs) Zo bU (Zr ?_)
  refine Za ?_
  refine aG rfl (fun h=>?_) (fun h=>?_)
  rotate_left
  ·have ud:¬ x.lv<y.lv:=ab h
   simp only[ai ud,aL] at e1 e2
   refine Ze ?_
   refine an ⟨s,m,k1,o,oo,oc⟩ ⟨hs,e1,by dsimp only;rw[Ev];exact e2,zm,yx,j6⟩ aj rfl Zs Zs rfl Zl Zl
  have ud:x.lv<y.lv:=ae h
  rw[au ud] at e1 e2
  refine Zd ?_
  have af4:(L.drop k1).length=L.length - k1:=bm
  have ov:=vq m (L.drop k1) Zo Zo
  have Su:=yU m x.lv (sd m (L.drop k1)).2 Zo
  have tA:=aN List.length e1
  rw[<-Ev] at e1 e2 tA
  simp only[af,List.length_cons,List.length_nil,bm] at tA qu ov
  refine bN Z Z Z Z Z Tryz.call203 ⟨trivial,trivial,trivial⟩ (ih m Zo s k1 (H.mono hs) cz Zo) fun v nC cw ⟨qo,qc,k2,hv,HQ,mS,ae9,LY⟩=>⟨.ik [.a (.v (.slice qo (sd m (L.drop k1)).1.length qc)),.a (.v (.int .i64 k2))],Zl,hv.symm,?_⟩
  rw[<-mS] at e1 e2 ov
  generalize (sd m (L.drop k1)).1=q at *
  have af3:(L.drop k2).length=L.length - k2:=bm
  have mR:=al.le_trans hs cw
  refine gX ?_
  refine dC TT 0 Z Z Z Z Z Z Z HQ Z Z Z Z Z Z Z Z Z (LI q) Zo (by show(o.length+q.length)*8<=_;omega) fun iB dk gS=>aM TT rfl ?_
  refine Zg ?_
  refine an ⟨nC,m,k2,o++q,iB,dk⟩
   ⟨mR,by rw[av];exact e1,e2,by dsimp only;omega,by dsimp only;omega,by dsimp only;omega,LY,by dsimp only;rw[af];exact gS,by dsimp only;rw[af];omega⟩ (by dsimp only;omega) rfl ?_ Zs ?_ Zl Zl
  ·dsimp only
   rw[af]
   (repeat first | exact trivial | refine⟨rfl,?_⟩)
  ·unfold Fv
   dsimp only
   rw[af,<-uM]
   unfold CV
   rw[aF]
   rfl
 obtain⟨s,m,k1,o,oo,oc⟩:=s
 dsimp only at hs e1 e2 zm yx j6 ⊢
 have Hs:=aN List.length e1
 simp only[af,List.length_cons,List.length_nil,bm] at Hs qu
 have e3:x.st::((rL n x.lv (L.drop (k+1))).1++[x.en])=o++[x.en]:=by rw[e1];rfl
 rw[e3,<-e2]
 refine Za ?_
 refine bk TT Z Z Z Z Z Z Z Z Z (H.mono hs) Zo bU (Zr ?_)
 refine bl TT 0 Z Z Z Z Z Z Z Z Z Z Z Z Z Z Z Z Z Z Zl rfl Zo (by show(o.length+1)*8<=_;omega) fun iB dk gS=>aM TT rfl ?_
 refine Zb ?_
 refine dD 0 Z Z fun lQ cP hS=>?_
 refine aw TT rfl fun β w' _ _=>?_
 have hl:(o++[x.en]).length=o.length+1:=by rw[af];rfl
 have hS:b9 lQ (Fv iB dk (o++[x.en])):=by
  unfold Fv
  rw[hl]
  have:CV (o++[x.en])=CV o++[.int .i64 x.en]:=by unfold CV;rw[aF];rfl
  rw[this]
  exact hS
 rw[hl]
 refine⟨iB,dk,k1,rfl,?_,rfl,zm,yx⟩
 rw[<-hl]
 exact sk hS (by rw[hl];exact gS)
end Go.Sy
namespace Go.Sy
open Go.Proofs
mutual
theorem Ki: ∀(n:Nat) (l:List aH),2*l.length<=n->0<l.length->(eY n l).1.weight+gJ (eY n l).2<=gJ l
 | 0,l,h,h0=>by omega
 | n+1,[],h,h0=>by simp at h0
 | n+1,r::l,h,h0=>by
  rw[List.length_cons] at h
  have:=Gy n r.lv l Zo
  rw[eY]
  dsimp only
  rw[aJ.weight,gJ,D9]
  omega
theorem Gy: ∀(n:Nat) (lv:Int) (l:List aH),2*l.length+1<=n->aJ.weights (dQ n lv l).ls+mQ (dQ n lv l).ks+aJ.weights (dQ n lv l).vs+gJ (dQ n lv l).rest+(dQ n lv l).ks.length<=gJ l+(dQ n lv l).ks.length
 | 0,_,l,h=>by omega
 | n+1,_,[],h=>by simp[dQ,aJ.weights,mQ]
 | n+1,lv,k::l,h=>by
  rw[List.length_cons] at h
  have h1:=Ki n (k::l) (by rw[List.length_cons];omega) (by simp)
  have h3:=Ay n (k::l) (by rw[List.length_cons];omega) (by simp)
  rw[List.length_cons] at h3
  have h2:=Gy n lv (eY n (k::l)).2 Zo
  rw[dQ]
  by_cases hl:lv<k.lv
  ·rw[au hl]
   by_cases hn:k.nm=true
   ·rw[au hn]
    dsimp only
    simp only[mQ,aJ.weights]
    have h4:(eY n (k::l)).1.weight+k.name.size+gJ (eY n (k::l)).2<=gJ (k::l):=by
     obtain⟨n,rfl⟩:∃ m,n=m+1:=⟨n - 1,by omega⟩
     have:=Gy n k.lv l Zo
     rw[eY]
     dsimp only
     rw[aJ.weight,gJ,D9]
     omega
    omega
   ·rw[ai hn]
    dsimp only
    simp only[aJ.weights]
    omega
  ·rw[ai hl]
   simp[aJ.weights,mQ]
end
theorem Kj{L:List aH}(h:0<L.length): (fB L).1.weight<=gJ L:=by
 have:=Ki (jb L) L (by unfold jb;omega) h
 unfold fB
 omega
theorem EX{L:List aH}{r:aH}(h:r∈L): D9 r<=gJ L:=by
 induction L with
 | nil=>cases h
 | cons x l ih =>
  rw[gJ]
  rcases bM.1 h with rfl | h
  ·omega
  ·have:=ih h;omega
theorem Bb{L:List aH}(h:gJ L<=100000): rT L:=by
 have hl:=yN L
 refine⟨by simp only[bJ];omega,fun r hr=>?_,fun hn=>?_⟩
 ·have:=EX hr
  rw[D9] at this
  simp only[bJ]
  omega
 ·have mT:0<L.length:=by
   unfold gK at hn
   simp only[aQ,aX] at hn
   omega
  have:=Kj mT
  omega
def Ah (L:List aH) (k:Nat):Bool:=if k=0 then vT L else AM (xR L (k - 1)) (L.drop k)
theorem OX{L:List aH}: Ah L L.length=true:=by
 unfold Ah
 split
 ·rename_i h
  rw[aY h]
  rfl
 ·rw[bC]
  rfl
theorem Lv{L:List aH}{k:Nat}(h:k<L.length): Ah L k=(decide (0<=L[k].lv)&&decide (L[k].lv<=64)&&(decide (k=0)||decide (L[k].lv<=xR L (k - 1)+1)&&decide (L[k].lv≠0))&&Ah L (k+1)):=by
 have h1:Ah L (k+1)=AM L[k].lv (L.drop (k+1)):=by
  unfold Ah
  rw[ai Zo,Nat.add_sub_cancel,qG (aa h)]
 rw[h1]
 unfold Ah
 by_cases hk:k=0
 ·subst hk
  rw[au rfl]
  have hL:L=L[0]::L.drop 1:=by
   have:=aB h
   rw[cJ] at this
   exact this
  generalize hx:L[0]=x at *
  conv=>lhs;rw[hL]
  unfold vT
  simp
 ·rw[ai hk,aB h,AM,b7 hk,Bool.false_or]
  simp only[Bool.and_assoc]
def Kp (l:List Int) (k:Nat):Bool:=EB (if k=0 then -1 else l.getD (k - 1) 0) (l.drop k)
theorem Mq{l:List Int}{k:Nat}(h:k<l.length): Kp l k=(decide ((if k=0 then -1 else l.getD (k - 1) 0)<l[k])&&Kp l (k+1)):=by
 unfold Kp
 rw[aB h,EB,ai (show ¬ k+1=0 by omega),Nat.add_sub_cancel,jn,jn,aa h]
 rfl
theorem Ta(a b:aH): (⟨b.st,b.en,a.lv,a.kd,a.nm,a.name,a.b,a.n,a.s⟩:aH)=b↔er a=er b:=by
 obtain⟨_,_,_,_,_,_,_,_,_⟩:=a
 obtain⟨_,_,_,_,_,_,_,_,_⟩:=b
 simp[er,rY]
theorem DP(σ:al)(L:List aH)(hW:gJ L<=100000)(ao:Option Addr)(cap:Nat)(H:bu σ ao L.length cap 11 (cv L)):
  bZ Tryz.prog 143 [.a (.v (.slice ao L.length cap))] σ (fun v=>v=.bool (kp L)):=by
 have hLW:=yN L
 have R:=Bb hW
 refine bW Tryz.func143 Z Z Zl fun w=>?_
 refine Za ?_
 refine ax 16 rfl (fun h=>?_) (fun h=>?_)
 ·have h1:L.length=0:=by have:=ae h;omega
  refine gn ?_
  refine aw TT rfl fun β w' _ _=>?_
  unfold kp
  rw[au (.inl h1)]
  rfl
 have h1:L.length≠0:=by have:=ab h;omega
 refine gX ?_
 refine aG rfl (fun h=>?_) (fun h=>?_)
 ·have h2:5000<L.length:=by have:=ae h;omega
  refine Zb ?_
  refine aw TT rfl fun β w' _ _=>?_
  unfold kp
  rw[au (.inr h2)]
  rfl
 have h2:¬ 5000<L.length:=by have:=ab h;omega
 have g1:¬ (L.length=0\/5000<L.length):=by omega
 refine Zd ?_
 refine fm (fun(_:Unit)=>σ) (fun _=>[(0,.a (.v (.slice ao L.length cap)))]) (fun _=>[]) (fun _=>[]) 0 (fun _=>vT L=true) ?_ (fun _ GM=>?_)
 ·refine bX (fun(_:Nat)=>σ) (fun k=>[(0,.a (.v (.slice ao L.length cap))),(3,.a (.v (.int .i64 k)))]) (fun _=>[]) (fun _=>[]) 0
   (fun k=>k<=L.length/\Ah L k=vT L/\(0<k->0<=xR L (k - 1)/\xR L (k - 1)<=64)) (fun k=>L.length - k) 0 ⟨ay _,rfl,fun h=>by omega⟩ rfl Zs Zs rfl Zl Zl fun k ⟨hk,hp,Sf⟩=>?_
  have bad:vT L=false->Value.bool false=.bool (kp L):=fun h=>by
   unfold kp
   rw[ai g1,au h]
  refine Za ?_
  refine aG rfl (fun h=>?_) (fun h=>?_)
  rotate_left
  ·have fQ:k=L.length:=by have:=ab h;omega
   subst fQ
   rw[OX] at hp
   refine Ze ?_
   refine an () hp.symm aj rfl Zs Zs rfl Zl Zl
  have cz:k<L.length:=by have:=ae h;omega
  have bU:=dn (aa cz)
  have ud:=qG (aa cz)
  rw[Lv cz] at hp
  generalize L[k]=x at *
  refine Zd ?_
  refine ck [(0,.pure),(1,.pure),(2,.pure),(3,.pure),(4,.quiet),(5,.pure),(6,.pure),(7,.pure),(8,.pure),(9,.pure),(10,.pure),(11,.quiet),(12,.pure),(13,.pure),(14,.pure),(15,.pure),(16,.pure),(17,.pure),(18,.pure),(19,.pure),(20,.pure),(21,.pure),(22,.quiet),(23,.pure),(24,.pure),(25,.pure),(26,.pure),(27,.pure),(28,.quiet),(29,.pure),(30,.pure),(31,.pure),(32,.pure),(33,.pure),(34,.pure),(35,.pure),(36,.quiet),(37,.pure),(38,.pure),(39,.pure),(40,.pure)] mixed Zk (aM TT rfl ?_)
  refine bk TT Z Z Z Z Z Z Z Z Z H Zo bU (Zr ?_)
  refine ax 33 rfl (fun h=>?_) (fun h=>?_)
  ·have h3:¬ 0<=x.lv:=by have:=ae h;omega
   refine gn ?_
   refine aw TT rfl fun β w' _ _=>?_
   exact bad (by rw[<-hp,b7 h3];rfl)
  have h3:0<=x.lv:=by have:=ab h;omega
  refine Zr ?_
  refine bk TT Z Z Z Z Z Z Z Z Z H Zo bU (Zr ?_)
  refine ax 41 rfl (fun h=>?_) (fun h=>?_)
  ·have h4:¬ x.lv<=64:=by have:=ae h;omega
   refine gn ?_
   refine aw TT rfl fun β w' _ _=>?_
   exact bad (by rw[<-hp,b7 h4,lu];rfl)
  have h4:x.lv<=64:=by have:=ab h;omega
  rw[bj h3,bj h4,cp,cp] at hp
  refine Zr ?_
  refine ax 44 rfl (fun h=>?_) (fun h=>?_)
  rotate_left
  ·have fQ:k=0:=by have:=ab h;omega
   subst fQ
   rw[bj rfl,Bool.true_or,cp] at hp
   refine pC ?_
   refine an 1 ⟨cz,hp,fun _=>by rw[fM,ud];omega⟩ Zo rfl Zs Zs rfl Zl Zl
  have fQ:0<k:=by have:=ae h;omega
  have Sf:=Sf fQ
  have Yv:k - 1<L.length:=by omega
  have Se:=dn (aa Yv)
  rw[qG (aa Yv)] at Sf hp
  generalize L[k - 1]=y at *
  rw[b7 (show ¬ k=0 by omega),Bool.false_or] at hp
  refine Zr ?_
  refine bk TT Z Z Z Z Z Z Z Z Z H Zo bU (Zr ?_)
  have Yu:(k:Int) - 1=((k - 1:Nat):Int):=by omega
  refine iY Z Z Z Z Z Z Zo (Zr ?_)
  rw[Yu]
  refine bk TT Z Z Z Z Z Z Z Z Z H Zo Se (Zr ?_)
  refine eO Z Z Z Z Z Z Zo (Zr ?_)
  refine ax 58 rfl (fun h=>?_) (fun h=>?_)
  ·have h5:¬ x.lv<=y.lv+1:=by have:=ae h;omega
   refine gn ?_
   refine aw TT rfl fun β w' _ _=>?_
   exact bad (by rw[<-hp,b7 h5];rfl)
  have h5:x.lv<=y.lv+1:=by have:=ab h;omega
  refine Zr ?_
  refine bk TT Z Z Z Z Z Z Z Z Z H Zo bU (Zr ?_)
  refine Za ?_
  refine aG rfl (fun h=>?_) (fun h=>?_)
  ·have h6:x.lv=0:=ae h
   refine Zb ?_
   refine aw TT rfl fun β w' _ _=>?_
   exact bad (by rw[<-hp,b7 (show ¬ x.lv≠0 by omega),lu];rfl)
  have h6:x.lv≠0:=ab h
  rw[bj h5,bj h6,cp,cp] at hp
  refine Zc ?_
  refine an (k+1) ⟨cz,hp,fun _=>by rw[Nat.add_sub_cancel,ud];omega⟩ Zo rfl Zs Zs rfl Zl Zl
 have g2:¬ vT L=false:=by rw[GM];decide
 have mT:0<L.length:=by omega
 have bU:=dn (aa mT)
 have hhd:L.head?=some L[0]:=by rw[kQ,aa mT]
 have hh1:(L.head?.map aH.lv).getD 0=L[0].lv:=by rw[hhd];rfl
 have hh2:(L.head?.map aH.nm).getD false=L[0].nm:=by rw[hhd];rfl
 have hh3:(L.head?.map aH.en).getD 0=L[0].en:=by rw[hhd];rfl
 have bad:((L.head?.map aH.lv).getD 0≠0\/(L.head?.map aH.nm).getD false=true\/1099511627776<(L.head?.map aH.en).getD 0)->Value.bool false=.bool (kp L):=fun h=>by
  unfold kp
  rw[ai g1,ai g2,au h]
 rw[hh1,hh2,hh3] at bad
 generalize Zv:L[0]=x0 at *
 refine Za ?_
 refine bk TT Z Z Z Z Z Z Z Z Z H Zo bU (Zr ?_)
 refine ax 73 rfl (fun h=>?_) (fun h=>?_)
 ·have h3:x0.lv≠0:=by simpa using h
  refine gn ?_
  refine aw TT rfl fun β w' _ _=>?_
  exact bad (.inl h3)
 have h3:x0.lv=0:=by simpa using h
 refine Zr ?_
 refine bk TT Z Z Z Z Z Z Z Z Z H Zo bU (Zr ?_)
 refine ax 79 rfl (fun h=>?_) (fun h=>?_)
 ·have h4:x0.nm=true:=h
  refine gn ?_
  refine aw TT rfl fun β w' _ _=>?_
  exact bad (.inr (.inl h4))
 have h4:x0.nm=false:=h
 refine Zr ?_
 refine bk TT Z Z Z Z Z Z Z Z Z H Zo bU (Zr ?_)
 refine Za ?_
 refine aG rfl (fun h=>?_) (fun h=>?_)
 ·have h5:1099511627776<x0.en:=ae h
  refine Zb ?_
  refine aw TT rfl fun β w' _ _=>?_
  exact bad (.inr (.inr h5))
 have h5:¬ 1099511627776<x0.en:=ab h
 have g3:¬ ((L.head?.map aH.lv).getD 0≠0\/(L.head?.map aH.nm).getD false=true\/1099511627776<(L.head?.map aH.en).getD 0):=by
  rw[hh1,hh2,hh3]
  rintro(h | h | h)
  ·exact h h3
  ·rw[h4] at h;cases h
  ·exact h5 h
 clear bad
 have ZQ:=Kj mT
 have L8:=Q3 L R.fit Zo ao cap (jb L) σ 0 H mT (by unfold jb;rw[cJ];omega)
 have LR:=fun(bD:al) (hle:σ.le bD)=>ON L Zo ao cap (jb L) bD 0 (H.mono hle) mT (by unfold jb;rw[cJ];omega)
 rw[cJ] at L8 LR
 have ae1:=(vq (jb L) L (by unfold jb;omega) mT).2
 have e1:eY (jb L) L=fB L:=rfl
 have e2:(sd (jb L) L).1=IS L:=rfl
 rw[e1] at L8
 rw[e2] at LR ae1
 have af8:(fB L).1.wf:=zN _ _
 have bad:((fB L).2≠[]\/kU (fB L).1≠0)->Value.bool false=.bool (kp L):=fun h=>by
  unfold kp
  rw[ai g1,ai g2,ai g3,au h]
 have ag8:¬ ((fB L).2≠[]\/kU (fB L).1≠0)->L.map er≠(bG 1 (fB L).1 0 false bF 0).1.map er->Value.bool false=.bool (kp L):=fun h h'=>by
  unfold kp
  rw[ai g1,ai g2,ai g3,ai h,au h']
 have Pl:¬ ((fB L).2≠[]\/kU (fB L).1≠0)->¬ L.map er≠(bG 1 (fB L).1 0 false bF 0).1.map er->kp L=EB (-1) (IS L):=fun h h'=>by
  unfold kp
  rw[ai g1,ai g2,ai g3,ai h,ai h']
 generalize (fB L).1=gx at *
 generalize (fB L).2=rst at *
 refine Zc ?_
 refine bN Z Z Z Z Z Tryz.call154 ⟨trivial,trivial,trivial⟩ L8 fun v lQ cP ⟨rr,k',hv,oV,mS,zm,yx⟩=>⟨.ik [.agg rr,.a (.v (.int .i64 k'))],SV.iv ⟨oV.qv,trivial,trivial⟩,hv.symm,?_⟩
 obtain⟨Ut,Us,F3,Ur,Uq,F0,rfl,XV⟩:=oV.open
 have W3:k'=L.length↔rst=[]:=by
  constructor
  ·intro h
   rw[<-mS,h,bC]
  ·intro h
   rw[h] at mS
   have:=aN List.length mS
   rw[bm,List.length_nil] at this
   omega
 refine gX ?_
 refine ax 95 rfl (fun h=>?_) (fun h=>?_)
 ·have h6:¬ k'=L.length:=by
   have:¬ (k':Int)=L.length:=by simpa using h
   omega
  refine gn ?_
  refine aw TT rfl fun β w' _ _=>?_
  exact bad (.inl fun h=>h6 (W3.2 h))
 have h6:k'=L.length:=by
  have:(k':Int)=L.length:=by simpa using h
  omega
 refine Zr ?_
 refine aT Z Z Z Z Z Tryz.call66 Zl (NZ lQ gx _ XV.rep Zo) fun v hv=>⟨.a (.v (.int .i64 (kU gx))),trivial,hv.symm,?_⟩
 refine gX ?_
 refine aG rfl (fun h=>?_) (fun h=>?_)
 ·have h7:kU gx≠0:=by simpa using h
  refine Zb ?_
  refine aw TT rfl fun β w' _ _=>?_
  exact bad (.inr h7)
 have h7:kU gx=0:=by simpa using h
 have g4:¬ (rst≠[]\/kU gx≠0):=by
  rintro(h | h)
  ·exact h (W3.1 h6)
  ·exact h h7
 have bad:=ag8 g4
 have Pl:=Pl g4
 clear ag8
 have pv:=jQ 1 gx 0 false bF 0
 have lj:=(EL (aK:=1) Zo af8 0 false bF 0).fit af8 (by simp only[bJ];omega)
 refine Zd ?_
 refine gP 4 1 3 rfl Zl rfl (by decide) fun gs=>?_
 refine qp 131 11 ?_
 refine dT [0,1] (A0:=yH gs none 0 0 1 []) (Ar:=[]) Z Z Z Z Z Z Z Tryz.call155 (by (repeat' (first | exact trivial | exact bh rfl | exact dF _ _ _ _ _ _ | exact dw _ _ | refine kz.of ?_ | refine SV.iv ?_ | exact SV.ez | exact AT.ez | exact eQ.qv (by assumption) | constructor))) (pV.b rfl (HR gx lQ _ false bF 0 gs none 0 0 1 [] XV.rep Zo Zo Zo Zo (by simp;omega) (dB _) Zo (aq _))) fun v nC A2 cw ⟨hv,so,sc,pb,hA⟩=>⟨.ik [],Zl,hv.symm,?_⟩
 subst hA
 rw[cF] at pb ⊢
 generalize hS:(bG 1 gx 0 false bF 0).1=S at *
 generalize (bG 1 gx 0 false bF 0).2=nw at *
 refine gX ?_
 refine eH 0 (c:=.v (.slice so S.length sc)) TT Z Z Z Z Z Z Z Z Z Z Z trivial (Zr ?_)
 refine Za ?_
 refine aG rfl (fun h=>?_) (fun h=>?_)
 ·have h8:¬ S.length=L.length:=by
   have:¬ (S.length:Int)=L.length:=by simpa using h
   omega
  refine Zb ?_
  refine aw TT rfl fun β w' _ _=>?_
  exact bad fun h=>h8 (Dm h).symm
 have h8:S.length=L.length:=by
  have:(S.length:Int)=L.length:=by simpa using h
  omega
 refine Zd ?_
 refine vL 1 Z Z fun Up kV hS3=>?_
 have HS:bu Up so S.length sc 11 (cv S):=Cp hS3 pb
 have H3:=H.mono (al.le_trans cP (al.le_trans cw kV))
 refine fm (fun(_:Unit)=>Up) (fun _=>[(0,.a (.v (.slice ao L.length cap)))]) (fun _=>[]) (fun _=>[Ix gs so S.length sc nw 1]) 0 (fun _=>L.map er=S.map er) ?_ (fun _ VF=>?_)
 ·refine bX (fun(_:Nat)=>Up) (fun k=>[(0,.a (.v (.slice ao L.length cap))),(6,.a (.v (.pointer (some ⟨gs,0,none⟩)))),(7,.a (.v (.int .i64 k)))]) (fun _=>[]) (fun _=>[Ix gs so S.length sc nw 1]) 0
   (fun k=>k<=L.length/\(L.take k).map er=(S.take k).map er) (fun k=>L.length - k) 0 ⟨ay _,rfl⟩ rfl Zs Zs rfl Zl Zl fun k ⟨hk,hp⟩=>?_
  refine Za ?_
  refine aG rfl (fun h=>?_) (fun h=>?_)
  rotate_left
  ·have fQ:k=L.length:=by have:=ab h;omega
   subst fQ
   rw[aI,<-h8,aI] at hp
   refine Ze ?_
   refine an () hp aj rfl Zs Zs ?_ Zl Zl
   rfl
  have cz:k<L.length:=by have:=ae h;omega
  have Yt:k<S.length:=by omega
  have uk:=dn (aa cz)
  have Qa:=dn (aa Yt)
  have ht1:L.take (k+1)=L.take k++[L[k]]:=ak cz
  have ht2:S.take (k+1)=S.take k++[S[k]]:=ak Yt
  have VP:er L[k]≠er S[k]->L.map er≠S.map er:=fun h h'=>by
   have:=aN (fun l=>l[k]?) h'
   simp only[aO,aa cz,aa Yt,Option.map_some,bf] at this
   exact h this
  generalize L[k]=x at *
  generalize S[k]=y at *
  have AN:=Ta x y
  refine Zd ?_
  refine bk TT Z Z Z Z Z Z Z Z Z H3 Zo uk (Zr ?_)
  refine Za ?_
  refine eH 0 (c:=.v (.slice so S.length sc)) TT Z Z Z Z Z Z Z Z Z Z Z trivial (Zr ?_)
  refine bk TT Z Z Z Z Z Z Z Z Z HS Zo Qa (Zr ?_)
  refine Za ?_
  refine OK ⟨y.st,y.en,x.lv,x.kd,x.nm,x.name,x.b,x.n,x.s⟩ y Z Z Z Z Z Z Z (Zr ?_)
  refine Za ?_
  refine aG rfl (fun h=>?_) (fun h=>?_)
  ·have h9:¬ (⟨y.st,y.en,x.lv,x.kd,x.nm,x.name,x.b,x.n,x.s⟩:aH)=y:=by simpa using h
   refine Zb ?_
   refine aw TT rfl fun β w' _ _=>?_
   exact bad (VP fun h=>h9 (AN.2 h))
  ·have h9:(⟨y.st,y.en,x.lv,x.kd,x.nm,x.name,x.b,x.n,x.s⟩:aH)=y:=by simpa using h
   refine Zc ?_
   refine an (k+1) ⟨cz,by rw[ht1,ht2,aF,aF,hp,List.map_singleton,List.map_singleton,AN.1 h9]⟩ Zo rfl Zs Zs rfl Zl Zl
 have Pl:=Pl (fun h=>h VF)
 rw[Pl]
 clear Pl bad
 refine Za ?_
 refine bN Z Z Z Z Z Tryz.call203 ⟨trivial,trivial,trivial⟩ (LR Up (al.le_trans cP (al.le_trans cw kV))) fun v σ4 pM ⟨oo,oc,k2,hv,HO,_,_,_⟩=>⟨.ik [.a (.v (.slice oo (IS L).length oc)),.a (.v (.int .i64 k2))],Zl,hv.symm,?_⟩
 generalize IS L=os at *
 refine Hz ?_
 refine bX (fun(_:Nat)=>σ4) (fun k=>[(10,.a (.v (.slice oo os.length oc))),(12,.a (.v (.int .i64 k)))]) (fun _=>[]) (fun _=>[Ix gs so S.length sc nw 1]) 0
  (fun k=>k<=os.length/\Kp os k=EB (-1) os/\(0<k->0<=os.getD (k - 1) 0)) (fun k=>os.length - k) 0 ⟨ay _,rfl,fun h=>by omega⟩ rfl Zs Zs rfl Zl Zl fun k ⟨hk,hp,hpr⟩=>?_
 refine Za ?_
 refine aG rfl (fun h=>?_) (fun h=>?_)
 rotate_left
 ·have fQ:k=os.length:=by have:=ab h;omega
  subst fQ
  unfold Kp at hp
  rw[bC,EB] at hp
  refine Ze ?_
  refine aw TT rfl fun β w' _ _=>?_
  rw[<-hp]
  rfl
 have cz:k<os.length:=by have:=ae h;omega
 have oC:=lg (aa cz)
 rw[Mq cz] at hp
 have iG:os.getD k 0=os[k]:=by rw[jn,aa cz];rfl
 generalize os[k]=x at *
 refine Zd ?_
 refine ck [(0,.pure),(1,.pure),(2,.pure),(3,.quiet),(4,.pure),(5,.pure),(6,.pure),(7,.pure),(8,.pure),(9,.pure),(10,.pure),(11,.pure),(12,.pure),(13,.quiet),(14,.pure),(15,.pure),(16,.pure),(17,.quiet),(18,.pure),(19,.pure),(20,.pure)] mixed Zk (aM TT rfl ?_)
 refine bk TT Z Z Z Z Z Z Z Z Z HO Zo oC (Zr ?_)
 refine ax 155 rfl (fun h=>?_) (fun h=>?_)
 ·have h9:x<0:=ae h
  refine gn ?_
  refine aw TT rfl fun β w' _ _=>?_
  rw[<-hp,b7,dt]
  ·rfl
  ·by_cases fQ:k=0
   ·rw[au fQ];omega
   ·rw[ai fQ]
    have:=hpr Zo
    omega
 have h9:¬ x<0:=ab h
 refine Zr ?_
 refine ax 158 rfl (fun h=>?_) (fun h=>?_)
 rotate_left
 ·have fQ:k=0:=by have:=ab h;omega
  subst fQ
  rw[au rfl,bj Zo,cp] at hp
  refine pC ?_
  refine an 1 ⟨cz,hp,fun _=>by rw[fM,iG];omega⟩ Zo rfl Zs Zs rfl Zl Zl
 have fQ:0<k:=by have:=ae h;omega
 have Yv:k - 1<os.length:=by omega
 have Se:=lg (aa Yv)
 have hgp:os.getD (k - 1) 0=os[k - 1]:=by rw[jn,aa Yv];rfl
 rw[ai Zo,hgp] at hp
 generalize os[k - 1]=y at *
 have Yu:(k:Int) - 1=((k - 1:Nat):Int):=by omega
 refine Zr ?_
 refine iY Z Z Z Z Z Z Zo (Zr ?_)
 rw[Yu]
 refine bk TT Z Z Z Z Z Z Z Z Z HO Zo Se (Zr ?_)
 refine bk TT Z Z Z Z Z Z Z Z Z HO Zo oC (Zr ?_)
 refine Za ?_
 refine aG rfl (fun h=>?_) (fun h=>?_)
 ·have uS:x<=y:=ae h
  refine Zb ?_
  refine aw TT rfl fun β w' _ _=>?_
  rw[<-hp,b7 (show ¬ y<x by omega),dt]
  rfl
 ·have uS:¬ x<=y:=ab h
  rw[bj (show y<x by omega),cp] at hp
  refine Zc ?_
  refine an (k+1) ⟨cz,hp,fun _=>by rw[Nat.add_sub_cancel,iG];omega⟩ Zo rfl Zs Zs rfl Zl Zl
end Go.Sy
namespace Go.Sy
open Go.Proofs
def U1 (L:List aH) (i:Int):Int:=if KH L i then jX L i.toNat else -1
theorem Xk{L:List aH}{i:Int}(h:KH L i=true): ∃ j:Nat,i=j/\j<L.length/\eG L=true:=by
 unfold KH at h
 simp only[aQ,aX] at h
 exact⟨i.toNat,by omega,by omega,h.2⟩
theorem Xn(σ:al)(L:List aH)(hW:gJ L<=100000)(hL:L.length<=4096)(ao:Option Addr)(cap:Nat)(H:bu σ ao L.length cap 11 (cv L))(i:Int):
  bZ Tryz.prog 145 [.a (.v (.slice ao L.length cap)),.a (.v (.int .i64 i))] σ (fun v=>v=.bool (KH L i)):=by
 refine bW Tryz.func145 Z Z Zl fun w=>?_
 refine Za ?_
 refine ax 7 rfl (fun h=>?_) (fun h=>?_)
 rotate_left
 ·refine gn ?_
  refine aw TT rfl fun β w' _ _=>?_
  unfold KH
  rw[show decide (0<=i)=false from h,dt,dt]
  rfl
 have h1:decide (0<=i)=true:=h
 refine Zr ?_
 refine ax 13 rfl (fun h=>?_) (fun h=>?_)
 rotate_left
 ·refine gn ?_
  refine aw TT rfl fun β w' _ _=>?_
  unfold KH
  rw[show decide (i<(L.length:Int))=false from h,lu,dt]
  rfl
 have h2:decide (i<(L.length:Int))=true:=h
 refine Zr ?_
 refine aT Z Z Z Z Z Tryz.call143 Zl (DP σ L hW ao cap H) fun v hv=>⟨.a (.b (eG L)),trivial,by rw[hv,yQ hL];rfl,?_⟩
 refine gn ?_
 refine aw TT rfl fun β w' _ _=>?_
 unfold KH
 rw[h1,h2]
 rfl
theorem PS(σ:al)(L:List aH)(hW:gJ L<=100000)(hL:L.length<=4096)(ao:Option Addr)(cap:Nat)(H:bu σ ao L.length cap 11 (cv L))(i:Int):
  bZ Tryz.prog 132 [.a (.v (.slice ao L.length cap)),.a (.v (.int .i64 i))] σ (fun v=>v=.int .i64 (U1 L i)):=by
 unfold U1
 refine bW Tryz.func132 Z Z Zl fun w=>?_
 refine Za ?_
 refine aT Z Z Z Z Z Tryz.call145 Zl (Xn σ L hW hL ao cap H i) fun v hv=>⟨.a (.b (KH L i)),trivial,hv.symm,?_⟩
 refine gX ?_
 refine aG rfl (fun h=>?_) (fun h=>?_)
 ·have h:KH L i=false:=by simpa using h
  refine Zb ?_
  refine aw TT rfl fun β w' _ _=>?_
  rw[ai (by simp[h])]
  rfl
 have h:KH L i=true:=by simpa using h
 obtain⟨j,rfl,hj,hs⟩:=Xk h
 refine Zc ?_
 refine aT Z Z Z Z Z Tryz.call191 Zl (EV σ L (Bb hW).len ao cap H j hj) fun v hv=>⟨.a (.v (.int .i64 (jX L j))),trivial,by rw[hv,xB (uy hs).1 hj];rfl,?_⟩
 refine gn ?_
 refine aw TT rfl fun β w' _ _=>?_
 rw[au h]
 rfl
theorem UR(σ:al)(L:List aH)(hL:L.length<=4096)(ud:∀ r∈L,0<=r.lv/\r.lv<=L.length)(ao:Option Addr)(cap:Nat)(H:bu σ ao L.length cap 11 (cv L))(i:Nat)(hi:i<L.length):
  fa Tryz.prog 146 [.a (.v (.slice ao L.length cap)),.a (.v (.int .i64 i))] σ (fun v bD=>∃ oo oc,v=.slice oo (lG L i).length oc/\bu bD oo (lG L i).length oc 1 (vB (lG L i))):=by
 have bU:=dn (aa hi)
 have pa:=ud _ (aP hi)
 have hG:lG L i=ka L[i].lv (i+1) (L.drop (i+1)):=by unfold lG;rw[qG (aa hi)]
 rw[hG]
 generalize L[i]=x at *
 refine ek Tryz.func146 Z Z Zl fun w=>?_
 refine Zg ?_
 refine dV 3 1 ?_
 refine Za ?_
 refine bX (fun _=>σ) (fun(s:KdS)=>[(0,.a (.v (.slice ao L.length cap))),(1,.a (.v (.int .i64 i))),(5,.a (.v (.slice s.oo s.o.length s.oc))),(6,.a (.v (.int .i64 (s.k:Int))))]) (fun _=>[]) (fun s=>[kdE s.oo s.oc s.o]) 0
  (fun s=>s.k<=L.length/\s.o++ka x.lv s.k (L.drop s.k)=ka x.lv (i+1) (L.drop (i+1))/\s.o.length<=s.oc/\s.o.length<=s.k) (fun s=>L.length - s.k) ⟨i+1,0,[],none,0⟩ ⟨hi,rfl,aq _,ay _⟩ rfl Zs Zs rfl Zl Zl fun⟨k,n,o,oo,oc⟩ ⟨hk,hp,j6,mK⟩=>?_
 dsimp only at hk hp j6 mK ⊢
 refine Za ?_
 refine ck [(0,.pure),(1,.pure),(2,.pure),(3,.pure),(4,.pure),(5,.pure),(6,.pure),(7,.pure),(8,.pure),(9,.quiet),(10,.pure),(11,.pure),(12,.pure),(13,.pure),(14,.quiet),(15,.pure),(16,.pure)] mixed Zk (aM TT rfl ?_)
 refine ax 13 rfl (fun h=>?_) (fun h=>?_)
 rotate_left
 ·have fQ:k=L.length:=by have:=ab h;omega
  subst fQ
  rw[bC,ka,aL] at hp
  refine D2 ?_
  refine dD 0 Z Z fun bD nY hS=>?_
  refine aw TT rfl fun β w' _ _=>?_
  rw[<-hp]
  exact⟨oo,oc,rfl,Fq hS j6⟩
 have cz:k<L.length:=by have:=ae h;omega
 have oC:=dn (aa cz)
 rw[aB cz,ka] at hp
 generalize L[k]=y at *
 refine Zr ?_
 refine bk TT Z Z Z Z Z Z Z Z Z H Zo oC (Zr ?_)
 refine bk TT Z Z Z Z Z Z Z Z Z H Zo bU (Zr ?_)
 refine Za ?_
 refine aG rfl (fun h=>?_) (fun h=>?_)
 rotate_left
 ·rw[ai (ab h),aL] at hp
  refine Ze ?_
  refine dD 0 Z Z fun bD nY hS=>?_
  refine aw TT rfl fun β w' _ _=>?_
  rw[<-hp]
  exact⟨oo,oc,rfl,Fq hS j6⟩
 rw[au (ae h)] at hp
 refine Zd ?_
 refine ck [(0,.pure),(1,.pure),(2,.pure),(3,.pure),(4,.quiet),(5,.pure),(6,.pure),(7,.pure),(8,.pure),(9,.quiet),(10,.pure),(11,.pure)] mixed Zk (aM TT rfl ?_)
 refine bk TT Z Z Z Z Z Z Z Z Z H Zo oC (Zr ?_)
 refine bk TT Z Z Z Z Z Z Z Z Z H Zo bU (Zr ?_)
 refine eO Z Z Z Z Z Z Zo (Zr ?_)
 refine Za ?_
 refine aG rfl (fun h=>?_) (fun h=>?_)
 ·have h1:y.lv=x.lv+1:=ae h
  rw[au h1] at hp
  refine Za ?_
  refine bl TT 0 Z Z Z Z Z Z Z Z Z Z Z Z Z Z Z Z Z Z Zl rfl Zo (by show(o.length+1)*8<=_;omega) fun iB dk gS=>aM TT rfl ?_
  refine Zc ?_
  refine an ⟨k+1,n,o++[k],iB,dk⟩ ⟨cz,by dsimp only;rw[av];exact hp,by dsimp only;rw[af];exact gS,by dsimp only;rw[af,b8];omega⟩ (by dsimp only;omega) rfl ?_ Zs ?_ Zl Zl
  ·refine⟨rfl,rfl,?_,rfl,trivial⟩
   dsimp only
   rw[af]
   rfl
  ·unfold kdE
   dsimp only
   rw[af]
   simp only[GC,aF]
   rfl
 ·have h1:¬ y.lv=x.lv+1:=ab h
  rw[ai h1] at hp
  refine Zc ?_
  refine an ⟨k+1,n,o,oo,oc⟩ ⟨cz,hp,j6,by dsimp only;omega⟩ (by dsimp only;omega) rfl Zs Zs rfl Zl Zl
theorem uA(L:List aH): ∀(n i:Nat),(jA L n i).length<=i
 | 0,_=>ay _
 | n+1,i=>by
  have dj:=nt L i
  rw[jA]
  split
  ·simp
  ·have:=uA L n (hH L i).toNat
   rw[af,b8]
   omega
theorem EW(lv:Int): ∀(T:List aH) (k:Nat),(ka lv k T).length<=T.length
 | [],_=>aq _
 | r::T,k=>by
  have:=EW lv T (k+1)
  rw[ka,List.length_cons]
  split
  ·split
   ·rw[List.length_cons];omega
   ·omega
  ·simp
theorem Kd(i:Nat): ∀ ms:List Nat,sI i ms<=ms.length
 | []=>aq _
 | m::ms=>by
  have:=Kd i ms
  rw[sI,List.length_cons]
  split<;>omega
theorem TP(L:List aH)(hL:L.length<=4096)(ud:∀ r∈L,0<=r.lv/\r.lv<=L.length)(ao:Option Addr)(cap:Nat): ∀(n:Nat) (σ:al) (i:Nat),i<n->i<L.length->bu σ ao L.length cap 11 (cv L) ->
  pV Tryz.prog 242 [.a (.v (.slice ao L.length cap)),.a (.v (.int .i64 i))] σ [] (fun v _ A'=>∃ E,A'=[E]/\∃ oo oc,(jA L n i).length<=oc/\E=XA oo (jA L n i).length oc (jA L n i)/\v=.slice oo (jA L n i).length oc):=by
 intro n
 induction n with
 | zero=>intro _ _ h;omega
 | succ n ih=>?_
 intro σ i O9 hi H
 have bU:=dn (aa hi)
 have dj:=nt L i
 have pL:∀ p,oP L i p=if L[i].nm then ⟨L[i].name,0,true⟩ else ⟨bF,sI i (lG L p),false⟩:=fun p=>by
  unfold oP
  rw[aa hi]
 rw[jA]
 generalize L[i]=x at *
 refine fk Tryz.func242 Z Z Zl fun w=>?_
 refine Za ?_
 refine aT Z Z Z Z Z Tryz.call191 Zl (EV σ L (by simp only[bJ];omega) ao cap H i hi) fun v hv=>⟨.a (.v (.int .i64 (hH L i))),trivial,hv.symm,?_⟩
 refine gX ?_
 refine aG rfl (fun h=>?_) (fun h=>?_)
 ·rw[au (ae h)]
  refine Zb ?_
  refine kg 329 3 ?_
  refine dq TT rfl fun β w' _ _=>?_
  exact⟨_,rfl,none,0,aq _,rfl,rfl⟩
 have h:=ab h
 rw[ai h]
 obtain⟨p,hp⟩:∃ p:Nat,hH L i=p:=⟨(hH L i).toNat,by omega⟩
 have pL:=pL p
 rw[hp,show((p:Int)).toNat=p from rfl]
 rw[hp] at dj
 have cz:(lG L p).length<=L.length:=by
  have:=EW (xR L p) (L.drop (p+1)) (p+1)
  rw[bm] at this
  unfold lG
  omega
 have pv:=uA L n p
 refine Zc ?_
 refine dT [] (A0:=[]) (Ar:=[]) Z Z Z Z Z Z Z Tryz.call242 (by (repeat' (first | exact trivial | exact bh rfl | exact dF _ _ _ _ _ _ | exact dw _ _ | refine kz.of ?_ | refine SV.iv ?_ | exact SV.ez | exact AT.ez | exact eQ.qv (by assumption) | constructor))) (ih σ p Zo Zo H) fun v lQ A1 cP ⟨E,hA,oo,oc,j6,hE,hv⟩=>⟨.a (.v (.slice oo (jA L n p).length oc)),trivial,hv.symm,?_⟩
 subst hA hE
 have H1:=H.mono cP
 generalize jA L n p=o at *
 refine gX ?_
 refine bk TT Z Z Z Z Z Z Z Z Z H1 Zo bU (Zr ?_)
 refine Za ?_
 have fin:∀(bD:al) (om:Option Addr) (nE:Nat) (s:GStep),o.length+1<=nE->oP L i p=s->∃ E,[⟨om,o.length+1,nE,329,3,Xz o++(vd s).map AT.val⟩]=[E]/\∃ po pc,(o++[oP L i p]).length<=pc/\E=XA po (o++[oP L i p]).length pc (o++[oP L i p])/\Value.slice om (o.length+1) nE=.slice po (o++[oP L i p]).length pc:=by
  intro bD om nE s h1 h2
  have hl:(o++[s]).length=o.length+1:=by rw[af];rfl
  rw[h2,hl]
  refine⟨_,rfl,om,nE,h1,?_,rfl⟩
  unfold XA Xz pf
  rw[aF,fj,aF]
  simp
 refine aG rfl (fun h=>?_) (fun h=>?_)
 ·have hn:x.nm=true:=h
  rw[au hn] at pL
  refine Za ?_
  refine bk TT Z Z Z Z Z Z Z Z Z H1 Zo bU (Zr ?_)
  refine Za ?_
  refine bl TT 0 Z Z Z Z Z Z Z Z Z Z Z Z Z Z Z Z Z Z Zl rfl Zo (by show(o.length+1)*32<=_;omega) fun iB dk gS=>aM TT rfl ?_
  refine Zb ?_
  refine dq TT rfl fun β w' _ _=>?_
  exact fin lQ iB dk _ gS pL
 ·have hn:x.nm=false:=h
  rw[ai (by simp[hn])] at pL
  refine Zd ?_
  refine bN Z Z Z Z Z Tryz.call146 ⟨trivial,trivial,trivial⟩ (UR lQ L hL ud ao cap H1 p Zo) fun v nC cw ⟨qo,qc,hv,HK⟩=>⟨.a (.v (.slice qo (lG L p).length qc)),trivial,hv.symm,?_⟩
  generalize lG L p=ks at *
  refine Hz ?_
  have nZ:=Kd i ks
  refine fm (fun(_:Unit)=>nC) (fun _=>[(6,.a (.v (.slice oo o.length oc))),(7,.a (.v (.int .i64 (sI i ks))))]) (fun _=>[]) (fun _=>[XA oo o.length oc o]) 0 (fun _=>True) ?_ (fun _ _=>?_)
  ·refine bX (fun(_:Nat)=>nC) (fun k=>[(1,.a (.v (.int .i64 i))),(6,.a (.v (.slice oo o.length oc))),(7,.a (.v (.int .i64 k))),(8,.a (.v (.slice qo ks.length qc))),(9,.a (.v (.int .i64 k)))]) (fun _=>[]) (fun _=>[XA oo o.length oc o]) 0
    (fun k=>k<=ks.length/\k+sI i (ks.drop k)=sI i ks) (fun k=>ks.length - k) 0 ⟨ay _,by rw[cJ,cG]⟩ rfl Zs Zs rfl Zl Zl fun k ⟨hk,hp⟩=>?_
   refine Za ?_
   refine ax 39 rfl (fun h=>?_) (fun h=>?_)
   rotate_left
   ·have fQ:k=ks.length:=by have:=ab h;omega
    subst fQ
    rw[bC,sI,eM] at hp
    rw[<-hp]
    refine D2 ?_
    refine an () trivial aj rfl Zs Zs rfl Zl Zl
   have cz:k<ks.length:=by have:=ae h;omega
   have oC:(vB ks)[k]?=some [.v (.int .i64 ks[k])]:=by unfold vB;rw[aO,aa cz];rfl
   rw[aB cz,sI] at hp
   generalize ks[k]=m at *
   refine Zr ?_
   refine bk TT Z Z Z Z Z Z Z Z Z HK Zo oC (Zr ?_)
   refine Za ?_
   refine aG rfl (fun h=>?_) (fun h=>?_)
   ·have h:¬ (m:Int)=i:=by simpa using h
    rw[ai Zo] at hp
    refine Zg ?_
    refine an (k+1) ⟨cz,by omega⟩ Zo rfl Zs Zs rfl Zl Zl
   ·have h:(m:Int)=i:=by simpa using h
    rw[au Zo,eM] at hp
    rw[<-hp]
    refine Ze ?_
    refine an () trivial aj rfl Zs Zs rfl Zl Zl
  generalize sI i ks=c at *
  refine Za ?_
  refine bl TT 0 Z Z Z Z Z Z Z Z Z Z Z Z Z Z Z Z Z Z Zl rfl Zo (by show(o.length+1)*32<=_;omega) fun iB dk gS=>aM TT rfl ?_
  refine Zb ?_
  refine dq TT rfl fun β w' _ _=>?_
  exact fin nC iB dk _ gS pL
theorem TO(L:List aH)(hL:L.length<=4096)(ud:∀ r∈L,0<=r.lv/\r.lv<=L.length)(ao:Option Addr)(cap:Nat)(σ:al)(i:Nat)(hi:i<L.length)(H:bu σ ao L.length cap 11 (cv L)):
  fa Tryz.prog 242 [.a (.v (.slice ao L.length cap)),.a (.v (.int .i64 i))] σ (fun v bD=>∃ oo oc,v=.slice oo (jz L i).length oc/\bu bD oo (jz L i).length oc 3 (pf (jz L i))) :=
 (TP L hL ud ao cap (i+1) σ i (db i) hi H).MJ fun v _ _ E ⟨oo,oc,hc,hE,hv⟩ _ hS=>⟨oo,oc,hv,Ok (by rw[hE] at hS;exact hS) hc⟩
def vm (L:List aH) (i:Int):List GStep:=if KH L i then jz L i.toNat else []
theorem TS(σ:al)(L:List aH)(hW:gJ L<=100000)(hL:L.length<=4096)(ao:Option Addr)(cap:Nat)(H:bu σ ao L.length cap 11 (cv L))(i:Int):
  fa Tryz.prog 224 [.a (.v (.slice ao L.length cap)),.a (.v (.int .i64 i))] σ (fun v bD=>∃ oo oc,v=.slice oo (vm L i).length oc/\bu bD oo (vm L i).length oc 3 (pf (vm L i))):=by
 unfold vm
 refine ek Tryz.func224 Z Z Zl fun w=>?_
 refine Za ?_
 refine aT Z Z Z Z Z Tryz.call145 Zl (Xn σ L hW hL ao cap H i) fun v hv=>⟨.a (.b (KH L i)),trivial,hv.symm,?_⟩
 refine gX ?_
 refine aG rfl (fun h=>?_) (fun h=>?_)
 ·have h:KH L i=false:=by simpa using h
  rw[ai (by simp[h])]
  refine Zb ?_
  refine aw TT rfl fun β w' _ _=>?_
  exact⟨none,0,rfl,bu.nil _ _ _ _⟩
 have h:KH L i=true:=by simpa using h
 obtain⟨j,rfl,hj,hs⟩:=Xk h
 rw[au h,show((j:Int)).toNat=j from rfl]
 refine Zc ?_
 refine bN Z Z Z Z Z Tryz.call242 ⟨trivial,trivial,trivial⟩ (TO L hL (Ga hs) ao cap σ j hj H) fun v lQ hle ⟨oo,oc,hv,hS⟩=>⟨.a (.v (.slice oo (jz L j).length oc)),trivial,hv.symm,?_⟩
 refine gn ?_
 refine aw TT rfl fun β w' _ _=>?_
 exact⟨oo,oc,rfl,hS⟩
end Go.Sy
