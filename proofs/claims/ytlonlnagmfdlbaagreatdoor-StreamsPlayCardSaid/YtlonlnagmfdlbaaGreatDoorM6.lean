/- Parts of the proof of CStreamsPlay: F14, F15, F16, F17, La, Lb, F19, F20, Lc, F26, F27, Le, F22, F23, F24, Ld, F25, F33, Lf. No conditions. -/
import Derived.Test.YtlonlnagmfdlbaaGreatDoorM5
set_option maxRecDepth 100000
set_option maxHeartbeats 16000000
namespace Go.Sy
open Go.Proofs
theorem D8{cf:Cf}{σ:al}{env:Env}{hp:HP}{A:List AE}{β:Nat->Addr}{a:Act}{w:World}{T:List (Nat×TI)}(hT:cu cf.P T)(ha:nc cf env β a)(hw:dy cf σ hp A β w){fn:Func}{p t:Nat}{ti:TI}{g off i:Nat}{E:AE}{v:Value}(hr:fn.results=#[.cell p t])(nF:env.get p=some (.a (.v (.pointer (some ⟨g,off,none⟩)))))(ht:eX T t=some ti)(yz:ti.agg=false)(hi:A[i]?=some E)(hE:E.ao=some ⟨g,0,none⟩)(hv:E.xs[off]?=some v):
  (results fn a.tmps).run cf.P w=.ok v w:=by
 obtain⟨inf,d',z,hs⟩:=bK (hT _ _ ht)
 have mV:=(hw.arr i E hi).cell hE hv
 have hx:a.tmps.getD p undef=.pointer (some ⟨g,off,none⟩):=aD (x:=.tmp p) ha nF
 have C4:(load ⟨g,off,none⟩).run cf.P w=.ok v w:=by rw[run_load,mV]
 rw[Ch,hr,Array.mapM_eq_mapM_toList,Sem.run_bind,Sem.run_map]
 simp only[List.mapM_cons,List.mapM_nil,Sem.run_bind,Sem.run_pure,yM,hx,asAddr,loadVar,Result.andThen_ok,jK hs.qx,hs.agg,yz,dI,if_false,C4]
 rfl
theorem Jc{P:Program}{w0:World}{kC:al}{M:Nat->Prop}{N:Nat}{T:List (Nat×TI)}{fn:Func}{ui:Value->World->al->Prop}{σ:al}{env:Env}{hp:HP}{A:List AE}{nh:Nat}{D:Nat}(hD:σ D=some (.deferred (some [])))(h0:kC D=none)(hT:cu P T){p t:Nat}{ti:TI}{g off:Nat}(i:Nat){E:AE}(v:Value)(hr:fn.results=#[.cell p t])(nF:env.get p=some (.a (.v (.pointer (some ⟨g,off,none⟩)))))(ht:eX T t=some ti)(yz:ti.agg=false)(hi:A[i]?=some E)(hE:E.ao=some ⟨g,0,none⟩)(hv:E.xs[off]?=some v)(h:∀ w,ui v w (σ.set D none)):
  NJ ⟨P,w0,kC,M,N,[Ff D],none⟩ .ret (bodyPostM (FR none) 0 P fn (rf w0 M kC ui)) σ env hp A nh:=⟨fun hb a β w ha hw=>by
 show LeavesInM (FR none) 0 P fn a.tmps _ a.defers .returning w
 rw[ha.defers]
 have iZ:dy ⟨P,w0,kC,M,N,[],none⟩ (σ.set D none) hp A β (w.putObj D (.deferred none)):=(hw.swap (w':=w.putObj D (.deferred none)) none (hw.cQ _ _ hD) rfl h0 (hw.Gj hD h0) Z Z Z (by simp) (fun c hc=>World.putObj_heap_other hc) fun _ e=>(by cases e)).re _ _ _
 have GR:nc ⟨P,w0,kC,M,N,[],none⟩ env β ⟨a.tmps,[]⟩:=⟨ha.size,rfl,ha.env⟩
 refine⟨by simp,.inl ⟨D,_,rfl,run_takeDeferred (hw.cQ _ _ hD),_,D8 (cf:=⟨P,w0,kC,M,N,[],none⟩) hT GR iZ hr nF ht yz hi hE hv,_,σ.set D none,rfl,Fr.of iZ,wx.of iZ,iZ.cQ,h _⟩⟩⟩
theorem We{σ:al}{D l:Nat}{r:Loop}(JL:D≠l)(hD:σ D=none)(hl:σ l=none)(a:Addr): ((σ.set D (some (.deferred (some [])))).set l (some (.loop r))).cell a=σ.cell a:=by
 rw[al.mW (fun o e=>by rw[al.im (Ne.symm JL),hl] at e;cases e) (fun o e=>by injection e with e;subst e;rfl),al.mW (fun o e=>by rw[hD] at e;cases e) (fun o e=>by injection e with e;subst e;rfl)]
theorem Bh{rd:Option Nat}{ops:Array Oper}(h:ops.toList.all p8=true): AL rd ops=true:=by
 cases rd with
 | none=>rfl
 | some l=>simp only[AL];rw[<-Array.all_toList];exact h
theorem DQ.mono{P:Program}{f:FuncId}{args:Array Value}{l:Nat}{σ:al}{A:List AE}{Φ Ψ:Value->al->List AE->Prop}(h:DQ P f args l σ A Φ)(hi:∀ v s A',Φ v s A'->Ψ v s A'): DQ P f args l σ A Ψ :=
 fun w hw=>Calls.mono (h w hw) fun _ _ ⟨v,bD,A',h1,h2,h3⟩=>⟨v,bD,A',h1,h2,hi _ _ _ h3⟩
structure NeS where
 k:Nat
 ro:List aH
 last:Int
 oo:Option Addr
 oc:Nat
def Zq (oo:Option Addr) (oc:Nat) (ro:List aH):List AE:=[⟨oo,ro.length,oc,130,11,lz ro.reverse⟩]
def DB (g e:Nat) (v:Value):AE:=⟨some ⟨g,0,none⟩,1,1,e,1,[v]⟩
theorem RF(σ:al)(L:List aH)(hL:L.length<=100000)(ao:Option Addr)(cap:Nat)(H:bu σ ao L.length cap 11 (cv L)):
  bZ Tryz.prog 151 [.a (.v (.slice ao L.length cap))] σ (fun v=>v=.bool (gK L)):=by
 refine Tc Tryz.func151 Z Z Zl fun w=>?_
 refine dV 130 11 ?_
 refine Zd ?_
 refine fm (fun(_:NeS)=>σ) (fun s=>[(0,.a (.v (.slice ao L.length cap))),(2,.a (.p 0 0)),(3,.a (.v (.slice s.oo s.ro.length s.oc))),(4,.a (.p 1 0))]) (fun s=>[(0,.loc 4,[.ff]),(1,.loc 3,[.v (.int .i64 s.last)])]) (fun s=>Zq s.oo s.oc s.ro) 2
  (fun s=>(closeAll s.ro s.last&&decide (0<(L.length:Int)))=gK L/\s.ro.length<=s.oc/\s.ro.length<=L.length) ?_ (fun⟨_,ro,last,oo,oc⟩ ⟨jv,hc,P9⟩=>?_)
 ·refine bX (fun(_:NeS)=>σ) (fun s=>[(0,.a (.v (.slice ao L.length cap))),(2,.a (.p 0 0)),(3,.a (.v (.slice s.oo s.ro.length s.oc))),(4,.a (.p 1 0)),(10,.a (.v (.slice ao L.length cap))),(11,.a (.v (.int .i64 L.length))),(12,.a (.v (.int .i64 s.k)))])
   (fun s=>[(0,.loc 4,[.ff]),(1,.loc 3,[.v (.int .i64 s.last)])]) (fun s=>Zq s.oo s.oc s.ro) 2
   (fun s=>s.k<=L.length/\(eL s.k s.ro s.last (L.drop s.k)&&decide (0<(L.length:Int)))=gK L/\s.ro.length<=s.oc/\s.ro.length<=s.k) (fun s=>L.length - s.k) ⟨0,[],-1,none,0⟩ ⟨ay _,rfl,aq _,aq _⟩ rfl Zs Zs rfl Zl Zl fun⟨k,ro,last,oo,oc⟩ ⟨hk,jv,hc,hrk⟩=>?_
  dsimp only at hk jv hc hrk ⊢
  refine Za ?_
  refine aG rfl (fun h=>?_) (fun h=>?_)
  rotate_left
  ·have fQ:k=L.length:=by have:=ab h;omega
   subst fQ
   rw[bC,eL] at jv
   refine Ze ?_
   refine an ⟨L.length,ro,last,oo,oc⟩ ⟨jv,hc,hrk⟩ aj rfl Zs Zs rfl Zl Zl
  have cz:k<L.length:=by have:=ae h;omega
  have bU:(cv L)[k]?=some (di L[k]):=dn (aa cz)
  rw[aB cz] at jv
  generalize L[k]=x at *
  rw[eL] at jv
  have bad:(x.lv<0\/(ro.length:Int)<x.lv\/(decide (x.lv=0) != decide ((k:Int)=0))=true)->gK L=false:=fun h=>by rw[au h] at jv;exact jv.symm
  refine Zd ?_
  refine bk TT Z Z Z Z Z Z Z Z Z H Zo bU (Zr ?_)
  refine Za ?_
  refine ax 20 rfl (fun h=>?_) (fun h=>?_)
  ·refine gn ?_
   refine uF TT rfl fun β w' _ _=>?_
   rw[bad (.inl (ae h))]
   rfl
  have ae4:0<=x.lv:=by have:=ab h;omega
  refine Zr ?_
  refine ax 27 rfl (fun h=>?_) (fun h=>?_)
  ·refine gn ?_
   refine uF TT rfl fun β w' _ _=>?_
   rw[bad (.inr (.inl (ae h)))]
   rfl
  have VA:x.lv<=ro.length:=by have:=ab h;omega
  refine gX ?_
  refine aG rfl (fun h=>?_) (fun h=>?_)
  ·refine Zb ?_
   refine uF TT rfl fun β w' _ _=>?_
   rw[bad (.inr (.inr h))]
   rfl
  have Sj:(decide (x.lv=0) != decide ((k:Int)=0))=false:=h
  rw[ai (by rw[Sj];intro hh;rcases hh with hh | hh | hh<;>first | omega | cases hh)] at jv
  clear bad
  refine rD (nT (gz (qS ?_)))
  refine fm (fun(_:NeS)=>σ) (fun s=>[(0,.a (.v (.slice ao L.length cap))),(2,.a (.p 0 0)),(3,.a (.v (.slice oo s.ro.length oc))),(4,.a (.p 1 0)),(6,.a (.p 3 0)),(10,.a (.v (.slice ao L.length cap))),(11,.a (.v (.int .i64 L.length))),(12,.a (.v (.int .i64 k)))])
   (fun s=>[(0,.loc 4,[.ff]),(1,.loc 3,[.v (.int .i64 s.last)]),(3,.loc 130,di x)]) (fun s=>Zq oo oc s.ro) 4
   (fun s=>gy x.lv ro last=some (s.ro,s.last)/\s.ro.length<=ro.length) ?_ (fun⟨_,ra,iw,_,_⟩ ⟨nZ,um⟩=>?_)
  ·refine bX (fun(_:NeS)=>σ) (fun s=>[(0,.a (.v (.slice ao L.length cap))),(2,.a (.p 0 0)),(3,.a (.v (.slice oo s.ro.length oc))),(4,.a (.p 1 0)),(6,.a (.p 3 0)),(10,.a (.v (.slice ao L.length cap))),(11,.a (.v (.int .i64 L.length))),(12,.a (.v (.int .i64 k)))])
    (fun s=>[(0,.loc 4,[.ff]),(1,.loc 3,[.v (.int .i64 s.last)]),(3,.loc 130,di x)]) (fun s=>Zq oo oc s.ro) 4
    (fun s=>gy x.lv s.ro s.last=gy x.lv ro last/\s.ro.length<=ro.length) (fun s=>s.ro.length) ⟨k,ro,last,oo,oc⟩ ⟨rfl,aq _⟩ rfl Zs Zs rfl Zl Zl fun⟨_,ra,iw,_,_⟩ ⟨nZ,um⟩=>?_
   dsimp only at nZ um ⊢
   refine Za ?_
   refine aG rfl (fun h=>?_) (fun h=>?_)
   rotate_left
   ·have dj:¬ x.lv<ra.length:=ab h
    have ac7:gy x.lv ro last=some (ra,iw):=by
     rw[<-nZ]
     cases ra with
     | nil=>rfl
     | cons t xC =>
      simp only[List.length_cons] at dj
      rw[gy,ai Zo]
    refine Ze ?_
    refine an ⟨k,ra,iw,oo,oc⟩ ⟨ac7,um⟩ aj rfl Zs Zs rfl Zl Zl
   have dj:x.lv<ra.length:=ae h
   cases ra with
   | nil=>simp only[List.length_nil] at dj;omega
   | cons t xC =>
   simp only[List.length_cons] at dj um
   rw[gy,au Zo] at nZ
   have hlen:(t::xC).length=xC.length+1:=rfl
   have aj6:(t::xC).reverse[xC.length]?=some t:=by rw[List.reverse_cons,aW (by simp)];simp
   refine Zg ?_
   refine uE 0 (E:=⟨oo,(t::xC).length,oc,130,11,lz (t::xC).reverse⟩) rfl (Nat.succ_pos _) fun g1 pN=>?_
   have pN:oo=some ⟨g1,0,none⟩:=pN
   subst pN
   refine br TT Z Z Z Z Z Z Z Z Z ⟨by rw[hlen];omega,by omega⟩ (Zr ?_)
   refine jD 0 (off:=xC.length*11) TT (di t) Z Z Z Z Z ?_ Z Z Z Z Z ?_ (fP _ _) (Zr ?_)
   ·show some (SV.a (AT.v (.pointer (some (Addr.add ⟨g1,0,none⟩ ((((t::xC).length:Int) - 1).toNat*11))))))=_
    rw[jM,show(((t::xC).length:Int) - 1).toNat=xC.length by rw[hlen];omega]
   ·intro j c hj
    exact Oy aj6 hj
   refine Za ?_
   refine aG rfl (fun h=>?_) (fun h=>?_)
   ·rw[au (ae h)] at nZ
    rw[<-nZ] at jv
    refine Zb ?_
    refine uF TT rfl fun β w' _ _=>?_
    rw[<-jv]
    rfl
   rw[ai (ab h)] at nZ
   refine Zg ?_
   refine eN TT xC.length Z Z Z Z Z Z Z Z Z (by rw[hlen];omega) Zo (by rw[hlen];omega) (Zr ?_)
   have L5:[(⟨some ⟨g1,0,none⟩,(t::xC).length,oc,130,11,lz (t::xC).reverse⟩:AE)].set 0 (AE.cut ⟨some ⟨g1,0,none⟩,(t::xC).length,oc,130,11,lz (t::xC).reverse⟩ xC.length)=Zq (some ⟨g1,0,none⟩) oc xC:=by
    show [_]=[_]
    unfold AE.cut
    congr 2
    rw[List.reverse_cons,pY,fY (by rw[EY,List.length_reverse];exact aq _),bY (by rw[EY,List.length_reverse];exact aq _)]
   refine vu 0 xC.length Z Z (kT _) L5 ?_
   refine Zc ?_
   refine an ⟨k,xC,t.en,some ⟨g1,0,none⟩,oc⟩ ⟨nZ,by dsimp only;omega⟩ (db _) rfl Zs Zs rfl Zl Zl
  dsimp only at nZ um ⊢
  rw[nZ] at jv
  dsimp only at jv
  refine Za ?_
  refine aG rfl (fun h=>?_) (fun h=>?_)
  ·rw[au (ae h),dt] at jv
   refine Zb ?_
   refine uF TT rfl fun β w' _ _=>?_
   rw[<-jv]
   rfl
  rw[ai (ab h)] at jv
  refine Zd ?_
  refine bl TT 0 Z Z Z Z Z Z Z Z Z Z Z Z Z Z Z Z Z Z Zl rfl Zo (by show(ra.length+1)*112<=_;omega) fun iB dk gS=>aM TT rfl ?_
  refine Zc ?_
  refine an ⟨k+1,x::ra,x.st,iB,dk⟩ ⟨cz,jv,gS,by dsimp only[List.length_cons];omega⟩ (by dsimp only;omega) rfl Zs Zs ?_ Zl Zl
  unfold Zq
  dsimp only
  rw[List.reverse_cons,pY]
  rfl
 dsimp only at jv hc P9 ⊢
 refine vL 0 Z Z fun lQ cP hS=>?_
 have HS:bu lQ oo ro.length oc 11 (cv ro.reverse):=hS.sl (rows:=cv ro.reverse) rfl (fun r hr=>⟨(kn _ r hr).1,(kn _ r hr).2.1⟩) (by rw[rb,List.length_reverse]) rfl hc
 refine Za ?_
 refine bN Z Z Z Z Z Tryz.call209 Zl (Mm lQ oo ro.length oc) fun v nC cw ⟨g,hv,hg⟩=>⟨.a (.fn (.func 233) [.val (.pointer (some ⟨g,0,none⟩))]),(fun x hx=>by simp at hx;subst hx;trivial),hv.symm,aM TT rfl ?_⟩
 refine uC (nT (qS ?_))
 refine zM 0 1 1 rfl Zl rfl (by decide) fun gr=>?_
 refine zM 1 1 1 rfl Zl rfl (by decide) fun gl=>?_
 refine To (kb:=[(0,.a (.v (.slice ao L.length cap))),(2,.a (.v (.pointer (some ⟨gr,0,none⟩)))),(4,.a (.v (.pointer (some ⟨gl,0,none⟩)))),(69,.a (.fn (.func 233) [.val (.pointer (some ⟨g,0,none⟩))]))]) (nF:=[]) (xx Zs) (fT trivial) ?_
 have DU:ro.length=ro.reverse.length:=(List.length_reverse).symm
 let Inv:Nat->AE->AE->Prop:=fun m G1 G2=>G1=DB gr 4 (.bool false)/\∃ la:Int,G2=DB gl 3 (.int .i64 la)/\closeAll (ro.reverse.take m).reverse la=closeAll ro last
 let Stop:Nat->al->AE->AE->Prop:=fun l s G1 _=>G1=DB gr 4 (.bool false)/\closeAll ro last=false/\∃ r',s l=some (.loop r')/\r'.state=.done/\r'.pending=some .ret
 refine G5 [0,1] (A0:=[DB gr 4 (.bool false),DB gl 3 (.int .i64 last)]) (Ar:=[]) Z Z Z ⟨trivial,trivial⟩ ⟨trivial,trivial,trivial,(fun x hx=>by simp at hx;subst hx;trivial),trivial⟩ Tryz.call233
  (fun D l r v s A=>(r.state=.ready/\r.pending=none)/\∃ G1 G2,A=[G1,G2]/\((s l=some (.loop r)/\Inv 0 G1 G2)\/Stop l s G1 G2)) (fun Uh D l tmps O4 qf JL hD hl LX=>?_) (fun D l r v s A ⟨⟨pL,ZB⟩,G1,G2,hA,hh⟩ hD0 LX hsD VN hle=>?_)
 ·have mV:=fun r=>We (r:=r) JL hD hl
  refine DQ.mono (Φ:=fun _ s A=>∃ G1 G2,A=[G1,G2]/\((s l=some (.loop _)/\Inv 0 G1 G2)\/Stop l s G1 G2)) ?_ fun v s A h=>⟨⟨rfl,rfl⟩,h⟩
  refine Hb _ l _ g oo oc ro.reverse Zo _ _ Inv (Stop l) (al.hY ..) rfl (by rw[mV,<-DU];exact hg) ((by rw[<-DU];exact HS:bu lQ oo ro.reverse.length oc 11 (cv ro.reverse)).k6 fun a v hv=>by rw[mV];exact cw.cell hv) ⟨rfl,last,rfl,by rw[aI,List.reverse_reverse]⟩
   fun k hk s F1 F2 pv hsb ⟨h1,la,h2,nZ⟩=>?_
  subst h1;subst h2
  rw[ak hk,List.reverse_append,List.reverse_singleton,List.singleton_append,closeAll] at nZ
  generalize ro.reverse[k]=y at *
  refine Ov (N:=Tryz.f151.ntmps) (env:=[(0,.a (.v (.slice ao L.length cap))),(2,.a (.v (.pointer (some ⟨gr,0,none⟩)))),(4,.a (.v (.pointer (some ⟨gl,0,none⟩)))),(69,.a (.fn (.func 233) [.val (.pointer (some ⟨g,0,none⟩))]))]) O4 qf [70,71] Z Z Z ⟨trivial,fP _ _,trivial⟩
   ⟨trivial,trivial,trivial,(fun x hx=>by simp at hx;subst hx;trivial),trivial⟩ fun w'=>?_
  dsimp only
  (repeat (first | (refine iD ?_ (Bh rfl);refine aM TT rfl ?_) | refine uC ?_))
  refine RE pv rfl (al.hY ..) ?_
  (repeat (first | refine gz ?_ | (refine iD ?_ (Bh rfl);refine aM TT rfl ?_) | refine qS ?_))
  refine eH 1 (c:=.v (.int .i64 la)) TT Z Z Z Z Z Z Z Z Z Z Z trivial (Zr ?_)
  (repeat refine iu ?_)
  refine aG rfl (fun h=>?_) (fun h=>?_)
  ·rw[au (ae h)] at nZ
   (repeat (first | refine gz ?_ | (refine iD ?_ (Bh rfl);refine aM TT rfl ?_)))
   refine jC 0 (A':=[DB gr 4 (.bool false),DB gl 3 (.int .i64 la)]) (c:=.ff) TT Z Z Z Z Z Z Z Z Z Z aj trivial Z Z (Zr ?_)
   (repeat (first | refine iu ?_ | refine xd ?_ | refine pj ?_ | refine nV ?_))
   refine Va (al.hY ..) ?_
   exact⟨_,_,rfl,.inr ⟨rfl,rfl,nZ.symm,_,al.hY ..,rfl,rfl⟩⟩
  ·rw[ai (ab h)] at nZ
   (repeat (first | (refine iD ?_ (Bh rfl);refine aM TT rfl ?_) | refine rD ?_ | refine nT ?_))
   refine jC 1 (A':=[DB gr 4 (.bool false),DB gl 3 (.int .i64 y.en)]) (c:=.v (.int .i64 y.en)) TT Z Z Z Z Z Z Z Z Z Z aj trivial Z Z (Zr ?_)
   (repeat (first | refine uC ?_ | refine uG ?_))
   refine Vb (al.hY ..) ?_
   exact⟨_,_,rfl,.inl ⟨rfl,al.hY ..,rfl,_,rfl,nZ⟩⟩
 ·subst hA
  rcases hh with⟨pv,h1,la,h2,nZ⟩ | ⟨h1,nZ,r',pv,ak0,al3⟩
  ·have JL:D≠l:=fun e=>by subst e;rw[hsD] at pv;cases pv
   subst h1;subst h2
   refine⟨r,pv,by rw[pL];exact fun h=>(by cases h),?_⟩
   rw[ZB]
   dsimp only
   have nZ:closeAll ro last=true:=nZ.symm
   rw[nZ,cp] at jv
   refine Zc ?_
   refine jC 0 (A':=[DB gr 4 (.bool (decide (0<(L.length:Int)))),DB gl 3 (.int .i64 la)]) (c:=.b (decide (0<(L.length:Int)))) TT Z Z Z Z Z Z Z Z Z Z aj trivial Z Z (Zr ?_)
   refine Zb ?_
   refine Jc (by rw[al.im JL];exact hsD) hD0 TT 0 (.bool (decide (0<(L.length:Int)))) Z Z Z Z Z Z Z fun w=>?_
   rw[jv]
  ·have JL:D≠l:=fun e=>by subst e;rw[hsD] at pv;cases pv
   subst h1
   refine⟨r',pv,by rw[ak0];exact fun h=>(by cases h),?_⟩
   rw[al3]
   dsimp only
   rw[nZ,dt] at jv
   refine Zb ?_
   refine Jc (by rw[al.im JL];exact hsD) hD0 TT 0 (.bool false) Z Z Z Z Z Z Z fun w=>?_
   rw[<-jv]
end Go.Sy
namespace Go.Sy
open Go.Proofs
def lK (L:List aH):aJ×Int :=
 if 4096<L.length\/gK L=false\/m7 L=false\/1099511627776<(L.head?.map aH.en).getD 0 then (rA,2)
 else if kU (fB L).1≠0 then (rA,2)
 else ((fB L).1,0)
def eG (L:List aH):Bool:=decide ((lK L).2=0)
theorem Q0(σ:al): eQ σ rA (dN rA none 0 none 0):=by
 simp only[eQ,rA]
 exact⟨none,0,[],none,0,[],rfl,bu.nil _ _ _ _,rfl,rfl,bu.nil _ _ _ _,rfl,by decide,by decide,by decide,by decide,fun k h=>(by cases h)⟩
theorem Wv(σ:al)(L:List aH)(hL:L.length<=bJ)(hF:qj L)(ZQ:gK L=true->(fB L).1.weight<=1000000)(ao:Option Addr)(cap:Nat)(H:bu σ ao L.length cap 11 (cv L)):
  fa Tryz.prog 79 [.a (.v (.slice ao L.length cap))] σ (fun v bD=>∃ r,v=(SV.ik [.agg r,.a (.v (.int .i64 (lK L).2))]).den fy/\eQ bD (lK L).1 r):=by
 simp only[bJ] at hL
 have bad:(4096<L.length\/gK L=false\/m7 L=false\/1099511627776<(L.head?.map aH.en).getD 0)->lK L=(rA,2):=fun h=>by unfold lK;rw[au h]
 refine ek Tryz.func79 Z Z Zl fun w=>?_
 refine Za ?_
 refine ax 9 rfl (fun h=>?_) (fun h=>?_)
 ·rw[bad (.inl (by have:=ae h;omega))]
  refine gn ?_
  refine aw TT rfl fun β w' _ _=>?_
  exact⟨dN rA none 0 none 0,rfl,Q0 σ⟩
 have h1:¬ 4096<L.length:=by have:=ab h;omega
 refine Zr ?_
 refine aT Z Z Z Z Z Tryz.call151 Zl (RF σ L Zo ao cap H) fun v hv=>⟨.a (.b (gK L)),trivial,hv.symm,?_⟩
 refine Zr ?_
 refine ax 14 rfl (fun h=>?_) (fun h=>?_)
 ·rw[bad (.inr (.inl (by simpa using h)))]
  refine gn ?_
  refine aw TT rfl fun β w' _ _=>?_
  exact⟨dN rA none 0 none 0,rfl,Q0 σ⟩
 have h2:gK L=true:=by simpa using h
 have mT:0<L.length:=by
  unfold gK at h2
  simp only[aQ,aX] at h2
  omega
 have GM:kr 0 L:=by
  unfold gK at h2
  simp only[aQ] at h2
  exact rn L 0 [] (-1) h2.1
 refine Zr ?_
 refine aT Z Z Z Z Z Tryz.call152 Zl (Vh σ L Zo ao cap H GM) fun v hv=>⟨.a (.b (m7 L)),trivial,hv.symm,?_⟩
 refine Zr ?_
 refine ax 19 rfl (fun h=>?_) (fun h=>?_)
 ·rw[bad (.inr (.inr (.inl (by simpa using h))))]
  refine gn ?_
  refine aw TT rfl fun β w' _ _=>?_
  exact⟨dN rA none 0 none 0,rfl,Q0 σ⟩
 have h3:m7 L=true:=by simpa using h
 have bU:(cv L)[0]?=some (di L[0]):=dn (aa mT)
 have Nt:(L.head?.map aH.en).getD 0=L[0].en:=by rw[kQ,aa mT];rfl
 refine Zr ?_
 refine bk TT Z Z Z Z Z Z Z Z Z H Zo bU (Zr ?_)
 refine Za ?_
 refine aG rfl (fun h=>?_) (fun h=>?_)
 ·rw[bad (.inr (.inr (.inr (by rw[Nt];exact ae h))))]
  refine Zb ?_
  refine aw TT rfl fun β w' _ _=>?_
  exact⟨dN rA none 0 none 0,rfl,Q0 σ⟩
 have h4:¬ 1099511627776<L[0].en:=ab h
 have hB:lK L=if kU (fB L).1≠0 then (rA,2) else ((fB L).1,0):=by
  unfold lK
  rw[ai]
  rintro(hh | hh | hh | hh)
  ·exact h1 hh
  ·rw[h2] at hh;cases hh
  ·rw[h3] at hh;cases hh
  ·rw[Nt] at hh;exact h4 hh
 rw[hB]
 refine Zd ?_
 refine gP 2 1 2 rfl Zl rfl (by decide) fun gb=>?_
 refine dT [0] (A0:=[bE gb ao L.length cap (0:Nat)]) (Ar:=[]) Z Z Z Z Z Z Z Tryz.call153 (by (repeat' (first | exact trivial | exact bh rfl | exact dF _ _ _ _ _ _ | exact dw _ _ | refine kz.of ?_ | refine SV.iv ?_ | exact SV.ez | exact AT.ez | exact eQ.qv (by assumption) | constructor))) (PJ L hF Zo ao cap (jb L) σ 0 gb H mT (by unfold jb;rw[cJ];omega)) fun v lQ A1 cP ⟨r,k',hv,oV,_,_,_,hA⟩=>⟨.agg r,oV.qv,hv.symm,?_⟩
 subst hA
 rw[cJ] at oV
 have oV:eQ lQ (fB L).1 r:=oV
 have ZQ:=ZQ h2
 generalize (fB L).1=gx at *
 obtain⟨Ut,Us,F3,Ur,Uq,F0,rfl,XV⟩:=oV.open
 refine gX ?_
 refine aT Z Z Z Z Z Tryz.call60 Zl (TL lQ gx _ XV.rep ZQ) fun v hv=>⟨.a (.v (.int .i64 (kU gx))),trivial,hv.symm,?_⟩
 refine gX ?_
 refine aG rfl (fun h=>?_) (fun h=>?_)
 ·have h5:kU gx≠0:=by simpa using h
  rw[au h5]
  refine Zb ?_
  refine aw TT rfl fun β w' _ _=>?_
  exact⟨dN rA none 0 none 0,rfl,Q0 lQ⟩
 ·have h5:kU gx=0:=by simpa using h
  rw[ai (by simp[h5])]
  refine Zg ?_
  refine aw TT rfl fun β w' _ _=>?_
  exact⟨dN gx Ut Us Ur Uq,rfl,oV⟩
theorem BC(σ:al)(L:List aH)(hL:L.length<=bJ)(hF:qj L)(ZQ:gK L=true->(fB L).1.weight<=1000000)(ao:Option Addr)(cap:Nat)(H:bu σ ao L.length cap 11 (cv L)):
  bZ Tryz.prog 105 [.a (.v (.slice ao L.length cap))] σ (fun v=>v=.bool (eG L)):=by
 refine bW Tryz.func105 Z Z Zl fun w=>?_
 refine Za ?_
 refine bN Z Z Z Z Z Tryz.call79 ⟨trivial,trivial⟩ (Wv σ L hL hF ZQ ao cap H) fun v lQ hle ⟨r,hv,oV⟩=>⟨.ik [.agg r,.a (.v (.int .i64 (lK L).2))],SV.iv ⟨oV.qv,trivial,trivial⟩,hv.symm,?_⟩
 obtain⟨Ut,Us,F3,Ur,Uq,F0,rfl,XV⟩:=oV.open
 refine gn ?_
 refine aw TT rfl fun β w' _ _=>?_
 rfl
end Go.Sy
namespace Go.Sy
open Go.Proofs
end Go.Sy
namespace Go.Sy
open Go.Proofs
structure rT (L:List aH):Prop where
 len:L.length<=bJ
 fit:qj L
 bw:gK L=true->(fB L).1.weight<=1000000
def KH (L:List aH) (i:Int):Bool:=decide (0<=i)&&decide (i<(L.length:Int))&&eG L
def nR (L:List aH) (st:Int):Nat->Int
 | 0 => -1
 | k+1=>if (L[k]?.map aH.en).getD 0<st then nR L st k else k
def jX (L:List aH) (i:Nat):Int:=nR L ((L[i]?.map aH.st).getD 0) i
end Go.Sy
namespace Go.Sy
def rY (φ:Int->Int) (r:aH):aH:=⟨φ r.st,φ r.en,r.lv,r.kd,r.nm,r.name,r.b,r.n,r.s⟩
def Ws (φ:Int->Int):Prop:=∀ a b,0<=a->a<b->φ a<φ b
theorem QC: rY (fun x=>x)=id:=by funext r;rfl
mutual
def kindOk:aJ->Prop
 | .mk k _ _ _ l _ vs=>(l≠[]->k≠5)/\(vs≠[]->k=5)/\ry l/\ry vs
def ry:List aJ->Prop
 | []=>True
 | g::gs=>kindOk g/\ry gs
end
theorem As{g:aJ}(h:fU g=true): (g.l≠[]->g.kind=4)/\(g.ks≠[]->g.kind=5):=by
 have key:∀(P:Prop) (hl:g.l=[]\/P) (_:g.l≠[]),P:=fun P hl h=>hl.resolve_left h
 by_cases h0:g.kind=0
 ·rw[zE h0] at h
  simp only[aQ,aX,gV] at h
  exact⟨fun hh=>absurd h.1.2 hh,fun hh=>absurd h.2 hh⟩
 by_cases h1:g.kind=1
 ·rw[zD h1] at h
  simp only[aQ,aX,gV] at h
  exact⟨fun hh=>absurd h.1.2 hh,fun hh=>absurd h.2 hh⟩
 by_cases h2:g.kind=2
 ·rw[zC h2] at h
  simp only[aQ,aX,gV] at h
  exact⟨fun hh=>absurd h.1.2 hh,fun hh=>absurd h.2 hh⟩
 by_cases h3:g.kind=3
 ·rw[zB h3] at h
  simp only[aQ,aX,gV] at h
  exact⟨fun hh=>absurd h.1.2 hh,fun hh=>absurd h.2 hh⟩
 by_cases h4:g.kind=4
 ·rw[zA h4] at h
  simp only[aQ,aX,gV] at h
  exact⟨fun _=>h4,fun hh=>absurd h.2 hh⟩
 by_cases h5:g.kind=5
 ·rw[zz h5] at h
  simp only[aQ,aX,gV] at h
  exact⟨fun hh=>absurd h.2 hh,fun _=>h5⟩
 ·rw[zy h0 h1 h2 h3 h4 h5] at h;cases h
mutual
theorem yI: ∀(g:aJ) (deep c:Int),g.wf->(fW g deep c).1=0->kindOk g
 | .mk k b n s l ks vs,deep,c,hw,h=>by
  simp only[aJ.wf] at hw
  simp only[fW] at h
  split at h
  ·simp at h
  rename_i hf
  have hf:fU (.mk k b n s l ks vs)=true:=by simpa using hf
  obtain⟨h1,h2⟩:=As hf
  simp only[aJ.l,aJ.ks,aJ.kind] at h1 h2
  split at h
  ·simp at h
  split at h
  ·simp at h
  split at h
  ·simp at h
  simp only[kindOk]
  have hl:(gI l deep (c+1)).1=0:=by
   by_cases h0:(gI l deep (c+1)).1=0
   ·exact h0
   ·rw[au h0] at h;exact h
  rw[ai (by simp[hl])] at h
  refine⟨fun hh e=>?_,fun hh=>h2 fun e=>hh ?_,wH l _ _ hw.2.1 hl,wH vs _ _ hw.2.2 h⟩
  ·have:=h1 hh;omega
  ·have:=hw.1
   rw[e] at this
   exact aY this.symm
theorem wH: ∀(gs:List aJ) (deep c:Int),aJ.pS gs->(gI gs deep c).1=0->ry gs
 | [],_,_,_,_=>trivial
 | g::gs,deep,c,hw,h=>by
  simp only[aJ.pS] at hw
  simp only[gI] at h
  have hg:(fW g (deep+1) c).1=0:=by
   by_cases h0:(fW g (deep+1) c).1=0
   ·exact h0
   ·rw[au h0] at h;exact h
  rw[ai (by simp[hg])] at h
  exact⟨yI g _ _ hw.1 hg,wH gs _ _ hw.2 h⟩
end
theorem mG{lv:Int}{ro:List aH}(e:Int)(h:(ro.length:Int)=lv): gy lv ro e=some (ro,e):=by
 cases ro with
 | nil=>rfl
 | cons t ro =>
  simp only[List.length_cons] at h
  rw[gy,ai Zo]
theorem qR: ∀(lv:Int) (ro:List aH) (last:Int) (p:List aH×Int),gy lv ro last=some p->∃ x,ro=x++p.1
 | lv,[],last,p,h=>by simp only[gy,bf] at h;subst h;exact⟨[],rfl⟩
 | lv,t::ro,last,p,h=>by
  simp only[gy] at h
  split at h
  ·split at h
   ·cases h
   ·obtain⟨x,hx⟩:=qR lv ro t.en p h
    exact⟨t::x,by rw[hx];rfl⟩
  ·simp only[bf] at h;subst h;exact⟨[],rfl⟩
theorem rQ: ∀(ra ro:List aH) (iw last:Int),gy ro.length (ra++ro) iw=some (ro,last)->∀ lv:Int,lv<=ro.length->gy lv (ra++ro) iw=gy lv ro last
 | [],ro,iw,last,h,lv,hl=>by
  rw[cF,mG iw rfl] at h
  simp only[bf,cC,true_and] at h
  rw[h,cF]
 | t::ra,ro,iw,last,h,lv,hl=>by
  simp only[aZ,gy,af] at h ⊢
  rw[au Zo] at h ⊢
  split at h
  ·cases h
  ·rename_i he
   rw[ai he]
   exact rQ ra ro t.en last h lv hl
theorem uZ: ∀(ro:List aH) (last e:Int),gy 0 ro last=some ([],e)->closeAll ro last=true
 | [],_,_,_=>rfl
 | t::ro,last,e,h=>by
  simp only[gy] at h
  rw[au Zo] at h
  split at h
  ·cases h
  ·rename_i he
   simp only[closeAll,ai he]
   exact uZ ro t.en e h
structure Uo (lv:Int) (vQ:List aH) (jH:Int) (ro:List aH) (last:Int):Prop where
 cl:gy lv vQ jH=some (ro,last)
 len:(ro.length:Int)=lv
 le:lv<=vQ.length
section
variable {φ:Int->Int} (KC:Ws φ) {aK:Int} (hg:1<=aK)
include KC hg
mutual
theorem RH: ∀(g:aJ) (lv:Int) (nm:Bool) (name:ByteArray) (now:Int) (k:Nat) (vQ ro:List aH) (jH last:Int) (rest:List aH),Uo lv vQ jH ro last->0<=lv->decide (lv=0)=decide ((k:Int)=0)->0<=now->last<φ (now+aK) ->
  ∃ ra iw,Uo lv ra iw ro (φ (bG aK g lv nm name now).2)/\eL k vQ jH ((bG aK g lv nm name now).1.map (rY φ)++rest)=eL (k+(bG aK g lv nm name now).1.length) ra iw rest
 | .mk kd b n s l ks vs,lv,nm,name,now,k,vQ,ro,jH,last,rest,hA,h0,hk,hn,hl=>by
  simp only[bG,bx,aF,aZ,av,eL,rY,List.length_cons,af]
  have h1:=(oN aK l (lv+1) (now+aK)).2
  have h2:=(oM aK vs ks (lv+1) (cN aK l (lv+1) (now+aK)).2).2
  have e1:0<=2*aK*((cN aK l (lv+1) (now+aK)).1.length:Int):=Int.mul_nonneg Zo Zo
  have e2:0<=2*aK*((cU aK vs ks (lv+1) (cN aK l (lv+1) (now+aK)).2).1.length:Int):=Int.mul_nonneg Zo Zo
  have hlen:=hA.len
  have hle:=hA.le
  rw[ai (by rw[hk];simp;omega),hA.cl]
  simp only[]
  rw[ai Zo]
  generalize Es:(⟨φ (now+aK),φ ((cU aK vs ks (lv+1) (cN aK l (lv+1) (now+aK)).2).2+aK),lv,kd,nm,name,b,n,s⟩:aH)=r0
  have pL:r0.st=φ (now+aK):=by rw[<-Es]
  have JH:r0.en=φ ((cU aK vs ks (lv+1) (cN aK l (lv+1) (now+aK)).2).2+aK):=by rw[<-Es]
  obtain⟨ra,iw,oA,Ma,Hw,VG⟩:=WI l (lv+1) (now+aK) (k+1) (r0::ro) (r0::ro) (φ (now+aK)) (φ (now+aK)) ((cU aK vs ks (lv+1) (cN aK l (lv+1) (now+aK)).2).1.map (rY φ)++rest)
   ⟨mG _ (by simp only[List.length_cons];omega),by simp only[List.length_cons];omega,by simp only[List.length_cons];omega⟩ Zo (Nat.succ_pos k) Zo (dB _)
  obtain⟨xC,Aj,CQ,Uf,ZI,YK⟩:=WH vs ks (lv+1) (cN aK l (lv+1) (now+aK)).2 (k+1+(cN aK l (lv+1) (now+aK)).1.length) ra (r0::ro) iw oA rest Ma Zo Zo Zo Hw
  refine⟨xC,Aj,⟨?_,hlen,by have:=Uf.le;omega⟩,?_⟩
  ·obtain⟨x,hx⟩:=qR _ _ _ _ Uf.cl
   have hx:xC=x++(r0::ro):=hx
   have DU:(((r0::ro).length:Nat):Int)=lv+1:=Uf.len
   have nZ:=Uf.cl
   rw[<-DU,hx] at nZ
   rw[hx,rQ x (r0::ro) Aj CQ nZ lv Zo,gy,au Zo,ai,JH]
   ·exact mG _ hlen
   ·rw[JH]
    have:=KC (cU aK vs ks (lv+1) (cN aK l (lv+1) (now+aK)).2).2 ((cU aK vs ks (lv+1) (cN aK l (lv+1) (now+aK)).2).2+aK) Zo Zo
    omega
  ·rw[VG,YK]
   congr 1
   omega
theorem WI: ∀(gs:List aJ) (lv:Int) (now:Int) (k:Nat) (vQ ro:List aH) (jH last:Int) (rest:List aH),Uo lv vQ jH ro last->1<=lv->0<k->0<=now->last<=φ now ->
  ∃ ra iw oA,Uo lv ra iw ro oA/\oA<=φ (cN aK gs lv now).2/\eL k vQ jH ((cN aK gs lv now).1.map (rY φ)++rest)=eL (k+(cN aK gs lv now).1.length) ra iw rest
 | [],lv,now,k,vQ,ro,jH,last,rest,hA,h0,hk,hn,hl=>⟨vQ,jH,last,hA,hl,rfl⟩
 | g::gs,lv,now,k,vQ,ro,jH,last,rest,hA,h0,hk,hn,hl=>by
  simp only[cN,aF,av,af]
  have am3:=KC now (now+aK) hn Zo
  obtain⟨h1,Ug⟩:=jQ aK g lv false ⟨#[]⟩ now
  have e1:0<=2*aK*((bG aK g lv false ⟨#[]⟩ now).1.length:Int):=Int.mul_nonneg Zo Zo
  obtain⟨ra,iw,Ma,VG⟩:=RH g lv false ⟨#[]⟩ now k vQ ro jH last ((cN aK gs lv (bG aK g lv false ⟨#[]⟩ now).2).1.map (rY φ)++rest) hA Zo (by rw[b7 Zo,b7 Zo]) hn Zo
  obtain⟨xC,Aj,CQ,Uf,ZI,YK⟩:=WI gs lv (bG aK g lv false ⟨#[]⟩ now).2 (k+(bG aK g lv false ⟨#[]⟩ now).1.length) ra ro iw _ rest Ma h0 Zo Zo (dB _)
  exact⟨xC,Aj,CQ,Uf,ZI,by rw[VG,YK,j7]⟩
theorem WH: ∀(gs:List aJ) (ks:List ByteArray) (lv:Int) (now:Int) (k:Nat) (vQ ro:List aH) (jH last:Int) (rest:List aH),Uo lv vQ jH ro last->1<=lv->0<k->0<=now->last<=φ now ->
  ∃ ra iw oA,Uo lv ra iw ro oA/\oA<=φ (cU aK gs ks lv now).2/\eL k vQ jH ((cU aK gs ks lv now).1.map (rY φ)++rest)=eL (k+(cU aK gs ks lv now).1.length) ra iw rest
 | [],ks,lv,now,k,vQ,ro,jH,last,rest,hA,h0,hk,hn,hl=>by simp only[cU];exact⟨vQ,jH,last,hA,hl,rfl⟩
 | g::gs,[],lv,now,k,vQ,ro,jH,last,rest,hA,h0,hk,hn,hl=>by simp only[cU];exact⟨vQ,jH,last,hA,hl,rfl⟩
 | g::gs,nk::ks,lv,now,k,vQ,ro,jH,last,rest,hA,h0,hk,hn,hl=>by
  simp only[cU,aF,av,af]
  have am3:=KC now (now+aK) hn Zo
  obtain⟨h1,Ug⟩:=jQ aK g lv true nk now
  have e1:0<=2*aK*((bG aK g lv true nk now).1.length:Int):=Int.mul_nonneg Zo Zo
  obtain⟨ra,iw,Ma,VG⟩:=RH g lv true nk now k vQ ro jH last ((cU aK gs ks lv (bG aK g lv true nk now).2).1.map (rY φ)++rest) hA Zo (by rw[b7 Zo,b7 Zo]) hn Zo
  obtain⟨xC,Aj,CQ,Uf,ZI,YK⟩:=WH gs ks lv (bG aK g lv true nk now).2 (k+(bG aK g lv true nk now).1.length) ra ro iw _ rest Ma h0 Zo Zo (dB _)
  exact⟨xC,Aj,CQ,Uf,ZI,by rw[VG,YK,j7]⟩
end
theorem Gw(g:aJ)(nm:Bool)(name:ByteArray)(h0:-1<φ aK): gK ((bG aK g 0 nm name 0).1.map (rY φ))=true:=by
 unfold gK
 obtain⟨ra,iw,hA,he⟩:=RH KC hg g 0 nm name 0 0 [] [] (-1) (-1) [] ⟨rfl,rfl,dB _⟩ (dB _) rfl (dB _) (by rw[Int.zero_add];exact h0)
 rw[aL] at he
 rw[he,eL,uZ ra iw _ hA.cl,cp]
 have:0<(bG aK g 0 nm name 0).1.length:=by rw[my];simp
 simp only[aR]
 exact bj Zo
end
mutual
theorem Ln(φ:Int->Int)(aK:Int): ∀(g:aJ) (lv:Nat) (nm:Bool) (name:ByteArray) (now:Int) (op o:List Int) (rest:List aH),kindOk g->op.take lv=o->lv<=op.length->nm=(o.getLast? == some 5)->(nm=false->name=⟨#[]⟩) ->
  ∃ Hn,Hn.take lv=o/\lv<=Hn.length/\eU op ((bG aK g lv nm name now).1.map (rY φ)++rest)=eU Hn rest
 | .mk kd b n s l ks vs,lv,nm,name,now,op,o,rest,hk,ho,hl,qg,Qb=>by
  simp only[kindOk] at hk
  simp only[bG,bx,aF,aZ,av,eU,rY,cd,ho]
  have hc:((nm != (o.getLast? == some 5))||(!nm&&!decide (name=⟨#[]⟩)))=false:=by
   rw[<-qg]
   cases nm with
   | true=>simp
   | false=>simp[Qb rfl]
  rw[hc]
  simp only[dI,if_false]
  have Hs:o.length=lv:=by rw[<-ho,aE];omega
  have Am:(o++[kd]).getLast?=some kd:=by simp
  have mi:(o++[kd]).take (lv+1)=o++[kd]:=bY (by simp;omega)
  obtain⟨Hn,h1,h2,h3⟩:=RJ φ aK l (lv+1) (now+aK) (o++[kd]) (o++[kd]) ((cU aK vs ks ((lv:Int)+1) (cN aK l ((lv:Int)+1) (now+aK)).2).1.map (rY φ)++rest) hk.2.2.1 mi (by simp;omega) (fun jv=>by rw[Am];have:=hk.1 jv;simp;exact this)
  obtain⟨XL,h4,h5,h6⟩:=RI φ aK vs ks (lv+1) (cN aK l ((lv:Int)+1) (now+aK)).2 Hn (o++[kd]) rest hk.2.2.2 h1 h2 (fun jv=>by rw[Am];have:=hk.2.1 jv;simp;exact this)
  refine⟨XL,?_,by omega,?_⟩
  ·have:XL.take lv=(XL.take (lv+1)).take lv:=by rw[kc];congr 1;omega
   rw[this,h4,fY Zo,bY Zo]
  ·exact h3.trans h6
theorem RJ(φ:Int->Int)(aK:Int): ∀(gs:List aJ) (lv:Nat) (now:Int) (op o:List Int) (rest:List aH),ry gs->op.take lv=o->lv<=op.length->(gs≠[]->(o.getLast? == some 5)=false) ->
  ∃ Hn,Hn.take lv=o/\lv<=Hn.length/\eU op ((cN aK gs lv now).1.map (rY φ)++rest)=eU Hn rest
 | [],lv,now,op,o,rest,hk,ho,hl,qg=>⟨op,ho,hl,rfl⟩
 | g::gs,lv,now,op,o,rest,hk,ho,hl,qg=>by
  simp only[ry] at hk
  simp only[cN,aF,av]
  obtain⟨Hn,h1,h2,h3⟩:=Ln φ aK g lv false ⟨#[]⟩ now op o ((cN aK gs lv (bG aK g lv false ⟨#[]⟩ now).2).1.map (rY φ)++rest) hk.1 ho hl (qg (by simp)).symm (fun _=>rfl)
  obtain⟨XL,h4,h5,h6⟩:=RJ φ aK gs lv (bG aK g lv false ⟨#[]⟩ now).2 Hn o rest hk.2 h1 h2 (fun _=>qg (by simp))
  exact⟨XL,h4,h5,h3.trans h6⟩
theorem RI(φ:Int->Int)(aK:Int): ∀(gs:List aJ) (ks:List ByteArray) (lv:Nat) (now:Int) (op o:List Int) (rest:List aH),ry gs->op.take lv=o->lv<=op.length->(gs≠[]->(o.getLast? == some 5)=true) ->
  ∃ Hn,Hn.take lv=o/\lv<=Hn.length/\eU op ((cU aK gs ks lv now).1.map (rY φ)++rest)=eU Hn rest
 | [],ks,lv,now,op,o,rest,hk,ho,hl,qg=>by simp only[cU];exact⟨op,ho,hl,rfl⟩
 | g::gs,[],lv,now,op,o,rest,hk,ho,hl,qg=>by simp only[cU];exact⟨op,ho,hl,rfl⟩
 | g::gs,nk::ks,lv,now,op,o,rest,hk,ho,hl,qg=>by
  simp only[ry] at hk
  simp only[cU,aF,av]
  obtain⟨Hn,h1,h2,h3⟩:=Ln φ aK g lv true nk now op o ((cU aK gs ks lv (bG aK g lv true nk now).2).1.map (rY φ)++rest) hk.1 ho hl (qg (by simp)).symm (fun h=>by cases h)
  obtain⟨XL,h4,h5,h6⟩:=RI φ aK gs ks lv (bG aK g lv true nk now).2 Hn o rest hk.2 h1 h2 (fun _=>qg (by simp))
  exact⟨XL,h4,h5,h3.trans h6⟩
end
theorem Ab(φ:Int->Int)(aK:Int)(g:aJ)(hk:kindOk g): m7 ((bG aK g 0 false bF 0).1.map (rY φ))=true:=by
 unfold m7
 obtain⟨Hn,_,_,h⟩:=Ln φ aK g 0 false ⟨#[]⟩ 0 [] [] [] hk rfl (aq _) rfl (fun _=>rfl)
 rw[aL] at h
 exact h.trans rfl
def behind (lv:Int):List aH->Prop
 | []=>True
 | r::_=>r.lv<=lv
theorem behind.mono{lv T6:Int}(h:lv<=T6): ∀ {l:List aH},behind lv l->behind T6 l
 | [],_=>trivial
 | r::_,hb=>by simp only[behind] at hb ⊢;omega
theorem NT(φ:Int->Int)(aK:Int)(g:aJ)(lv:Int)(nm:Bool)(name:ByteArray)(now:Int)(Y:List aH): behind lv ((bG aK g lv nm name now).1.map (rY φ)++Y):=by
 rw[my]
 exact dB _
theorem Wg(φ:Int->Int)(aK:Int)(gs:List aJ)(lv:Int)(now:Int)(Y:List aH)(h:behind lv Y): behind lv ((cN aK gs lv now).1.map (rY φ)++Y):=by
 cases gs with
 | nil=>exact h
 | cons g gs =>
  simp only[cN,aF,av]
  exact NT φ aK g lv _ _ now _
theorem NU(φ:Int->Int)(aK:Int)(gs:List aJ)(ks:List ByteArray)(lv:Int)(now:Int)(Y:List aH)(h:behind lv Y): behind lv ((cU aK gs ks lv now).1.map (rY φ)++Y):=by
 cases gs with
 | nil=>simp only[cU];exact h
 | cons g gs =>
  cases ks with
  | nil=>simp only[cU];exact h
  | cons k ks =>
   simp only[cU,aF,av]
   exact NT φ aK g lv _ _ now _
theorem Fl(φ:Int->Int)(aK:Int)(g:aJ)(lv:Int)(nm:Bool)(name:ByteArray)(now:Int)(n:Nat)(X:List aH)(h:eY n ((bG aK g (lv+1) nm name now).1.map (rY φ)++X)=(g,X)):
  dQ (n+1) lv ((bG aK g (lv+1) nm name now).1.map (rY φ)++X)=if nm then ⟨(dQ n lv X).ls,name::(dQ n lv X).ks,g::(dQ n lv X).vs,(dQ n lv X).rest⟩ else ⟨g::(dQ n lv X).ls,(dQ n lv X).ks,(dQ n lv X).vs,(dQ n lv X).rest⟩:=by
 rw[my] at h ⊢
 simp only[bx,aZ] at h ⊢
 rw[dQ,h,au (by simp only[rY];omega)]
 rfl
mutual
theorem Mk(φ:Int->Int)(aK:Int): ∀(g:aJ) (lv:Int) (nm:Bool) (name:ByteArray) (now:Int) (n:Nat) (rest:List aH),g.wf->behind lv rest->2*(bG aK g lv nm name now).1.length<=n ->
  eY n ((bG aK g lv nm name now).1.map (rY φ)++rest)=(g,rest)
 | .mk kd b n s l ks vs,lv,nm,name,now,m,rest,hw,hb,hm=>by
  simp only[aJ.wf] at hw
  simp only[bG,List.length_cons,af] at hm
  obtain⟨m,rfl⟩:∃ m',m=m'+1:=⟨m - 1,by omega⟩
  simp only[bG,bx,aF,aZ,av,eY,rY]
  rw[WN φ aK l lv (now+aK) m _ ⟨[],ks,vs,rest⟩ (2*(cU aK vs ks (lv+1) (cN aK l (lv+1) (now+aK)).2).1.length+1) Zo hw.2.1 (fun m' hm'=>WM φ aK vs ks lv (cN aK l (lv+1) (now+aK)).2 m' rest hw.2.2 hw.1 hb hm') (NU φ aK vs ks (lv+1) _ _ (hb.mono Zo)) Zo]
  simp
theorem WN(φ:Int->Int)(aK:Int): ∀(gs:List aJ) (lv:Int) (now:Int) (n:Nat) (T:List aH) (K:Kids) (c:Nat),1<=c->aJ.pS gs->(∀ m,c<=m->dQ m lv T=K)->behind (lv+1) T ->
  2*(cN aK gs (lv+1) now).1.length+c<=n->dQ n lv ((cN aK gs (lv+1) now).1.map (rY φ)++T)=⟨gs++K.ls,K.ks,K.vs,K.rest⟩
 | [],lv,now,n,T,K,c,hc,hw,hT,hb,Qc=>by
  simp only[cN,gi,cF,List.length_nil] at Qc ⊢
  exact hT n Zo
 | g::gs,lv,now,n,T,K,c,hc,hw,hT,hb,Qc=>by
  simp only[aJ.pS] at hw
  simp only[cN,aF,av,af] at Qc ⊢
  have mT:0<(bG aK g (lv+1) false ⟨#[]⟩ now).1.length:=by rw[my];simp
  obtain⟨n,rfl⟩:∃ m',n=m'+1:=⟨n - 1,by omega⟩
  have hB:=Mk φ aK g (lv+1) false ⟨#[]⟩ now n ((cN aK gs (lv+1) (bG aK g (lv+1) false ⟨#[]⟩ now).2).1.map (rY φ)++T) hw.1 (Wg φ aK gs (lv+1) _ _ hb) Zo
  rw[Fl φ aK g lv false ⟨#[]⟩ now n _ hB,WN φ aK gs lv (bG aK g (lv+1) false ⟨#[]⟩ now).2 n T K c hc hw.2 hT hb Zo]
  rfl
theorem WM(φ:Int->Int)(aK:Int): ∀(vs:List aJ) (ks:List ByteArray) (lv:Int) (now:Int) (n:Nat) (rest:List aH),aJ.pS vs->ks.length=vs.length->behind lv rest->2*(cU aK vs ks (lv+1) now).1.length+1<=n ->
  dQ n lv ((cU aK vs ks (lv+1) now).1.map (rY φ)++rest)=⟨[],ks,vs,rest⟩
 | [],ks,lv,now,n,rest,hw,hk,hb,hn=>by
  have fQ:ks=[]:=aY hk
  subst fQ
  simp only[cU,gi,cF,List.length_nil] at hn ⊢
  obtain⟨n,rfl⟩:∃ m',n=m'+1:=⟨n - 1,by omega⟩
  cases rest with
  | nil=>rfl
  | cons r rest =>
   simp only[behind] at hb
   rw[dQ,ai Zo]
 | g::gs,[],lv,now,n,rest,hw,hk,hb,hn=>by simp at hk
 | g::gs,nk::ks,lv,now,n,rest,hw,hk,hb,hn=>by
  simp only[aJ.pS] at hw
  simp only[cU,aF,av,af] at hn ⊢
  have mT:0<(bG aK g (lv+1) true nk now).1.length:=by rw[my];simp
  obtain⟨n,rfl⟩:∃ m',n=m'+1:=⟨n - 1,by omega⟩
  have hB:=Mk φ aK g (lv+1) true nk now n ((cU aK gs ks (lv+1) (bG aK g (lv+1) true nk now).2).1.map (rY φ)++rest) hw.1 (NU φ aK gs ks (lv+1) _ _ (hb.mono Zo)) Zo
  rw[Fl φ aK g lv true nk now n _ hB,WM φ aK gs ks lv (bG aK g (lv+1) true nk now).2 n rest hw.2 (by simpa using hk) hb Zo]
  rfl
end
theorem u3(φ:Int->Int)(aK:Int)(g:aJ)(nm:Bool)(name:ByteArray)(now:Int)(hw:g.wf): fB ((bG aK g 0 nm name now).1.map (rY φ))=(g,[]):=by
 unfold fB
 have:=Mk φ aK g 0 nm name now (jb ((bG aK g 0 nm name now).1.map (rY φ))) [] hw trivial (by unfold jb;rw[aR];omega)
 rw[aL] at this
 exact this
theorem G8{φ:Int->Int}(KC:Ws φ){aK:Int}(hg:1<=aK)(h0:-1<φ aK)(g:aJ)(hw:g.wf)(hs:kU g=0)(hl:(bG aK g 0 false bF 0).1.length<=4096)(JH:φ (bG aK g 0 false bF 0).2<=1099511627776): lK ((bG aK g 0 false bF 0).1.map (rY φ))=(g,0):=by
 have hk:=yI g 0 0 hw hs
 have hB:=u3 φ aK g false bF 0 hw
 have Nt:((((bG aK g 0 false bF 0).1.map (rY φ)).head?.map aH.en).getD 0)=φ (bG aK g 0 false bF 0).2:=by rw[my];rfl
 unfold lK
 rw[ai,ai,hB]
 ·rw[hB];simp[hs]
 ·rw[Nt,aR,Gw KC hg g false bF h0,Ab φ aK g hk]
  rintro(h | h | h | h)
  ·omega
  ·cases h
  ·cases h
  ·omega
end Go.Sy
namespace Go.Sy
mutual
theorem wF{σ:al}(aK:Int): ∀(g:aJ) (r:List AT) (lv:Int) (nm:Bool) (name:ByteArray) (now:Int),eQ σ g r->name.size<=bJ->qj (bG aK g lv nm name now).1
 | .mk kd b n s l ks vs,r,lv,nm,name,now,h,hn=>by
  simp only[eQ] at h
  obtain⟨_,_,_,_,_,_,_,_,h3,h4,_,h6,h7,h8,_,_,h9⟩:=h
  simp only[bG]
  intro x hx
  rcases bM.1 hx with rfl | hx
  ·exact⟨h7,h8,hn⟩
  ·rcases bz.1 hx with hx | hx
   ·exact B3 aK l _ _ _ h3 x hx
   ·exact BY aK vs _ ks _ _ h6 h9 x hx
theorem B3{σ:al}(aK:Int): ∀(gs:List aJ) (rs:List (List AT)) (lv:Int) (now:Int),fJ σ gs rs->qj (cN aK gs lv now).1
 | [],_,_,_,_=>fun x hx=>by cases hx
 | g::gs,rs,lv,now,h=>by
  simp only[fJ] at h
  obtain⟨r,IB,_,h2,h3⟩:=h
  simp only[cN]
  intro x hx
  rcases bz.1 hx with hx | hx
  ·exact wF aK g r _ _ _ _ h2 (by simp[bJ,ByteArray.size]) x hx
  ·exact B3 aK gs IB _ _ h3 x hx
theorem BY{σ:al}(aK:Int): ∀(gs:List aJ) (rs:List (List AT)) (ks:List ByteArray) (lv:Int) (now:Int),fJ σ gs rs->(∀ k∈ks,k.size<=bJ)->qj (cU aK gs ks lv now).1
 | [],_,ks,_,_,_,_=>by simp only[cU];exact fun x hx=>by cases hx
 | g::gs,_,[],_,_,_,_=>by simp only[cU];exact fun x hx=>by cases hx
 | g::gs,rs,nk::ks,lv,now,h,hk=>by
  simp only[fJ] at h
  obtain⟨r,IB,_,h2,h3⟩:=h
  simp only[cU]
  intro x hx
  rcases bz.1 hx with hx | hx
  ·exact wF aK g r _ _ _ _ h2 (hk nk (a8 ..)) x hx
  ·exact BY aK gs IB ks _ _ h3 (fun k Hx=>hk k (ba _ Hx)) x hx
end
theorem NW(x m:Int)(h0:0<=m)(h1:m<=1000000000): 0<=lU .i64 x m/\lU .i64 x m<=m:=by
 have hm:(BitVec.ofInt 64 m).toNat=m.toNat:=by
  rw[BitVec.toNat_ofInt]
  have:m % ((2 ^ 64:Nat):Int)=m:=Int.emod_eq_of_lt h0 Zo
  rw[this]
 have hle:(BitVec.ofInt 64 x &&& BitVec.ofInt 64 m).toNat<=m.toNat:=by
  rw[BitVec.toNat_and,<-hm]
  exact Nat.and_le_right
 have hw:lU .i64 x m=((BitVec.ofInt 64 x &&& BitVec.ofInt 64 m).toNat:Int):=by
  unfold lU
  refine IntWalk.i64_in _ ?_
  have nY:(BitVec.ofInt IntKind.i64.bits x &&& BitVec.ofInt IntKind.i64.bits m).toNat<=m.toNat:=hle
  generalize (BitVec.ofInt IntKind.i64.bits x &&& BitVec.ofInt IntKind.i64.bits m).toNat=q at nY
  omega
 rw[hw]
 omega
end Go.Sy
namespace Go.Sy
open Go.Proofs
mutual
def nG:aJ->Nat
 | .mk _ _ _ _ l _ vs=>1+(lD l+lD vs)
def lD:List aJ->Nat
 | []=>0
 | g::gs=>nG g+lD gs
end
theorem NQ(g:aJ): nG g=1+(lD g.l+lD g.vs):=by cases g;rw[nG];rfl
theorem rC: ∀ a b:List aJ,lD (a++b)=lD a+lD b
 | [],b=>by simp[lD]
 | g::a,b=>by simp only[aZ,lD,rC a b];omega
mutual
theorem ta(aK:Int): ∀(g:aJ) (lv:Int) (nm:Bool) (name:ByteArray) (now:Int),g.wf->(bG aK g lv nm name now).1.length=nG g
 | .mk k b n s l ks vs,lv,nm,name,now,h=>by
  simp only[aJ.wf] at h
  simp only[bG,List.length_cons,af,nG,B4 aK l _ _ h.2.1,BZ aK vs ks _ _ h.1 h.2.2]
  omega
theorem B4(aK:Int): ∀(gs:List aJ) (lv now:Int),aJ.pS gs->(cN aK gs lv now).1.length=lD gs
 | [],lv,now,_=>by simp[cN,lD]
 | g::gs,lv,now,h=>by
  simp only[aJ.pS] at h
  simp only[cN,af,lD,ta aK g _ _ _ _ h.1,B4 aK gs _ _ h.2]
theorem BZ(aK:Int): ∀(gs:List aJ) (ks:List ByteArray) (lv now:Int),ks.length=gs.length->aJ.pS gs->(cU aK gs ks lv now).1.length=lD gs
 | [],ks,lv,now,_,_=>by simp[cU,lD]
 | g::gs,[],lv,now,h,_=>by simp at h
 | g::gs,k::ks,lv,now,h,h'=>by
  simp only[aJ.pS] at h'
  simp only[cU,af,lD,ta aK g _ _ _ _ h'.1,BZ aK gs ks _ _ (by simpa using h) h'.2]
end
theorem QK{g:aJ}{aK:Int}(h1:1<=aK)(h2:aK<=1000): gN g aK=if kU g≠0 then ([],kU g) else ((bG aK g 0 false bF 0).1,0):=by
 unfold gN
 rw[ai Zo]
end Go.Sy
namespace Go.Sy
open Go.Proofs
def K3 (en:Int):List aH->Nat
 | []=>0
 | r::l=>if r.st<en then K3 en l+1 else 0
def runK (L:List aH) (en:Int) (k:Nat):Nat:=k+K3 en (L.drop k)
def Fo (L:List aH) (en:Int):Nat->Nat->List Nat
 | 0,_=>[]
 | n+1,k=>if h:k<L.length then (if L[k].st<en then k::Fo L en n (runK L L[k].en (k+1)) else []) else []
def lN (L:List aH) (i:Nat):List Nat:=Fo L ((L[i]?.map aH.en).getD 0) L.length (i+1)
def GC (o:List Nat):List Value:=o.map fun(k:Nat)=>Value.int .i64 k
def vB (o:List Nat):List (List AT):=o.map fun(k:Nat)=>[.v (.int .i64 k)]
def kdE (oo:Option Addr) (oc:Nat) (o:List Nat):AE:=⟨oo,o.length,oc,3,1,GC o⟩
theorem xW: ∀ o:List Nat,GC o=(vB o).flatten.map AT.val
 | []=>rfl
 | k::o=>by
  show Value.int .i64 k::GC o=_
  rw[xW o]
  rfl
structure KdS where
 k:Nat
 n:Nat
 o:List Nat
 oo:Option Addr
 oc:Nat
theorem Fq{σ:al}{oo:Option Addr}{oc:Nat}{o:List Nat}(h:b9 σ (kdE oo oc o))(hc:o.length<=oc): bu σ oo o.length oc 1 (vB o) :=
 h.sl (E:=kdE oo oc o) (xW o) (fun r hr=>by
  obtain⟨k,_,rfl⟩:=bL.1 hr
  exact⟨rfl,fun c hc=>by cases hc with | head=>trivial | tail _ h=>cases h⟩) (by simp[vB]) rfl hc
end Go.Sy
namespace Go.Sy
def se (r:aH):Int×Int:=(r.st,r.en)
abbrev Sk:=List (Int×Int)
def K1 (en:Int):Sk->Nat
 | []=>0
 | x::l=>if x.1<en then K1 en l+1 else 0
def CR (S:Sk) (en:Int):Nat->Nat->List Nat
 | 0,_=>[]
 | n+1,k=>match S[k]? with
  | none=>[]
  | some x=>if x.1<en then k::CR S en n (k+1+K1 x.2 (S.drop (k+1))) else []
def Ly (S:Sk) (i:Nat):List Nat:=CR S ((S[i]?.map (·.2)).getD 0) S.length (i+1)
theorem ML(en:Int): ∀ l:List aH,K3 en l=K1 en (l.map se)
 | []=>rfl
 | r::l=>by simp only[K3,bx,K1,ML en l,se]
theorem Jo(L:List aH)(en:Int): ∀ n k,Fo L en n k=CR (L.map se) en n k
 | 0,_=>rfl
 | n+1,k=>by
  unfold Fo CR
  by_cases h:k<L.length
  ·rw[dif_pos h,aO,aa h]
   simp only[Option.map_some,se,runK,ML,dR,Jo L en n]
  ·rw[dif_neg h,aO,jO Zo]
   rfl
theorem RY(L:List aH)(i:Nat): lN L i=Ly (L.map se) i:=by
 unfold lN Ly
 rw[Jo,aR,aO,Option.map_map]
 rfl
mutual
def wV (aK:Int):aJ->Int
 | .mk _ _ _ _ l _ vs=>aK+(wL aK l+wL aK vs)+aK
def wL (aK:Int):List aJ->Int
 | []=>0
 | g::gs=>wV aK g+wL aK gs
end
mutual
def UG (aK:Int):aJ->Int->Sk
 | .mk _ _ _ _ l _ vs,now=>(now+aK,now+(aK+(wL aK l+wL aK vs)+aK))::(vf aK l (now+aK)++vf aK vs (now+aK+wL aK l))
def vf (aK:Int):List aJ->Int->Sk
 | [],_=>[]
 | g::gs,now=>UG aK g now++vf aK gs (now+wV aK g)
end
theorem yA(aK:Int): ∀ a b:List aJ,wL aK (a++b)=wL aK a+wL aK b
 | [],b=>by simp[wL]
 | g::a,b=>by simp only[aZ,wL,yA aK a b];omega
theorem wE(aK:Int): ∀(a b:List aJ) (now:Int),vf aK (a++b) now=vf aK a now++vf aK b (now+wL aK a)
 | [],b,now=>by simp[vf,wL]
 | g::a,b,now=>by
  simp only[aZ,vf,wL,wE aK a b,av]
  congr 3
  omega
theorem KU(aK:Int)(g:aJ)(now:Int): UG aK g now=(now+aK,now+wV aK g)::vf aK (g.l++g.vs) (now+aK):=by
 cases g
 rw[wE]
 simp only[UG,wV,aJ.l,aJ.vs]
theorem Qk(aK:Int)(g:aJ): wV aK g=aK+wL aK (g.l++g.vs)+aK:=by
 cases g
 rw[yA]
 simp only[wV,aJ.l,aJ.vs]
mutual
theorem oK(aK:Int): ∀(g:aJ) (lv:Int) (nm:Bool) (name:ByteArray) (now:Int),g.wf->(bG aK g lv nm name now).1.map se=UG aK g now/\(bG aK g lv nm name now).2=now+wV aK g
 | .mk k b n s l ks vs,lv,nm,name,now,h=>by
  simp only[aJ.wf] at h
  obtain⟨h1,h2⟩:=EN aK l (lv+1) (now+aK) h.2.1
  obtain⟨h3,h4⟩:=EM aK vs ks (lv+1) (cN aK l (lv+1) (now+aK)).2 h.1 h.2.2
  rw[h2] at h3 h4
  simp only[bG,UG,wV,bx,aF,h2,h3,h4,h1,se]
  refine⟨?_,by omega⟩
  congr 2
  omega
theorem EN(aK:Int): ∀(gs:List aJ) (lv now:Int),aJ.pS gs->(cN aK gs lv now).1.map se=vf aK gs now/\(cN aK gs lv now).2=now+wL aK gs
 | [],lv,now,_=>by simp[cN,vf,wL]
 | g::gs,lv,now,h=>by
  simp only[aJ.pS] at h
  obtain⟨h1,h2⟩:=oK aK g lv false ⟨#[]⟩ now h.1
  obtain⟨h3,h4⟩:=EN aK gs lv (bG aK g lv false ⟨#[]⟩ now).2 h.2
  rw[h2] at h3 h4
  simp only[cN,vf,wL,aF,h1,h2,h3,h4]
  exact⟨trivial,by omega⟩
theorem EM(aK:Int): ∀(gs:List aJ) (ks:List ByteArray) (lv now:Int),ks.length=gs.length->aJ.pS gs->(cU aK gs ks lv now).1.map se=vf aK gs now/\(cU aK gs ks lv now).2=now+wL aK gs
 | [],ks,lv,now,_,_=>by simp[cU,vf,wL]
 | g::gs,[],lv,now,h,_=>by simp at h
 | g::gs,k::ks,lv,now,h,h'=>by
  simp only[aJ.pS] at h'
  obtain⟨h1,h2⟩:=oK aK g lv true k now h'.1
  obtain⟨h3,h4⟩:=EM aK gs ks lv (bG aK g lv true k now).2 (by simpa using h) h'.2
  rw[h2] at h3 h4
  simp only[cU,vf,wL,aF,h1,h2,h3,h4]
  exact⟨trivial,by omega⟩
end
mutual
theorem KM{aK:Int}(hg:0<aK): ∀ g:aJ,0<wV aK g
 | .mk _ _ _ _ l _ vs=>by
  simp only[wV]
  have:=xq hg l
  have:=xq hg vs
  omega
theorem xq{aK:Int}(hg:0<aK): ∀ gs:List aJ,0<=wL aK gs
 | []=>by simp[wL]
 | g::gs=>by
  simp only[wL]
  have:=KM hg g
  have:=xq hg gs
  omega
end
mutual
theorem QH{aK:Int}(hg:0<aK): ∀(g:aJ) (now:Int),∀ x∈UG aK g now,now<x.1/\x.1<x.2/\x.2<=now+wV aK g
 | .mk k b n s l ks vs,now,x,hx=>by
  have h1:=xq hg l
  have h2:=xq hg vs
  simp only[UG,wV] at hx ⊢
  rcases bM.1 hx with rfl | hx
  ·dsimp only;omega
  rcases bz.1 hx with hx | hx
  ·have:=Gc hg l _ x hx;omega
  ·have:=Gc hg vs _ x hx;omega
theorem Gc{aK:Int}(hg:0<aK): ∀(gs:List aJ) (now:Int),∀ x∈vf aK gs now,now<x.1/\x.1<x.2/\x.2<=now+wL aK gs
 | [],now,x,hx=>by simp[vf] at hx
 | g::gs,now,x,hx=>by
  have h1:=KM hg g
  have h2:=xq hg gs
  simp only[vf,wL] at hx ⊢
  rcases bz.1 hx with hx | hx
  ·have:=QH hg g _ x hx;omega
  ·have:=Gc hg gs _ x hx;omega
end
mutual
theorem MH(aK:Int): ∀(g:aJ) (now:Int),(UG aK g now).length=nG g
 | .mk k b n s l ks vs,now=>by
  simp only[UG,nG,List.length_cons,af,ve aK l,ve aK vs]
  omega
theorem ve(aK:Int): ∀(gs:List aJ) (now:Int),(vf aK gs now).length=lD gs
 | [],now=>by simp[vf,lD]
 | g::gs,now=>by simp only[vf,lD,af,MH aK g,ve aK gs]
end
def front (en:Int) (rest:Sk):Prop:=∀ x,rest.head?=some x->en<=x.1
theorem Cb{en:Int}{rest:Sk}(hr:front en rest): ∀ B:Sk,(∀ x∈B,x.1<en)->K1 en (B++rest)=B.length
 | [],_=>by
  cases rest with
  | nil=>rfl
  | cons x l =>
   have:=hr x rfl
   simp only[cF,K1,List.length_nil]
   rw[ai Zo]
 | x::B,h=>by
  simp only[aZ,K1,List.length_cons]
  rw[au (h x a8),Cb hr B fun y hy=>h y (ba _ hy)]
def pos:List aJ->Nat->List Nat
 | [],_=>[]
 | g::gs,p=>p::pos gs (p+nG g)
theorem NM{S:Sk}{p:Nat}{x:Int×Int}{T:Sk}(h:S.drop p=x::T): S[p]?=some x/\S.drop (p+1)=T:=by
 constructor
 ·have:(S.drop p)[0]?=some x:=by rw[h];rfl
  simpa using this
 ·rw[<-List.drop_drop,h]
  rfl
theorem Tf{S B T:Sk}{p:Nat}(h:S.drop p=B++T): S.drop (p+B.length)=T:=by
 rw[<-List.drop_drop,h,List.drop_left]
theorem uY(g:aJ): 0<nG g:=by rw[NQ];omega
theorem Fz{aK:Int}(hg:0<aK){en now:Int}{rest:Sk}(gs:List aJ)(hr:front en rest)(he:now+wL aK gs<=en): front now (vf aK gs now++rest):=by
 intro x hx
 cases gs with
 | nil =>
  have:=hr x (by simpa[vf] using hx)
  simp only[wL] at he
  omega
 | cons g gs =>
  simp only[vf,KU,aZ,List.head?_cons,bf] at hx
  subst hx
  dsimp only
  omega
theorem Fm{aK:Int}(hg:0<aK){S:Sk}{en:Int}{rest:Sk}(hr:front en rest): ∀(gs:List aJ) (p:Nat) (now:Int) (n:Nat),S.drop p=vf aK gs now++rest->now+wL aK gs<=en->gs.length<n ->
  CR S en n p=pos gs p
 | [],p,now,n,h,he,hn=>by
  obtain⟨n,rfl⟩:∃ m,n=m+1:=⟨n - 1,by simp at hn;omega⟩
  unfold CR pos
  cases hx:S[p]? with
  | none=>rfl
  | some x =>
   have h0:(S.drop p)[0]?=some x:=by simpa using hx
   rw[h] at h0
   have:=hr x (by rw[kQ];simpa[vf] using h0)
   dsimp only
   rw[ai Zo]
 | g::gs,p,now,n,h,he,hn=>by
  obtain⟨n,rfl⟩:∃ m,n=m+1:=⟨n - 1,by omega⟩
  have hw:=xq hg gs
  have hlen:=MH aK g now
  simp only[vf,wL,av] at h he
  have h3:=Tf h
  have qu:=QH hg g now
  rw[KU] at h hlen h3 qu
  rw[aZ] at h
  obtain⟨h1,h2⟩:=NM h
  have hx:=qu _ a8
  dsimp only at hx
  rw[List.length_cons] at hlen
  have hf:front (now+wV aK g) (vf aK gs (now+wV aK g)++rest):=Fz hg gs hr Zo
  unfold CR pos
  rw[h1]
  dsimp only
  rw[au Zo,h2,Cb hf _ (fun y hy=>by have:=qu y (ba _ hy);omega),show p+1+(vf aK (g.l++g.vs) (now+aK)).length=p+nG g by omega,
   Fm hg hr gs (p+nG g) (now+wV aK g) n (by rw[<-h3,List.length_cons,hlen]) Zo (by simp at hn;omega)]
theorem U0(gs:List aJ): gs.length<=lD gs:=by
 induction gs with
 | nil=>simp
 | cons g gs ih =>
  have:=uY g
  simp only[List.length_cons,lD]
  omega
def chain (S:Sk) (en:Int):Int->List Nat->Prop
 | _,[]=>True
 | last,m::ms=>∃ x,S[m]?=some x/\last<x.1/\x.2<en/\chain S en x.2 ms
end Go.Sy
namespace Go.Sy
open Go.Proofs
def ib (l:List ByteArray):List (List AT):=l.map fun s=>[.v (.string s)]
theorem np{l:List ByteArray}{i:Nat}{s:ByteArray}(h:l[i]?=some s): (ib l)[i]?=some [.v (.string s)]:=by unfold ib;rw[aO,h];rfl
theorem xv{α:Type}{a b:List α}{k:Nat}(h:a.take k=b.take k)(ha:k<a.length)(hb:k<b.length): a.take (k+1)=b.take (k+1)↔a[k]=b[k]:=by
 rw[ak ha,ak hb,h,List.append_cancel_left_eq,List.cons.injEq]
 simp
theorem Wu(σ:al)(a b:List ByteArray)(hl:a.length<=140737488355328)(ao bo:Option Addr)(ac bc:Nat)(HA:bu σ ao a.length ac 1 (ib a))(HB:bu σ bo b.length bc 1 (ib b)):
  bZ Tryz.prog 181 [.a (.v (.slice ao a.length ac)),.a (.v (.slice bo b.length bc))] σ (fun x=>x=.bool (decide (a=b))):=by
 refine bW Tryz.func181 Z Z Zl fun w=>?_
 refine Za ?_
 refine aG rfl (fun h=>?_) (fun h=>?_)
 ·have h:¬ (a.length:Int)=b.length:=by simpa using h
  refine Zb ?_
  refine aw TT rfl fun β w' _ _=>?_
  rw[b7 (fun e=>h (by rw[e]))]
  rfl
 have hlen:a.length=b.length:=by
  have h:(a.length:Int)=b.length:=by simpa using h
  omega
 refine Zd ?_
 refine bX (fun(_:Nat)=>σ) (fun k=>[(0,.a (.v (.slice ao a.length ac))),(1,.a (.v (.slice bo b.length bc))),(12,.a (.v (.int .i64 a.length))),(13,.a (.v (.int .i64 k)))]) (fun _=>[]) (fun _=>[]) 0
  (fun k=>k<=a.length/\a.take k=b.take k) (fun k=>a.length - k) 0 ⟨ay _,rfl⟩ rfl Zs Zs rfl Zl Zl fun k ⟨hk,hp⟩=>?_
 refine Za ?_
 refine aG rfl (fun h=>?_) (fun h=>?_)
 rotate_left
 ·have fQ:k=a.length:=by have:=ab h;omega
  subst fQ
  rw[aI,hlen,aI] at hp
  refine Ze ?_
  refine aw TT rfl fun β w' _ _=>?_
  rw[bj hp]
  rfl
 have cz:k<a.length:=by have:=ae h;omega
 have kW:k<b.length:=by omega
 have uk:=np (aa cz)
 have Qa:=np (aa kW)
 have jv:a[k]≠b[k]->a≠b:=fun hn e=>hn (by subst e;rfl)
 have Pa:=xv hp cz kW
 generalize a[k]=x at *
 generalize b[k]=y at *
 refine Zd ?_
 refine ck [(0,.pure),(1,.pure),(2,.pure),(3,.quiet),(4,.pure),(5,.pure),(6,.pure),(7,.quiet),(8,.pure)] mixed Zk (aM TT rfl ?_)
 refine bk TT Z Z Z Z Z Z Z Z Z HA Zo uk (Zr ?_)
 refine bk TT Z Z Z Z Z Z Z Z Z HB Zo Qa (Zr ?_)
 refine Za ?_
 refine aG rfl (fun h=>?_) (fun h=>?_)
 ·have h:¬ x=y:=by simpa using h
  refine Zb ?_
  refine aw TT rfl fun β w' _ _=>?_
  rw[b7 (jv h)]
  rfl
 ·have h:x=y:=by simpa using h
  refine Zc ?_
  refine an (k+1) ⟨cz,Pa.2 h⟩ Zo rfl Zs Zs rfl Zl Zl
theorem ED(σ:al)(a b:List ByteArray)(hl:a.length<=140737488355328)(ao bo:Option Addr)(ac bc:Nat)(HA:bu σ ao a.length ac 1 (ib a))(HB:bu σ bo b.length bc 1 (ib b)):
  bZ Tryz.prog 241 [.a (.v (.slice ao a.length ac)),.a (.v (.slice bo b.length bc))] σ (fun x=>x=.bool (decide (a=b))):=by
 refine bW Tryz.func241 Z Z Zl fun w=>?_
 refine Za ?_
 refine aG rfl (fun h=>?_) (fun h=>?_)
 ·have h:¬ (a.length:Int)=b.length:=by simpa using h
  refine Zb ?_
  refine aw TT rfl fun β w' _ _=>?_
  rw[b7 (fun e=>h (by rw[e]))]
  rfl
 have hlen:a.length=b.length:=by
  have h:(a.length:Int)=b.length:=by simpa using h
  omega
 refine Zd ?_
 refine bX (fun(_:Nat)=>σ) (fun k=>[(0,.a (.v (.slice ao a.length ac))),(1,.a (.v (.slice bo b.length bc))),(5,.a (.v (.int .i64 k)))]) (fun _=>[]) (fun _=>[]) 0
  (fun k=>k<=a.length/\a.take k=b.take k) (fun k=>a.length - k) 0 ⟨ay _,rfl⟩ rfl Zs Zs rfl Zl Zl fun k ⟨hk,hp⟩=>?_
 refine Za ?_
 refine aG rfl (fun h=>?_) (fun h=>?_)
 rotate_left
 ·have fQ:k=a.length:=by have:=ab h;omega
  subst fQ
  rw[aI,hlen,aI] at hp
  refine Ze ?_
  refine aw TT rfl fun β w' _ _=>?_
  rw[bj hp]
  rfl
 have cz:k<a.length:=by have:=ae h;omega
 have kW:k<b.length:=by omega
 have uk:=np (aa cz)
 have Qa:=np (aa kW)
 have jv:a[k]≠b[k]->a≠b:=fun hn e=>hn (by subst e;rfl)
 have Pa:=xv hp cz kW
 generalize a[k]=x at *
 generalize b[k]=y at *
 refine Zd ?_
 refine ck [(0,.pure),(1,.pure),(2,.pure),(3,.quiet),(4,.pure),(5,.pure),(6,.pure),(7,.quiet),(8,.pure)] mixed Zk (aM TT rfl ?_)
 refine bk TT Z Z Z Z Z Z Z Z Z HA Zo uk (Zr ?_)
 refine bk TT Z Z Z Z Z Z Z Z Z HB Zo Qa (Zr ?_)
 refine Za ?_
 refine aG rfl (fun h=>?_) (fun h=>?_)
 ·have h:¬ x=y:=by simpa using h
  refine Zb ?_
  refine aw TT rfl fun β w' _ _=>?_
  rw[b7 (jv h)]
  rfl
 ·have h:x=y:=by simpa using h
  refine Zc ?_
  refine an (k+1) ⟨cz,Pa.2 h⟩ Zo rfl Zs Zs rfl Zl Zl
structure cH where
 id:Int
 ao:Option Addr
 cap:Nat
 st:List ByteArray
 ln:Int
def kE (x:cH):List AT:=[.v (.int .i64 x.id),.v (.slice x.ao x.st.length x.cap),.v (.int .i64 x.ln)]
theorem oT(n:Nat)(x:cH): ∀ c∈kE x,c.lt n:=by simp[kE,AT.lt]
def eI (l:List cH):List (List AT):=l.map kE
theorem m8{l:List cH}{i:Nat}{x:cH}(h:l[i]?=some x): (eI l)[i]?=some (kE x):=by unfold eI;rw[aO,h];rfl
def qk (σ:al) (x:cH):Prop:=x.st.length<=140737488355328/\bu σ x.ao x.st.length x.cap 1 (ib x.st)
theorem qk.mono{σ bD:al}{x:cH}(h:qk σ x)(hle:σ.le bD): qk bD x:=⟨h.1,h.2.mono hle⟩
def gT {α:Type} (q:α->Bool):List α->Nat->Int
 | [],_ => -1
 | x::l,k=>if q x then k else gT q l (k+1)
theorem Dl{α:Type}(q:α->Bool): ∀(l:List α) (k:Nat),-1<=gT q l k/\gT q l k<(k+l.length:Nat)
 | [],k=>by simp only[gT,List.length_nil];omega
 | x::l,k=>by
  have:=Dl q l (k+1)
  simp only[gT,List.length_cons]
  split<;>omega
theorem Hh(σ:al)(xs:List cH)(hl:xs.length<=140737488355328)(ao:Option Addr)(cap:Nat)(H:bu σ ao xs.length cap 3 (eI xs))(f:FuncId)(iq:List PT)(mC:jj (iq.map lR))(gm:∀ args w,(callFunc f args).run Tryz.prog w=.ok (.enter f args) w)(q:cH->Bool)(hq:∀ x∈xs,bZ Tryz.prog f (.agg (kE x)::iq.map lR) σ (fun v=>v=.bool (q x)))(dj:(SV.a (.fn (.func f) iq)).lt 0):
  bZ Tryz.prog 217 [.a (.v (.slice ao xs.length cap)),.a (.fn (.func f) iq)] σ (fun x=>x=.int .i64 (gT q xs 0)):=by
 refine bW Tryz.func217 Z Z ⟨trivial,dj,trivial⟩ fun w=>?_
 refine Zd ?_
 refine bX (fun(_:Nat)=>σ) (fun k=>[(0,.a (.v (.slice ao xs.length cap))),(1,.a (.fn (.func f) iq)),(7,.a (.v (.int .i64 xs.length))),(8,.a (.v (.int .i64 k)))]) (fun _=>[]) (fun _=>[]) 0
  (fun k=>k<=xs.length/\gT q (xs.drop k) k=gT q xs 0) (fun k=>xs.length - k) 0 ⟨ay _,rfl⟩ rfl Zs Zs rfl ⟨trivial,dj,trivial,trivial,trivial⟩ trivial fun k ⟨hk,hp⟩=>?_
 refine Za ?_
 refine aG rfl (fun h=>?_) (fun h=>?_)
 rotate_left
 ·have fQ:k=xs.length:=by have:=ab h;omega
  subst fQ
  rw[bC] at hp
  refine Ze ?_
  refine aw TT rfl fun β w' _ _=>?_
  rw[<-hp]
  rfl
 have cz:k<xs.length:=by have:=ae h;omega
 have uk:=m8 (aa cz)
 have hqx:=hq xs[k] (aP cz)
 rw[aB cz,gT] at hp
 generalize xs[k]=x at *
 refine Zd ?_
 refine bk TT Z Z Z Z Z Z Z Z Z H Zo uk (Zr ?_)
 refine aT (ys:=.agg (kE x)::iq.map lR) Z Z Z Z Z gm ⟨oT 0 x,mC⟩ hqx fun v hv=>⟨.a (.b (q x)),trivial,hv.symm,?_⟩
 refine gX ?_
 refine aG rfl (fun h=>?_) (fun h=>?_)
 ·rw[h] at hp
  refine Zb ?_
  refine aw TT rfl fun β w' _ _=>?_
  rw[<-hp]
  rfl
 ·rw[h] at hp
  refine Zc ?_
  refine an (k+1) ⟨cz,hp⟩ Zo rfl Zs Zs rfl ⟨trivial,dj,trivial,trivial,trivial⟩ trivial
theorem MD(σ:al)(xs:List cH)(hl:xs.length<=140737488355328)(ao:Option Addr)(cap:Nat)(next:Int)(H:bu σ ao xs.length cap 3 (eI xs))(f:FuncId)(iq:List PT)(mC:jj (iq.map lR))(gm:∀ args w,(callFunc f args).run Tryz.prog w=.ok (.enter f args) w)(q:cH->Bool)(hq:∀ x∈xs,bZ Tryz.prog f (.agg (kE x)::iq.map lR) σ (fun v=>v=.bool (q x)))(dj:(SV.a (.fn (.func f) iq)).lt 0):
  bZ Tryz.prog 179 [.agg [.v (.slice ao xs.length cap),.v (.int .i64 next)],.a (.fn (.func f) iq)] σ (fun x=>x=.int .i64 (gT q xs 0)):=by
 refine bW Tryz.func179 Z Z ⟨Zl,dj,trivial⟩ fun w=>?_
 refine Za ?_
 refine aT Z Z Z Z Z Tryz.call217 ⟨trivial,dj,trivial⟩ (Hh σ xs hl ao cap H f iq mC gm q hq dj) fun v hv=>⟨.a (.v (.int .i64 (gT q xs 0))),trivial,hv.symm,?_⟩
 refine gn ?_
 refine aw TT rfl fun β w' _ _=>?_
 rfl
def ptrTo (g:Nat):PT:=.val (.pointer (some ⟨g,0,none⟩))
theorem zu(f:Fn)(g n:Nat): (SV.a (.fn f [ptrTo g])).lt n:=by
 intro x hx
 rw[aU] at hx
 subst hx
 trivial
theorem Vi(σ:al)(x:cH)(hx:qk σ x)(s:List ByteArray)(so:Option Addr)(sc:Nat)(S:bu σ so s.length sc 1 (ib s))(g:Nat)(hg:σ.cell ⟨g,0,none⟩=some (.slice so s.length sc)):
  bZ Tryz.prog 180 (.agg (kE x)::[ptrTo g].map lR) σ (fun v=>v=.bool (decide (x.st=s))):=by
 refine bW Tryz.func180 Z Z ⟨oT 0 x,trivial,trivial⟩ fun w=>?_
 refine Za ?_
 refine oR (c:=.v (.slice so s.length sc)) TT Z Z Z Z Z Z Z Z hg trivial (Zr ?_)
 refine aT Z Z Z Z Z Tryz.call181 Zl (Wu σ x.st s hx.1 x.ao so x.cap sc hx.2 S) fun v hv=>⟨.a (.b (decide (x.st=s))),trivial,hv.symm,?_⟩
 refine gn ?_
 refine aw TT rfl fun β w' _ _=>?_
 rfl
def j8 (xs:List cH) (s:List ByteArray):Int:=gT (fun x=>decide (x.st=s)) xs 0
theorem XY(σ:al)(xs:List cH)(hl:xs.length<=140737488355328)(ao:Option Addr)(cap:Nat)(next:Int)(H:bu σ ao xs.length cap 3 (eI xs))(hx:∀ x∈xs,qk σ x)(s:List ByteArray)(so:Option Addr)(sc:Nat)(S:bu σ so s.length sc 1 (ib s)):
  bZ Tryz.prog 116 [.agg [.v (.slice ao xs.length cap),.v (.int .i64 next)],.a (.v (.slice so s.length sc))] σ (fun v=>v=.int .i64 (j8 xs s)):=by
 refine bW Tryz.func116 Z Z Zl fun w=>?_
 refine Za ?_
 refine gP 1 1 1 rfl Zl rfl (by decide) fun g=>?_
 refine iI 0 Z Z Z fun lQ cP hS=>?_
 have hg:lQ.cell ⟨g,0,none⟩=some (.slice so s.length sc):=by
  rcases hS with⟨h,_⟩ | ⟨g',h1,h2⟩
  ·cases h
  ·obtain rfl:g=g':=by simpa using h1
   exact h2 0 _ rfl
 refine aT Z Z Z Z Z Tryz.call179 ⟨Zl,zu (.func 180) g 0,trivial⟩ (MD lQ xs hl ao cap next (H.mono cP) 180 [ptrTo g] ⟨trivial,trivial⟩ Tryz.call180 (fun x=>decide (x.st=s)) (fun x hm=>Vi lQ x ((hx x hm).mono cP) s so sc (S.mono cP) g hg) (zu (.func 180) g 0)) fun v hv=>⟨.a (.v (.int .i64 (j8 xs s))),trivial,hv.symm,?_⟩
 refine gn ?_
 refine aw TT rfl fun β w' _ _=>?_
 rfl
end Go.Sy
namespace Go.Sy
open Go.Proofs
structure fH where
 ao:Option Addr
 cap:Nat
 ss:List ByteArray
def MF (r:fH):List AT:=[.v (.slice r.ao r.ss.length r.cap)]
def oH (l:List fH):List (List AT):=l.map MF
theorem BT{l:List fH}{i:Nat}{x:fH}(h:l[i]?=some x): (oH l)[i]?=some (MF x):=by unfold oH;rw[aO,h];rfl
def uh (σ:al) (x:fH):Prop:=x.ss.length<=140737488355328/\bu σ x.ao x.ss.length x.cap 1 (ib x.ss)
theorem uh.mono{σ bD:al}{x:fH}(h:uh σ x)(hle:σ.le bD): uh bD x:=⟨h.1,h.2.mono hle⟩
def xT (l:List cH):List Value:=(eI l).flatten.map AT.val
def Hp (bo:Option Addr) (bc:Nat) (l:List cH):AE:=⟨bo,l.length,bc,211,3,xT l⟩
theorem Af(a b:List cH): xT (a++b)=xT a++xT b:=by simp[xT,eI]
theorem gE(a:List cH): ∀ r∈eI a,r.length=3/\(∀ c∈r,c.lt 0)/\r.all AT.one=true:=by
 intro r hr
 obtain⟨x,_,rfl⟩:=bL.1 hr
 exact⟨rfl,oT 0 x,rfl⟩
theorem pq{l:List cH}{i j:Nat}{r:cH}{c:AT}(h:l[i]?=some r)(hj:(kE r)[j]?=some c): (xT l)[i*3+j]?=some c.val:=by
 unfold xT
 rw[aO,sy (sz:=3) (fun r hr=>(gE l r hr).1) (m8 h) hj]
 rfl
theorem xS{l:List cH}{i j:Nat}{r r':cH}(c:AT)(h:l[i]?=some r)(hj:j<3)(hr:(kE r).set j c=kE r'): (xT l).set (i*3+j) c.val=xT (l.set i r'):=by
 unfold xT
 rw[<-lW,Dh (sz:=3) (fun r hr=>(gE l r hr).1) c (m8 h) hj,hr]
 congr 2
 unfold eI
 rw[lW]
theorem vz{σ:al}{bo:Option Addr}{bc:Nat}{l:List cH}(h:b9 σ (Hp bo bc l))(hc:l.length<=bc): bu σ bo l.length bc 3 (eI l) :=
 h.sl (E:=Hp bo bc l) rfl (fun r hr=>⟨(gE l r hr).1,(gE l r hr).2.1⟩) (by simp[eI]) rfl hc
def CV (l:List Int):List Value:=l.map fun k=>Value.int .i64 k
def kK (l:List Int):List (List AT):=l.map fun k=>[.v (.int .i64 k)]
def Fv (bo:Option Addr) (bc:Nat) (l:List Int):AE:=⟨bo,l.length,bc,3,1,CV l⟩
theorem uM: ∀ o:List Int,CV o=(kK o).flatten.map AT.val
 | []=>rfl
 | k::o=>by
  show Value.int .i64 k::CV o=_
  rw[uM o]
  rfl
theorem lg{l:List Int}{i:Nat}{x:Int}(h:l[i]?=some x): (kK l)[i]?=some [.v (.int .i64 x)]:=by unfold kK;rw[aO,h];rfl
theorem sk{σ:al}{oo:Option Addr}{oc:Nat}{o:List Int}(h:b9 σ (Fv oo oc o))(hc:o.length<=oc): bu σ oo o.length oc 1 (kK o) :=
 h.sl (E:=Fv oo oc o) (uM o) (fun r hr=>by
  obtain⟨k,_,rfl⟩:=bL.1 hr
  exact⟨rfl,fun c hc=>by cases hc with | head=>trivial | tail _ h=>cases h⟩) (by simp[kK]) rfl hc
theorem FY(σ:al)(xs:List cH)(hl:xs.length<=1000000)(ao:Option Addr)(cap:Nat)(H:bu σ ao xs.length cap 3 (eI xs)):
  pV Tryz.prog 170 [.a (.v (.slice ao xs.length cap))] σ [] (fun v _ A'=>∃ bo bc,v=.slice bo xs.length bc/\xs.length<=bc/\A'=[Hp bo bc xs]):=by
 refine fk Tryz.func170 Z Z Zl fun w=>?_
 refine Zg ?_
 refine aG rfl (fun h=>?_) (fun h=>?_)
 ·have h0:ao=none:=by simpa using h
  have Hu:xs.length=0:=by
   rcases H.at_ with h1 | ⟨ad,h1,_⟩
   ·exact h1
   ·rw[h0] at h1;cases h1
  have hr:xs=[]:=aY Hu
  subst hr
  refine Zb ?_
  refine kg 211 3 ?_
  refine dq TT rfl fun β w' _ _=>?_
  exact⟨none,0,rfl,aq _,rfl⟩
 refine Zc ?_
 refine gP 0 0 3 rfl Zl rfl (by decide) fun gb=>?_
 refine dC TT 0 Z Z Z Z Z Z Z H Z Z Z Z Z Z Z Z Z (fun r hr=>(gE xs r hr).2.2) Zo (by show(0+xs.length)*40<=_;omega) fun iB dk gS=>aM TT rfl ?_
 refine Zb ?_
 refine dq TT rfl fun β w' _ _=>?_
 refine⟨iB,dk,by show Value.slice iB (0+xs.length) dk=_;rw[cG],by omega,?_⟩
 show [_]=[_]
 rw[cG]
 rfl
structure ym where
 xs:List cH
 next:Int
 ids:List Int
def cH.more (x:cH):cH:=⟨x.id,x.ao,x.cap,x.st,x.ln+1⟩
def pk (next:Int) (p:fH):cH:=⟨next,p.ao,p.cap,p.ss,0⟩
def fV (s:ym) (p:fH):ym :=
 if j8 s.xs p.ss<0 then ⟨s.xs++[(pk s.next p).more],s.next+1,s.ids++[s.next]⟩
 else match s.xs[(j8 s.xs p.ss).toNat]? with
  | some x=>⟨s.xs.set (j8 s.xs p.ss).toNat x.more,s.next,s.ids++[x.id]⟩
  | none=>s
def bS (s:ym) (ps:List fH):ym:=ps.foldl fV s
structure nI (m:Nat) (s:ym):Prop where
 xs:s.xs.length<=m
 ids:s.ids.length<=m
 next:-m<=s.next/\s.next<=m
 ln:∀ x∈s.xs,-m<=x.ln/\x.ln<=m
theorem nI.mono{m n:Nat}{s:ym}(h:nI m s)(O5:m<=n): nI n s :=
 ⟨ep h.xs O5,ep h.ids O5,by have:=h.next;omega,fun x hx=>by have:=h.ln x hx;omega⟩
theorem xU(xs:List cH)(s:List ByteArray): -1<=j8 xs s/\j8 xs s<xs.length:=by
 have:=Dl (fun x:cH=>decide (x.st=s)) xs 0
 unfold j8
 omega
theorem Mv{m:Nat}{s:ym}(h:nI m s)(p:fH): nI (m+1) (fV s p):=by
 unfold fV
 split
 ·refine⟨by have:=h.xs;simp;omega,by have:=h.ids;simp;omega,by have:=h.next;dsimp only;omega,fun x hx=>?_⟩
  rcases bz.1 hx with hx | hx
  ·have:=h.ln x hx;omega
  ·rw[aU] at hx
   subst hx
   show -((m+1:Nat):Int)<=(0:Int)+1/\(0:Int)+1<=((m+1:Nat):Int)
   omega
 ·split
  ·rename_i x hx
   refine⟨by have:=h.xs;rw[dh];omega,by have:=h.ids;simp;omega,by have:=h.next;dsimp only;omega,fun y hy=>?_⟩
   rcases jI hy with hy | hy
   ·have:=h.ln y hy;omega
   ·subst hy
    have:=h.ln x (aC hx)
    show -((m+1:Nat):Int)<=x.ln+1/\x.ln+1<=((m+1:Nat):Int)
    omega
  ·exact h.mono Zo
theorem qU: ∀(ps:List fH) {m:Nat} {s:ym},nI m s->nI (m+ps.length) (bS s ps)
 | [],m,s,h=>h
 | p::ps,m,s,h=>(qU ps (Mv h p)).mono (by simp only[List.length_cons];omega)
theorem PO{σ:al}{s:ym}(h:∀ x∈s.xs,qk σ x){p:fH}(hp:uh σ p): ∀ x∈(fV s p).xs,qk σ x:=by
 unfold fV
 split
 ·intro x hx
  rcases bz.1 hx with hx | hx
  ·exact h x hx
  ·rw[aU] at hx;subst hx;exact hp
 ·split
  ·rename_i x hx
   intro y hy
   rcases jI hy with hy | hy
   ·exact h y hy
   ·subst hy;exact h x (aC hx)
  ·exact h
theorem sO{σ:al}: ∀(ps:List fH) {s:ym},(∀ x∈s.xs,qk σ x)->(∀ p∈ps,uh σ p)->∀ x∈(bS s ps).xs,qk σ x
 | [],_,h,_=>h
 | p::ps,_,h,hp=>sO ps (PO h (hp p a8)) fun q hq=>hp q (ba _ hq)
structure ZY where
 s:ym
 bo:Option Addr
 bc:Nat
 io:Option Addr
 ic:Nat
structure ZZ where
 xs:List cH
 next:Int
 j:Nat
 bo:Option Addr
 bc:Nat
theorem ah5(σ:al)(xs:List cH)(next:Int)(ao:Option Addr)(cap:Nat)(H:bu σ ao xs.length cap 3 (eI xs))(hx:∀ x∈xs,qk σ x)(ps:List fH)(po:Option Addr)(pc:Nat)(P:bu σ po ps.length pc 1 (oH ps))(hp:∀ p∈ps,uh σ p)(m:Nat)(lj:nI m ⟨xs,next,[]⟩)(hm:m+ps.length<=1000000):
  fa Tryz.prog 106 [.agg [.v (.slice ao xs.length cap),.v (.int .i64 next)],.a (.v (.slice po ps.length pc))] σ (fun v bD=>∃ bo bc io ic,v=.tuple #[.agg #[.slice bo (bS ⟨xs,next,[]⟩ ps).xs.length bc,.int .i64 (bS ⟨xs,next,[]⟩ ps).next],.slice io (bS ⟨xs,next,[]⟩ ps).ids.length ic] /\
   bu bD bo (bS ⟨xs,next,[]⟩ ps).xs.length bc 3 (eI (bS ⟨xs,next,[]⟩ ps).xs)/\bu bD io (bS ⟨xs,next,[]⟩ ps).ids.length ic 1 (kK (bS ⟨xs,next,[]⟩ ps).ids)):=by
 have pa:=lj.xs
 dsimp only at pa
 refine ek Tryz.func106 Z Z Zl fun w=>?_
 refine Za ?_
 refine dT [] (A0:=[]) (Ar:=[]) Z Z Z Z Z Z Z Tryz.call170 (by (repeat' (first | exact trivial | exact bh rfl | exact dF _ _ _ _ _ _ | exact dw _ _ | refine kz.of ?_ | refine SV.iv ?_ | exact SV.ez | exact AT.ez | exact eQ.qv (by assumption) | constructor))) (FY σ xs Zo ao cap H) fun v lQ A1 hle ⟨ZU,ZV,hv,mC,hA⟩=>⟨.a (.v (.slice ZU xs.length ZV)),trivial,hv.symm,?_⟩
 subst hA
 have hx:=fun x h=>(hx x h).mono hle
 have hp:=fun p h=>(hp p h).mono hle
 have P:=P.mono hle
 refine Hz ?_
 refine dV 3 1 ?_
 refine fm (fun(s:ZY)=>lQ) (fun s=>[(2,.a (.p 0 0)),(4,.a (.p 1 0)),(6,.a (.v (.slice s.io s.s.ids.length s.ic)))]) (fun s=>[(0,.loc 57,[.v (.slice s.bo s.s.xs.length s.bc),.v (.int .i64 s.s.next)]),(1,.loc 57,[.v (.slice none 0 0),.v (.int .i64 0)])])
  (fun s=>[Hp s.bo s.bc s.s.xs,Fv s.io s.ic s.s.ids]) 2 (fun s=>s.s=bS ⟨xs,next,[]⟩ ps/\s.s.xs.length<=s.bc/\s.s.ids.length<=s.ic) ?_ (fun s hs=>?_)
 rotate_left
 ·obtain⟨h1,h2,h3⟩:=hs
  obtain⟨s,bo,bc,io,ic⟩:=s
  dsimp only at h1 h2 h3 ⊢
  subst h1
  refine Zb ?_
  refine dD 0 Z Z fun nC cw x4=>?_
  refine dD 0 Z Z fun Up kV Fy=>?_
  refine aw TT rfl fun β w' _ _=>?_
  exact⟨bo,bc,io,ic,rfl,(vz x4 h2).mono kV,sk Fy h3⟩
 refine gC (fun _ (_:ZY)=>lQ) (fun(k:Nat) s=>[(2,.a (.p 0 0)),(4,.a (.p 1 0)),(6,.a (.v (.slice s.io s.s.ids.length s.ic))),(14,.a (.v (.slice po ps.length pc))),(15,.a (.v (.int .i64 ps.length))),(16,.a (.v (.int .i64 k)))])
  (fun _ s=>[(0,.loc 57,[.v (.slice s.bo s.s.xs.length s.bc),.v (.int .i64 s.s.next)]),(1,.loc 57,[.v (.slice none 0 0),.v (.int .i64 0)])]) (fun _ s=>[Hp s.bo s.bc s.s.xs,Fv s.io s.ic s.s.ids]) 2
  (fun k s=>k<=ps.length/\s.s=bS ⟨xs,next,[]⟩ (ps.take k)/\s.s.xs.length<=s.bc/\s.s.ids.length<=s.ic) (fun k _=>ps.length - k) 0 ⟨⟨xs,next,[]⟩,ZU,ZV,none,0⟩ ⟨ay _,rfl,mC,aq _⟩ rfl Zs Zs rfl Zl Zl fun k ⟨s,bo,bc,io,ic⟩ ⟨hk,hs,oq,hic⟩=>?_
 dsimp only at hs oq hic ⊢
 refine Za ?_
 refine aG rfl (fun h=>?_) (fun h=>?_)
 rotate_left
 ·have fQ:k=ps.length:=by have:=ab h;omega
  subst fQ
  rw[aI] at hs
  refine Ze ?_
  refine an (⟨s,bo,bc,io,ic⟩:ZY) ⟨hs,oq,hic⟩ aj rfl Zs Zs rfl Zl Zl
 have cz:k<ps.length:=by have:=ae h;omega
 have bU:=BT (aa cz)
 have hpo:=hp ps[k] (aP cz)
 have l8:bS ⟨xs,next,[]⟩ (ps.take (k+1))=fV s ps[k]:=by
  rw[ak cz,hs]
  unfold bS
  rw[List.foldl_append]
  rfl
 have hF:nI 999999 s:=by
  have:=qU (ps.take k) lj
  rw[<-hs,aE] at this
  exact this.mono Zo
 have hF1:=hF.xs
 have hF2:=hF.ids
 have hF3:=hF.next
 have vF:∀ x∈s.xs,qk lQ x:=by
  have:=sO (σ:=lQ) (ps.take k) (s:=⟨xs,next,[]⟩) hx fun p h=>hp p (dr h)
  rw[<-hs] at this
  exact this
 clear hs
 generalize ps[k]=p at *
 refine Zd ?_
 refine bk TT Z Z Z Z Z Z Z Z Z P Zo bU (Zr ?_)
 refine Za ?_
 refine uB Z Z Z Z Z Tryz.call116 Zl (fun bD h1 h2=>XY bD s.xs Zo bo bc s.next (vz (h2 0 _ rfl) oq) (fun x h=>(vF x h).mono h1) p.ss p.ao p.cap (hpo.mono h1).2) fun v hv=>⟨.a (.v (.int .i64 (j8 s.xs p.ss))),trivial,hv.symm,?_⟩
 refine gX ?_
 refine ji (fun(_:ZZ)=>lQ) (fun q=>[(2,.a (.p 0 0)),(4,.a (.p 1 0)),(6,.a (.v (.slice io s.ids.length ic))),(9,.a (.v (.int .i64 q.j))),(14,.a (.v (.slice po ps.length pc))),(15,.a (.v (.int .i64 ps.length))),(16,.a (.v (.int .i64 k)))])
  (fun q=>[(0,.loc 57,[.v (.slice q.bo q.xs.length q.bc),.v (.int .i64 q.next)]),(1,.loc 57,[.v (.slice none 0 0),.v (.int .i64 0)])]) (fun q=>[Hp q.bo q.bc q.xs,Fv io ic s.ids]) 2
  (fun q=>q.xs.length<=q.bc/\∃ x,q.xs[q.j]?=some x/\(-1000000<=x.ln/\x.ln<=1000000)/\(⟨q.xs.set q.j x.more,q.next,s.ids++[x.id]⟩:ym)=fV s p) ?_ (fun q hq=>?_)
 ·have LW:=xU s.xs p.ss
  refine aG rfl (fun h=>?_) (fun h=>?_)
  ·have h:=ae h
   have e:(s.xs++[pk s.next p]).length=s.xs.length+1:=by simp
   have pP:fV s p=⟨(s.xs++[pk s.next p]).set s.xs.length (pk s.next p).more,s.next+1,s.ids++[s.next]⟩:=by
    unfold fV
    rw[au h,dY _ _ (aq _),fM]
    rfl
   refine Za ?_
   refine bl TT 0 Z Z Z Z Z Z Z Z Z Z Z Z Z Z Z Z Z Z Zl rfl Zo (by show(s.xs.length+1)*40<=_;omega) fun iB dk gS=>aM TT rfl ?_
   refine Zg ?_
   refine an (⟨s.xs++[pk s.next p],s.next+1,s.xs.length,iB,dk⟩:ZZ) ⟨by dsimp only;omega,pk s.next p,by simp,by show(-1000000:Int)<=0/\(0:Int)<=1000000;omega,pP.symm⟩ aj rfl Zs ?_ ?_ Zl Zl
   ·dsimp only
    rw[e]
    (repeat first | exact trivial | refine⟨rfl,?_⟩)
   ·show [_,_]=[_,_]
    dsimp only
    unfold Hp
    rw[Af,e]
    rfl
  ·have h:=ab h
   obtain⟨j,hj⟩:∃ j:Nat,j8 s.xs p.ss=j:=⟨(j8 s.xs p.ss).toNat,by omega⟩
   have m2:j<s.xs.length:=by omega
   have pP:fV s p=⟨s.xs.set j s.xs[j].more,s.next,s.ids++[s.xs[j].id]⟩:=by
    unfold fV
    rw[ai h,hj,cd,aa m2]
   rw[hj]
   have hc:=hF.ln _ (aP m2)
   refine Zc ?_
   refine an (⟨s.xs,s.next,j,bo,bc⟩:ZZ) ⟨oq,s.xs[j],aa m2,by omega,pP.symm⟩ aj rfl Zs Zs rfl Zl Zl
 obtain⟨OP,RL,j,mbo,XW⟩:=q
 obtain⟨Yq,x,Fw,X9,pP⟩:=hq
 dsimp only at Yq Fw X9 pP ⊢
 have m2:=(ah.1 Fw).1
 refine jd 0 (E:=Hp mbo XW OP) rfl (show 0<OP.length by omega) fun gb rV=>?_
 have rV:mbo=some ⟨gb,0,none⟩:=rV
 subst rV
 have nz:∀ q:Nat,some (SV.a (AT.v (.pointer (some (Addr.add (Addr.add ⟨gb,0,none⟩ ((j:Int).toNat*3)) q)))))=some (SV.a (AT.v (.pointer (some ⟨gb,j*3+q,none⟩)))):=fun q=>by
  rw[cd,jM,Addr.add_lit]
 refine Za ?_
 refine br TT Z Z Z Z Z Z Z Z Z ⟨by omega,by omega⟩ (Zr ?_)
 refine eH 0 (off:=j*3+2) (c:=.v (.int .i64 x.ln)) TT Z Z Z Z Z (nz 2) Z Z Z Z (pq Fw rfl) trivial (Zr ?_)
 refine eO Z Z Z Z Z Z Zo (aM TT rfl ?_)
 refine br TT Z Z Z Z Z Z Z Z Z ⟨by omega,by omega⟩ (Zr ?_)
 refine jC 0 (off:=j*3+2) (A':=[Hp (some ⟨gb,0,none⟩) XW (OP.set j x.more),Fv io ic s.ids]) TT Z Z Z Z (nz 2) Z Z Z Z Z (by show j*3+2<OP.length*3;omega) trivial rfl ?_ (Zr ?_)
 ·show [_,_]=[_,_]
  unfold Hp
  rw[<-xS (j:=2) (r':=x.more) (.v (.int .i64 (x.ln+1))) Fw Zo rfl,dh]
 have LK:(OP.set j x.more)[j]?=some x.more:=by rw[eZ,au rfl,au m2]
 refine Za ?_
 refine br TT Z Z Z Z Z Z Z Z Z ⟨by omega,by omega⟩ (Zr ?_)
 refine eH 0 (off:=j*3+0) (c:=.v (.int .i64 x.id)) TT Z Z Z Z Z (nz 0) Z Z Z Z (pq (j:=0) LK rfl) trivial (Zr ?_)
 refine bl TT 1 Z Z Z Z Z Z Z Z Z Z Z Z Z Z Z Z Z Z Zl rfl Zo (by show(s.ids.length+1)*8<=_;omega) fun XZ X0 YA=>aM TT rfl ?_
 refine Zc ?_
 refine an (k+1,(⟨⟨OP.set j x.more,RL,s.ids++[x.id]⟩,some ⟨gb,0,none⟩,XW,XZ,X0⟩:ZY)) ⟨cz,by dsimp only;rw[pP,l8],by dsimp only;rw[dh];exact Yq,by dsimp only;rw[af];exact YA⟩ (by dsimp only;omega) rfl ?_ ?_ ?_ Zl Zl
 ·dsimp only
  rw[af]
  (repeat first | exact trivial | refine⟨rfl,?_⟩)
 ·dsimp only
  rw[dh]
  (repeat first | exact trivial | refine⟨rfl,?_⟩)
 ·show [_,_]=[_,_]
  dsimp only
  unfold Fv CV
  rw[aF,af]
  rfl
end Go.Sy
namespace Go.Sy
theorem FD{α β:Type}(q:β->Bool)(f:α->β): ∀(l:List α) (k:Nat),gT q (l.map f) k=gT (fun x=>q (f x)) l k
 | [],_=>rfl
 | x::l,k=>by simp only[bx,gT,FD q f l]
theorem JV{α:Type}(q:α->Bool): ∀(l:List α) (k:Nat),gT q l k = -1\/(k:Int)<=gT q l k
 | [],_=>.inl rfl
 | x::l,k=>by
  simp only[gT]
  split
  ·exact .inr (dB _)
  ·rcases JV q l (k+1) with h | h
   ·exact .inl h
   ·exact .inr Zo
theorem zx{α:Type}(q:α->Bool): ∀(l m:List α) (k:Nat),gT q (l++m) k=if gT q l k<0 then gT q m (k+l.length) else gT q l k
 | [],m,k=>by simp[gT]
 | x::l,m,k=>by
  simp only[aZ,gT,List.length_cons]
  split
  ·rw[ai Zo]
  ·rw[zx q l m (k+1),show k+1+l.length=k+(l.length+1) by omega]
theorem Dk{α:Type}{q:α->Bool}: ∀ {l:List α} {k:Nat} {j:Nat},gT q l k=(k+j:Nat)->∃ x,l[j]?=some x/\q x=true
 | x::l,k,j,h=>by
  simp only[gT] at h
  split at h
  ·rename_i hx
   have:j=0:=by omega
   subst this
   exact⟨x,rfl,hx⟩
  ·have hb:=JV q l (k+1)
   obtain⟨j,rfl⟩:∃ i,j=i+1:=⟨j - 1,by omega⟩
   obtain⟨y,h1,h2⟩:=Dk (l:=l) (k:=k+1) (j:=j) (by rw[h];congr 1;omega)
   exact⟨y,by simpa using h1,h2⟩
 | [],k,j,h=>by simp only[gT] at h;omega
theorem Jk(xs:List cH)(s:List ByteArray): j8 xs s=gT (fun t=>decide (t=s)) (xs.map cH.st) 0:=by
 rw[FD]
 rfl
theorem RS{xs:List cH}{s:List ByteArray}{j:Nat}(h:j8 xs s=j): ∃ x,xs[j]?=some x/\x.st=s:=by
 obtain⟨x,h1,h2⟩:=Dk (k:=0) (j:=j) (by rw[cG];exact h)
 exact⟨x,h1,ae h2⟩
theorem Ms{s:ym}{p:fH}(h:j8 s.xs p.ss<0): fV s p=⟨s.xs++[(pk s.next p).more],s.next+1,s.ids++[s.next]⟩:=au h
theorem Mr{s:ym}{p:fH}{j:Nat}{x:cH}(h:j8 s.xs p.ss=j)(hx:s.xs[j]?=some x): fV s p=⟨s.xs.set j x.more,s.next,s.ids++[x.id]⟩:=by
 unfold fV
 rw[ai Zo,h,cd,hx]
theorem Lr{xs:List cH}{j:Nat}{x:cH}(hx:xs[j]?=some x): (xs.set j x.more).map cH.st=xs.map cH.st:=by
 rw[lW]
 apply List.ext_getElem?
 intro i
 rw[eZ]
 split
 ·rename_i h
  subst h
  have dj:=(ah.1 hx).1
  rw[au (by simpa using dj),aO,hx]
  rfl
 ·rfl
structure Mx (s:ym):Prop where
 next:s.next=s.xs.length
 at_:∀(j:Nat) x,s.xs[j]?=some x->x.id=j/\1<=x.ln/\j8 s.xs x.st=j
theorem AG{s:ym}(h:Mx s)(p:fH): Mx (fV s p)/\(∀(j:Nat) x,s.xs[j]?=some x->∃ y,(fV s p).xs[j]?=some y/\y.st=x.st/\y.id=x.id) /\
  ∃(j:Nat) (y:cH),(fV s p).xs[j]?=some y/\y.st=p.ss/\(fV s p).ids=s.ids++[y.id]:=by
 have qu:=xU s.xs p.ss
 by_cases hn:j8 s.xs p.ss<0
 ·rw[Ms hn]
  refine⟨⟨by rw[h.next];simp,fun j x hx=>?_⟩,fun j x hx=>⟨x,?_,rfl,rfl⟩,s.xs.length,(pk s.next p).more,by simp,rfl,rfl⟩
  ·dsimp only at hx ⊢
   by_cases hj:j<s.xs.length
   ·rw[aV hj] at hx
    obtain⟨h1,h2,h3⟩:=h.at_ j x hx
    refine⟨h1,h2,?_⟩
    unfold j8 at h3 ⊢
    rw[zx,ai Zo,h3]
   ·rw[aW Zo] at hx
    have LZ:j - s.xs.length=0:=by
     have:=(ah.1 hx).1
     simpa using this
    rw[LZ] at hx
    simp only[bn,bf] at hx
    subst hx
    have m2:j=s.xs.length:=by omega
    subst m2
    refine⟨h.next,dB _,?_⟩
    unfold j8 at hn ⊢
    rw[zx]
    show(if gT (fun x=>decide (x.st=p.ss)) s.xs 0<0 then gT (fun x=>decide (x.st=p.ss)) [(pk s.next p).more] (0+s.xs.length) else _)=_
    rw[au hn]
    simp only[gT]
    rw[au (show decide ((pk s.next p).more.st=p.ss)=true from bj rfl),cG]
  ·dsimp only
   rw[aV (ah.1 hx).1]
   exact hx
 ·obtain⟨j,hj⟩:∃ j:Nat,j8 s.xs p.ss=j:=⟨(j8 s.xs p.ss).toNat,by omega⟩
  obtain⟨x,hx,pL⟩:=RS hj
  have dj:=(ah.1 hx).1
  rw[Mr hj hx]
  have hl:∀ t,j8 (s.xs.set j x.more) t=j8 s.xs t:=fun t=>by rw[Jk,Jk,Lr hx]
  have Sc:(s.xs.set j x.more)[j]?=some x.more:=by rw[eZ,au rfl,au dj]
  refine⟨⟨by dsimp only;rw[dh];exact h.next,fun i y hy=>?_⟩,fun i y hy=>?_,j,x.more,Sc,pL,rfl⟩
  ·dsimp only at hy ⊢
   rw[hl]
   by_cases iP:j=i
   ·subst iP
    rw[Sc] at hy
    obtain rfl:=bI hy
    obtain⟨h1,h2,h3⟩:=h.at_ j x hx
    exact⟨h1,by show 1<=x.ln+1;omega,h3⟩
   ·rw[eZ,ai iP] at hy
    exact h.at_ i y hy
  ·dsimp only
   by_cases iP:j=i
   ·subst iP
    rw[hx] at hy
    obtain rfl:=bI hy
    exact⟨x.more,Sc,rfl,rfl⟩
   ·exact⟨y,by rw[eZ,ai iP];exact hy,rfl,rfl⟩
theorem DM: ∀(ps:List fH) {s:ym},Mx s->Mx (bS s ps)/\(∀(j:Nat) x,s.xs[j]?=some x->∃ y,(bS s ps).xs[j]?=some y/\y.st=x.st/\y.id=x.id) /\
  ∃ t,(bS s ps).ids=s.ids++t/\t.length=ps.length
 | [],s,h=>⟨h,fun j x hx=>⟨x,hx,rfl,rfl⟩,[],by rw[aL];rfl,rfl⟩
 | p::ps,s,h=>by
  obtain⟨h1,h2,j0,y0,h3,h4,h5⟩:=AG h p
  obtain⟨g1,g2,t,g3,g4⟩:=DM ps h1
  refine⟨g1,fun j x hx=>?_,y0.id::t,?_,by simp[g4]⟩
  ·obtain⟨y,a1,a2,a3⟩:=h2 j x hx
   obtain⟨z,b1,b2,b3⟩:=g2 j y a1
   exact⟨z,b1,b2.trans a2,b3.trans a3⟩
  ·show(bS (fV s p) ps).ids=_
   rw[g3,h5,av]
   rfl
end Go.Sy
namespace Go.Sy
open Go.Proofs
def LH (v:Nat):List Nat->Nat->Int
 | [],_ => -1
 | m::ms,k=>if v=m then k else LH v ms (k+1)
structure GStep where
 key:ByteArray
 at_:Int
 named:Bool
deriving DecidableEq
def vd (s:GStep):List AT:=[.v (.string s.key),.v (.int .i64 s.at_),.b s.named]
def pf (l:List GStep):List (List AT):=l.map vd
theorem F7{l:List GStep}{i:Nat}{s:GStep}(h:l[i]?=some s): (pf l)[i]?=some (vd s):=by unfold pf;rw[aO,h];rfl
def l5 (x y:GStep):Bool:=!(x.named != y.named)&&!(x.named&&!decide (x.key=y.key))&&!(!x.named&&!decide (x.at_=y.at_))
def jR:List GStep->List GStep->Bool
 | [],[]=>true
 | x::a,y::b=>l5 x y&&jR a b
 | _,_=>false
end Go.Sy
namespace Go.Sy
open Go.Proofs
def Xz (l:List GStep):List Value:=(pf l).flatten.map AT.val
def XA (ao:Option Addr) (n cap:Nat) (l:List GStep):AE:=⟨ao,n,cap,329,3,Xz l⟩
end Go.Sy
namespace Go.Sy
open Go.Proofs
theorem Cv(L:List aH)(st:Int): ∀ k:Nat,-1<=nR L st k/\nR L st k<k
 | 0=>by simp[nR]
 | k+1=>by
  have:=Cv L st k
  simp only[nR]
  split<;>omega
theorem Ld(L:List aH)(i:Nat): -1<=jX L i/\jX L i<i:=Cv L _ i
def stepG (L:List aH) (i p:Nat):GStep :=
 match L[i]? with
 | some r=>⟨r.name,if r.nm then 0 else LH i (lN L p) 0,r.nm⟩
 | none=>⟨bF,0,false⟩
def P4 (L:List aH):Nat->Nat->List GStep
 | 0,_=>[]
 | n+1,i=>if jX L i<0 then [] else stepG L i (jX L i).toNat::P4 L n (jX L i).toNat
def rK (L:List aH) (i:Nat):List GStep:=(P4 L (i+1) i).reverse
theorem Ok{σ:al}{oo:Option Addr}{oc:Nat}{o:List GStep}(h:b9 σ (XA oo o.length oc o))(hc:o.length<=oc): bu σ oo o.length oc 3 (pf o) :=
 h.sl (E:=XA oo o.length oc o) rfl (fun r hr=>by
  obtain⟨k,_,rfl⟩:=bL.1 hr
  exact⟨rfl,fun c hc=>by simp[vd] at hc;rcases hc with rfl | rfl | rfl<;>trivial⟩) (by simp[pf]) rfl hc
end Go.Sy
namespace Go.Sy
mutual
def nX:aJ->Prop
 | .mk _ _ _ _ l ks vs=>pG ks=false/\tm l/\tm vs
def tm:List aJ->Prop
 | []=>True
 | g::gs=>nX g/\tm gs
end
mutual
theorem EO: ∀(g:aJ) (deep c:Int),(fW g deep c).1=0->nX g
 | .mk k b n s l ks vs,deep,c,h=>by
  simp only[fW] at h
  split at h
  ·simp at h
  split at h
  ·simp at h
  rename_i ht
  split at h
  ·simp at h
  split at h
  ·simp at h
  simp only[nX]
  have hl:(gI l deep (c+1)).1=0:=by
   by_cases h0:(gI l deep (c+1)).1=0
   ·exact h0
   ·rw[au h0] at h;exact h
  rw[ai (by simp[hl])] at h
  exact⟨by simpa using ht,wJ l _ _ hl,wJ vs _ _ h⟩
theorem wJ: ∀(gs:List aJ) (deep c:Int),(gI gs deep c).1=0->tm gs
 | [],_,_,_=>trivial
 | g::gs,deep,c,h=>by
  simp only[gI] at h
  have hg:(fW g (deep+1) c).1=0:=by
   by_cases h0:(fW g (deep+1) c).1=0
   ·exact h0
   ·rw[au h0] at h;exact h
  rw[ai (by simp[hg])] at h
  exact⟨EO g _ _ hg,wJ gs _ _ h⟩
end
theorem uL: ∀ {gs:List aJ} {g:aJ},tm gs->g∈gs->nX g
 | _::_,_,h,hm=>by
  cases hm with
  | head=>exact h.1
  | tail _ hm=>exact uL h.2 hm
theorem F5: ∀ {gs:List aJ} {g:aJ},aJ.pS gs->g∈gs->g.wf
 | _::_,_,h,hm=>by
  simp only[aJ.pS] at h
  cases hm with
  | head=>exact h.1
  | tail _ hm=>exact F5 h.2 hm
theorem zR: ∀(ks met:List ByteArray),mv met ks=false->(∀ k∈ks,k∉met)/\ks.Nodup
 | [],_,_=>⟨fun _ h=>(by cases h),List.nodup_nil⟩
 | k::ks,met,h=>by
  rw[mv] at h
  split at h
  ·cases h
  rename_i hk
  obtain⟨h1,h2⟩:=zR ks _ h
  refine⟨fun x hx=>?_,?_⟩
  ·cases hx with
   | head=>exact fun hm=>hk (tF.2 hm)
   | tail _ hx=>exact fun hm=>h1 x hx (eW _ hm)
  ·refine List.nodup_cons.2 ⟨fun hm=>h1 k hm (gH _ a8),h2⟩
structure mg where
 nm:Bool
 name:ByteArray
 v:aJ
def xX (l:List aJ):List mg:=l.map fun g=>⟨false,bF,g⟩
def uf:List aJ->List ByteArray->List mg
 | g::gs,k::ks=>⟨true,k,g⟩::uf gs ks
 | _,_=>[]
def jt (g:aJ):List mg:=xX g.l++uf g.vs g.ks
def gk (xs:List mg):List aJ:=xs.map mg.v
theorem Uu(l:List aJ): gk (xX l)=l:=by simp[gk,xX,Function.comp_def]
theorem Jr: ∀(vs:List aJ) (ks:List ByteArray),ks.length=vs.length->(uf vs ks).length=vs.length/\gk (uf vs ks)=vs
 | [],[],_=>⟨rfl,rfl⟩
 | g::gs,k::ks,h=>by
  obtain⟨h1,h2⟩:=Jr gs ks (by simpa using h)
  exact⟨by simp[uf,h1],by simp only[gk,uf,bx] at h2 ⊢;rw[h2]⟩
 | [],_::_,h=>by simp at h
 | _::_,[],h=>by simp at h
theorem CS: ∀(vs:List aJ) (ks:List ByteArray) (m:Nat) (x:mg),(uf vs ks)[m]?=some x->x.nm=true/\ks[m]?=some x.name/\vs[m]?=some x.v
 | [],ks,m,x,h=>by cases ks<;>simp[uf] at h
 | g::gs,[],m,x,h=>by simp[uf] at h
 | g::gs,k::ks,0,x,h=>by simp only[uf,bn,bf] at h;subst h;exact⟨rfl,rfl,rfl⟩
 | g::gs,k::ks,m+1,x,h=>by
  simp only[uf,bg] at h ⊢
  exact CS gs ks m x h
theorem Qj(g:aJ): g.wf↔g.ks.length=g.vs.length/\aJ.pS g.l/\aJ.pS g.vs:=by cases g;simp only[aJ.wf,aJ.ks,aJ.vs,aJ.l]
theorem Fp(g:aJ): nX g↔pG g.ks=false/\tm g.l/\tm g.vs:=by cases g;simp only[nX,aJ.ks,aJ.vs,aJ.l]
theorem nL{g:aJ}(h:g.wf): gk (jt g)=g.l++g.vs:=by
 have h1:=(Jr g.vs g.ks ((Qj g).1 h).1).2
 have h0:=Uu g.l
 unfold gk at h0 h1 ⊢
 rw[jt,aF,h0,h1]
theorem Bl{g:aJ}{x:mg}(h:g.wf)(hx:x∈jt g): x.v∈g.l++g.vs:=by
 rw[<-nL h]
 exact bL.2 ⟨x,hx,rfl⟩
theorem LA{g:aJ}{x:mg}(h:g.wf)(hx:x∈jt g): x.v.wf:=by
 have h':=(Qj g).1 h
 rcases bz.1 (Bl h hx) with hm | hm
 ·exact F5 h'.2.1 hm
 ·exact F5 h'.2.2 hm
theorem R0{g:aJ}{x:mg}(h:g.wf)(hk:nX g)(hx:x∈jt g): nX x.v:=by
 have h':=(Fp g).1 hk
 rcases bz.1 (Bl h hx) with hm | hm
 ·exact uL h'.2.1 hm
 ·exact uL h'.2.2 hm
def stepOf (m:Nat) (x:mg):GStep:=⟨x.name,if x.nm then 0 else m,x.nm⟩
theorem KS{g:aJ}(hk:nX g){m n:Nat}{x y:mg}(hx:(jt g)[m]?=some x)(hy:(jt g)[n]?=some y)(h:stepOf m x=stepOf n y): m=n:=by
 unfold stepOf at h
 injection h with h1 h2 h3
 cases qt:x.nm with
 | false =>
  rw[qt] at h2 h3
  rw[<-h3] at h2
  simp at h2
  omega
 | true =>
  rw[qt] at h3
  have ZD:=(zR _ _ ((Fp g).1 hk).1).2
  have key:∀ {m:Nat} {x:mg},(jt g)[m]?=some x->x.nm=true->g.l.length<=m/\g.ks[m - g.l.length]?=some x.name:=by
   intro m x hx hn
   unfold jt at hx
   by_cases hm:m<g.l.length
   ·rw[aV (by simpa[xX] using hm)] at hx
    simp only[xX,aO,Option.map_eq_some_iff] at hx
    obtain⟨_,_,rfl⟩:=hx
    cases hn
   ·rw[aW (by simp[xX];omega)] at hx
    have hl:(xX g.l).length=g.l.length:=by simp[xX]
    rw[hl] at hx
    exact⟨by omega,(CS _ _ _ _ hx).2.1⟩
  obtain⟨a1,a2⟩:=key hx qt
  obtain⟨b1,b2⟩:=key hy h3.symm
  have dj:=(ah.1 a2).1
  have:=(List.getElem?_inj (j:=n - g.l.length) dj ZD).1 (by rw[a2,b2,h1])
  omega
def gZ (aK:Int):List mg->Int->Int->List aH×Int
 | [],_,now=>([],now)
 | x::xs,lv,now =>
  let p:=bG aK x.v lv x.nm x.name now
  let q:=gZ aK xs lv p.2
  (p.1++q.1,q.2)
theorem Ip(aK:Int): ∀(l:List aJ) (lv now:Int),gZ aK (xX l) lv now=cN aK l lv now
 | [],_,_=>rfl
 | g::gs,lv,now=>by
  show gZ aK (⟨false,bF,g⟩::xX gs) lv now=_
  simp only[gZ,cN,Ip aK gs]
  rfl
theorem Io(aK:Int): ∀(vs:List aJ) (ks:List ByteArray) (lv now:Int),gZ aK (uf vs ks) lv now=cU aK vs ks lv now
 | [],[],_,_=>rfl
 | [],_::_,_,_=>rfl
 | _::_,[],_,_=>rfl
 | g::gs,k::ks,lv,now=>by simp only[uf,gZ,cU,Io aK gs ks]
theorem rJ(aK:Int): ∀(a b:List mg) (lv now:Int),gZ aK (a++b) lv now=((gZ aK a lv now).1++(gZ aK b lv (gZ aK a lv now).2).1,(gZ aK b lv (gZ aK a lv now).2).2)
 | [],b,lv,now=>by simp[gZ]
 | x::a,b,lv,now=>by simp only[aZ,gZ,rJ aK a b,av]
theorem oL(aK:Int)(g:aJ)(lv:Int)(nm:Bool)(name:ByteArray)(now:Int)(h:g.wf):
  (bG aK g lv nm name now).1=⟨now+aK,now+wV aK g,lv,g.kind,nm,name,g.b,g.n,g.s⟩::(gZ aK (jt g) (lv+1) (now+aK)).1:=by
 have h2:=(oK aK g lv nm name now h).2
 rw[my] at h2 ⊢
 dsimp only at h2 ⊢
 rw[h2,jt,rJ,Ip,Io]
theorem vg(aK:Int): ∀(xs:List mg) (lv now:Int),aJ.pS (gk xs)->(gZ aK xs lv now).1.map se=vf aK (gk xs) now/\(gZ aK xs lv now).2=now+wL aK (gk xs)
 | [],lv,now,_=>by simp[gZ,vf,wL,gk]
 | x::xs,lv,now,h=>by
  simp only[gk,bx,aJ.pS] at h ⊢
  obtain⟨h1,h2⟩:=oK aK x.v lv x.nm x.name now h.1
  obtain⟨h3,h4⟩:=vg aK xs lv (bG aK x.v lv x.nm x.name now).2 h.2
  rw[h2] at h3 h4
  simp only[gk] at h3 h4
  simp only[gZ,vf,wL,aF,h1,h2,h3,h4]
  exact⟨trivial,by omega⟩
theorem sT: ∀ {a b:List aJ},aJ.pS (a++b)↔aJ.pS a/\aJ.pS b
 | [],b=>by simp[aJ.pS]
 | g::a,b=>by simp only[aZ,aJ.pS,sT (a:=a),and_assoc]
theorem sS{g:aJ}(h:g.wf): aJ.pS (gk (jt g)):=by
 rw[nL h,sT]
 exact((Qj g).1 h).2
def lk (xs:List mg):Nat:=lD (gk xs)
def wI (aK:Int) (xs:List mg):Int:=wL aK (gk xs)
inductive Sub (aK:Int):aJ->Nat->Int->List GStep->aJ->Nat->Int->Prop
 | refl (g:aJ) (p:Nat) (now:Int):Sub aK g p now [] g p now
 | step {g:aJ} {p:Nat} {now:Int} {m:Nat} {x:mg} {P:List GStep} {h:aJ} {q:Nat} {vR:Int} (hx:(jt g)[m]?=some x)
   (hs:Sub aK x.v (p+1+lk ((jt g).take m)) (now+aK+wI aK ((jt g).take m)) P h q vR):Sub aK g p now (stepOf m x::P) h q vR
theorem yb{g:aJ}(h:g.wf): nG g=1+lk (jt g):=by rw[lk,nL h,rC,NQ]
theorem Qm{aK:Int}{g:aJ}(h:g.wf): wV aK g=aK+wI aK (jt g)+aK:=by rw[wI,nL h,Qk]
theorem BV{xs:List mg}{m:Nat}{x:mg}(h:xs[m]?=some x): xs=xs.take m++x::xs.drop (m+1):=by
 have hl:=(ah.1 h).1
 have:=(ah.1 h).2
 rw[<-this,<-aB hl,cK]
theorem mr(a b:List mg): gk (a++b)=gk a++gk b:=by simp[gk]
theorem Ql{aK:Int}{xs:List mg}{m:Nat}{x:mg}(h:xs[m]?=some x): wI aK xs=wI aK (xs.take m)+(wV aK x.v+wI aK (xs.drop (m+1))):=by
 conv=>lhs;rw[BV h]
 unfold wI
 rw[mr,yA]
 rfl
theorem Mh{xs:List mg}{m:Nat}{x:mg}(h:xs[m]?=some x): lk xs=lk (xs.take m)+(nG x.v+lk (xs.drop (m+1))):=by
 conv=>lhs;rw[BV h]
 unfold lk
 rw[mr,rC]
 rfl
theorem UB{aK:Int}(g:aJ): g.wf->∀(p:Nat) (now:Int) (i:Nat),p<=i->i<p+nG g->∃ P h vR,Sub aK g p now P h i vR:=by
 induction g using aJ.sL with | _ g ih=>?_
 intro hw p now i h1 h2
 by_cases hi:i=p
 ·subst hi;exact⟨[],g,now,.refl g i now⟩
 have key:∀ n,n<=(jt g).length->i<p+1+lk ((jt g).take n)->∃ P h vR,Sub aK g p now P h i vR:=by
  intro n
  induction n with
  | zero =>
   intro _ h
   have:lk ((jt g).take 0)=0:=by rw[fv];rfl
   omega
  | succ n ihn =>
   intro hn h
   by_cases dj:i<p+1+lk ((jt g).take n)
   ·exact ihn Zo dj
   ·have hx:(jt g)[n]?=some (jt g)[n]:=aa Zo
    generalize (jt g)[n]=x at hx
    have e:(jt g).take (n+1)=(jt g).take n++[x]:=by rw[ak Zo,(ah.1 hx).2]
    have hc:lk ((jt g).take (n+1))=lk ((jt g).take n)+nG x.v:=by
     unfold lk
     rw[e,mr,rC]
     rfl
    have hm:=aC hx
    obtain⟨P,h',vR,hs⟩:=ih x.v (vD (Bl hw hm)) (LA hw hm) (p+1+lk ((jt g).take n)) (now+aK+wI aK ((jt g).take n)) i Zo Zo
    exact⟨_,_,_,.step hx hs⟩
 have hc:=yb hw
 exact key (jt g).length (aq _) (by rw[aI];omega)
theorem Z2{aK:Int}(hg:0<aK)(xs:List mg): 0<=wI aK xs:=xq hg _
structure Loc (aK:Int) (L:List aH) (g:aJ) (p:Nat) (now:Int) (pre:List GStep):Prop where
 wf:g.wf
 keys:nX g
 at_:∃ nm name rest,L.drop p=(bG aK g pre.length nm name now).1++rest/\front (now+wV aK g) (rest.map se)
 place:∀ n,p<n->P4 L n p=pre.reverse
theorem Cw{L:List aH}{st:Int}{p:Nat}: ∀ {q:Nat},p<q->(∀ k,p<k->k<q->(L[k]?.map aH.en).getD 0<st)->¬ (L[p]?.map aH.en).getD 0<st->nR L st q=p
 | 0,h,_,_=>by omega
 | q+1,h,hk,hp=>by
  rw[nR]
  by_cases hq:q=p
  ·subst hq;rw[ai hp]
  ·rw[au (hk q Zo Zo)]
   exact Cw Zo (fun k h1 h2=>hk k h1 Zo) hp
theorem xF: ∀(gs:List aJ) (p m:Nat),m<gs.length->(pos gs p)[m]?=some (p+lD (gs.take m))
 | [],_,_,h=>by simp at h
 | g::gs,p,0,_=>by simp[pos,lD]
 | g::gs,p,m+1,h=>by
  rw[pos,bg,xF gs _ m (by simpa using h),cX,lD]
  congr 1
  omega
theorem Nh: ∀(l:List Nat) (v m k:Nat),l[m]?=some v->(∀ j,j<m->l[j]?≠some v)->LH v l k=(k+m:Nat)
 | [],v,m,k,h,_=>by simp at h
 | x::l,v,0,k,h,_=>by
  simp only[bn,bf] at h
  rw[LH,au h.symm,eM]
 | x::l,v,m+1,k,h,hj=>by
  have h0:=hj 0 Zo
  simp only[bn,ne_eq,bf] at h0
  rw[LH,ai (fun e=>h0 e.symm),Nh l v m (k+1) (by simpa using h) fun j dj=>by simpa using hj (j+1) Zo]
  congr 1
  omega
theorem XB{aK:Int}(hg:0<aK){gs:List aJ}{now:Int}{S T:Sk}{p k:Nat}{x:Int×Int}(h:S.drop p=vf aK gs now++T)(h1:p<=k)(h2:k<p+lD gs)(hx:S[k]?=some x): x.2<=now+wL aK gs:=by
 have:(S.drop p)[k - p]?=some x:=by rw[fF,show p+(k - p)=k by omega];exact hx
 rw[h,aV (by rw[ve];omega)] at this
 exact(Gc hg gs now x (aC this)).2.2
theorem zF{α:Type}{L T rest:List α}{p:Nat}{x:α}(h:L.drop p=x::T++rest): L[p]?=some x:=by
 have:(L.drop p)[0]?=some x:=by rw[h];rfl
 simpa using this
theorem Loc.aa6{aK:Int}{L:List aH}{g:aJ}{p:Nat}{now:Int}{pre:List GStep}(h:Loc aK L g p now pre):
  ∃ nm name,L[p]?=some ⟨now+aK,now+wV aK g,pre.length,g.kind,nm,name,g.b,g.n,g.s⟩:=by
 obtain⟨nm,name,rest,h1,-⟩:=h.at_
 rw[oL _ _ _ _ _ _ h.wf] at h1
 exact⟨nm,name,zF h1⟩
theorem Loc.kids{aK:Int}(hg:0<aK){L:List aH}{g:aJ}{p:Nat}{now:Int}{pre:List GStep}(h:Loc aK L g p now pre):
  lN L p=pos (g.l++g.vs) (p+1):=by
 obtain⟨nm,name,rest,h1,L3⟩:=h.at_
 have h2:=aN (List.map se) h1
 rw[dR,aF,(oK aK g _ nm name now h.wf).1,KU,aZ] at h2
 obtain⟨h3,h4⟩:=NM h2
 have hlen:(L.map se).length=p+(1+(lD (g.l++g.vs)+(rest.map se).length)):=by
  have hp:p<=(L.map se).length:=by
   have:=(ah.1 h3).1
   omega
  have:=aN List.length h2
  rw[bm,List.length_cons,af,ve] at this
  omega
 have hwe:=Qk aK g
 rw[RY]
 unfold Ly
 rw[h3]
 refine Fm hg (rest:=rest.map se) (fun x hx=>?_) (g.l++g.vs) (p+1) (now+aK) _ h4 ?_ ?_
 ·exact L3 x hx
 ·show _<=now+wV aK g
  omega
 ·have:=U0 (g.l++g.vs)
  omega
theorem Loc.kid{aK:Int}(hg:0<aK){L:List aH}{g:aJ}{p:Nat}{now:Int}{pre:List GStep}(h:Loc aK L g p now pre){m:Nat}{x:mg}(hx:(jt g)[m]?=some x):
  Loc aK L x.v (p+1+lk ((jt g).take m)) (now+aK+wI aK ((jt g).take m)) (pre++[stepOf m x])/\jX L (p+1+lk ((jt g).take m))=p:=by
 have hm:=aC hx
 have LM:=LA h.wf hm
 have Yt:=h.kids hg
 obtain⟨nm,name,rest,h1,L3⟩:=h.at_
 rw[oL _ _ _ _ _ _ h.wf] at h1
 have Ev:L.drop (p+1)=(gZ aK (jt g) (pre.length+1) (now+aK)).1++rest:=by
  rw[<-List.drop_drop,h1]
  rfl
 have hwi:=sS h.wf
 have Zz:=BV hx
 have hwt:aJ.pS (gk ((jt g).take m)):=by
  rw[Zz,mr,sT] at hwi
  exact hwi.1
 have hwd:aJ.pS (gk ((jt g).drop (m+1))):=by
  rw[Zz,mr,sT] at hwi
  exact hwi.2.2
 have hsk:=vg aK ((jt g).take m) (pre.length+1) (now+aK) hwt
 have Pf:=Ev
 rw[Zz,rJ,hsk.2] at Ev
 simp only[gZ,av] at Ev
 have lJ:(gZ aK ((jt g).take m) (pre.length+1) (now+aK)).1.length=lk ((jt g).take m):=by
  have:=aN List.length hsk.1
  rw[aR,ve] at this
  exact this
 have VJ:L.drop (p+1+lk ((jt g).take m))=(bG aK x.v (pre.length+1) x.nm x.name (now+aK+wI aK ((jt g).take m))).1++((gZ aK ((jt g).drop (m+1)) (pre.length+1) (bG aK x.v (pre.length+1) x.nm x.name (now+aK+wI aK ((jt g).take m))).2).1++rest):=by
  rw[<-lJ,<-List.drop_drop,Ev,List.drop_left]
  rfl
 have hsv:=oK aK x.v (pre.length+1) x.nm x.name (now+aK+wI aK ((jt g).take m)) LM
 have hwe:=Qm (aK:=aK) h.wf
 have hws:=Ql (aK:=aK) hx
 have ak3:=vg aK ((jt g).drop (m+1)) (pre.length+1) (bG aK x.v (pre.length+1) x.nm x.name (now+aK+wI aK ((jt g).take m))).2 hwd
 have am5:front (now+aK+wI aK ((jt g).take m)+wV aK x.v) (((gZ aK ((jt g).drop (m+1)) (pre.length+1) (bG aK x.v (pre.length+1) x.nm x.name (now+aK+wI aK ((jt g).take m))).2).1++rest).map se):=by
  rw[aF,ak3.1,hsv.2]
  refine Fz hg _ L3 ?_
  show _+wI aK ((jt g).drop (m+1))<=_
  omega
 have hq:L[p+1+lk ((jt g).take m)]?=some ⟨now+aK+wI aK ((jt g).take m)+aK,now+aK+wI aK ((jt g).take m)+wV aK x.v,pre.length+1,x.v.kind,x.nm,x.name,x.v.b,x.v.n,x.v.s⟩:=by
  rw[oL _ _ _ _ _ _ LM] at VJ
  exact zF VJ
 have hp:L[p]?=some ⟨now+aK,now+wV aK g,pre.length,g.kind,nm,name,g.b,g.n,g.s⟩:=zF h1
 have aq3:=Z2 hg ((jt g).drop (m+1))
 have aq1:=KM hg x.v
 have aq0:2*aK<=wV aK x.v:=by
  have:=Qk aK x.v
  have:=xq hg (x.v.l++x.v.vs)
  omega
 have ae0:jX L (p+1+lk ((jt g).take m))=p:=by
  unfold jX
  rw[hq]
  refine Cw Zo (fun k zm yx=>?_) ?_
  ·show(L[k]?.map aH.en).getD 0<now+aK+wI aK ((jt g).take m)+aK
   have hS:(L.map se).drop (p+1)=vf aK (gk (jt g)) (now+aK)++rest.map se:=by
    rw[<-dR,Pf,aF,(vg aK (jt g) _ _ hwi).1]
   rw[Zz,mr,wE,av] at hS
   have cz:k<L.length:=by
    have:=(ah.1 hq).1
    omega
   have hkx:(L.map se)[k]?=some (se L[k]):=by rw[aO,aa cz];rfl
   have:=XB hg hS (k:=k) Zo yx hkx
   rw[aa cz]
   show L[k].en<_
   have JH:(se L[k]).2=L[k].en:=rfl
   rw[JH] at this
   have aq2:wI aK ((jt g).take m)=wL aK (gk ((jt g).take m)):=rfl
   omega
  ·rw[hp]
   show ¬ now+wV aK g<now+aK+wI aK ((jt g).take m)+aK
   omega
 refine⟨⟨LM,R0 h.wf h.keys hm,⟨x.nm,x.name,_,?_,am5⟩,fun n hn=>?_⟩,ae0⟩
 ·rw[af,b8]
  exact VJ
 ·obtain⟨n,rfl⟩:∃ k,n=k+1:=⟨n - 1,by omega⟩
  unfold P4
  rw[ae0,ai Zo,cd,h.place n Zo,List.reverse_append]
  show stepG L (p+1+lk ((jt g).take m)) p::_=[stepOf m x]++_
  rw[List.singleton_append]
  congr 1
  unfold stepG stepOf
  rw[hq]
  dsimp only
  congr 1
  rw[Yt]
  split
  ·rfl
  ·have LU:m<(g.l++g.vs).length:=by
    rw[<-nL h.wf]
    simpa[gk] using (ah.1 hx).1
   have mi:∀ j,lD ((g.l++g.vs).take j)=lk ((jt g).take j):=fun j=>by
    rw[<-nL h.wf,lk,gk,gk,dG]
   have:=Nh (pos (g.l++g.vs) (p+1)) (p+1+lk ((jt g).take m)) m 0 (by rw[xF _ _ _ LU,mi]) (fun j hj=>by
    rw[xF _ _ _ Zo,mi]
    intro e
    have e:=bI e
    have tC:(jt g)[j]?=some ((jt g)[j]'(by have:=(ah.1 hx).1;omega)):=aa _
    have hj2:((jt g).take m)[j]?=some ((jt g)[j]'(by have:=(ah.1 hx).1;omega)):=by rw[fE,au hj];exact tC
    have hc:=Mh hj2
    rw[kc,gA Zo] at hc
    have:=uY ((jt g)[j]'(by have:=(ah.1 hx).1;omega)).v
    omega)
   rw[this]
   omega
theorem Loc.sub{aK:Int}(hg:0<aK){L:List aH}{g:aJ}{p:Nat}{now:Int}{P:List GStep}{h:aJ}{q:Nat}{vR:Int}(hs:Sub aK g p now P h q vR):
  ∀ {pre:List GStep},Loc aK L g p now pre->Loc aK L h q vR (pre++P):=by
 induction hs with
 | refl g p now=>intro pre hl;rw[aL];exact hl
 | @step g p now m x P h q vR hx hs ih =>
  intro pre hl
  have:=ih (hl.kid hg hx).1
  rw[av] at this
  exact this
theorem uJ{aK:Int}{g:aJ}{nm:Bool}{name:ByteArray}(hw:g.wf)(hk:nX g): Loc aK (bG aK g 0 nm name 0).1 g 0 0 []:=by
 refine⟨hw,hk,⟨nm,name,[],by rw[cJ,aL];rfl,fun x hx=>by cases hx⟩,fun n hn=>?_⟩
 obtain⟨n,rfl⟩:∃ k,n=k+1:=⟨n - 1,by omega⟩
 unfold P4
 rw[au (by unfold jX nR;omega)]
 rfl
theorem On{aK:Int}(hg:0<aK){g:aJ}{nm:Bool}{name:ByteArray}(hw:g.wf)(hk:nX g){i:Nat}(hi:i<nG g):
  ∃ h now,Sub aK g 0 0 (rK (bG aK g 0 nm name 0).1 i) h i now/\Loc aK (bG aK g 0 nm name 0).1 h i now (rK (bG aK g 0 nm name 0).1 i):=by
 obtain⟨P,h,now,hs⟩:=UB (aK:=aK) g hw 0 0 i (ay _) Zo
 have hl:=Loc.sub hg hs (uJ (nm:=nm) (name:=name) hw hk)
 rw[cF] at hl
 have:rK (bG aK g 0 nm name 0).1 i=P:=by
  unfold rK
  rw[hl.place (i+1) Zo,List.reverse_reverse]
 rw[this]
 exact⟨h,now,hs,hl⟩
end Go.Sy
namespace Go.Sy
open Go.Proofs
theorem bu.front{σ:al}{ao:Option Addr}{n cap sz:Nat}{rows:List (List AT)}(h:bu σ ao n cap sz rows){k:Nat}(hk:k<=n): bu σ ao k cap sz (rows.take k):=by
 refine⟨by rw[aE,h.len];omega,ep hk h.pn,fun r hr=>h.qv r (dr hr),?_⟩
 rcases h.at_ with h0 | ⟨ad,h1,h2⟩
 ·exact .inl Zo
 ·refine .inr ⟨ad,h1,fun i r j c hr hc=>h2 i r j c ?_ hc⟩
  rw[fE] at hr
  split at hr
  ·exact hr
  ·cases hr
end Go.Sy
namespace Go.Sy
open Go.Proofs
def sC (s:GStep) (n:Nat) (r:aH):Bool:=(s.named&&r.nm&&decide (r.name=s.key))||(!s.named&&!r.nm&&decide ((n:Int)=s.at_))
def kN (L:List aH) (s:GStep):List Nat->Nat->Option Nat
 | [],_=>none
 | k::ks,n=>match L[k]? with
  | some r=>if sC s n r then some k else kN L s ks (n+1)
  | none=>none
def l9 (L:List aH):Nat->List GStep->Int
 | i,[]=>i
 | i,s::l=>match kN L s (lN L i) 0 with
  | some k=>l9 L k l
  | none => -1
theorem Di{L:List aH}{s:GStep}: ∀ {ks:List Nat} {n k:Nat},kN L s ks n=some k->k<L.length
 | x::ks,n,k,h=>by
  unfold kN at h
  cases hx:L[x]? with
  | none=>rw[hx] at h;cases h
  | some r =>
   rw[hx] at h
   dsimp only at h
   split at h
   ·obtain rfl:=bI h
    exact(ah.1 hx).1
   ·exact Di h
end Go.Sy
namespace Go.Sy
theorem Loc.Gz{aK:Int}(hg:0<aK){L:List aH}{g:aJ}{p:Nat}{now:Int}{pre:List GStep}(h:Loc aK L g p now pre){m:Nat}{x:mg}(hx:(jt g)[m]?=some x):
  ∃ r,L[p+1+lk ((jt g).take m)]?=some r/\r.nm=x.nm/\r.name=x.name:=by
 obtain⟨h1,h2⟩:=h.kid hg hx
 obtain⟨nm,name,h3⟩:=h1.aa6
 have h4:=h1.place (p+1+lk ((jt g).take m)+1) Zo
 unfold P4 at h4
 rw[h2,ai Zo,List.reverse_append] at h4
 have h5:stepG L (p+1+lk ((jt g).take m)) ((p:Int).toNat)=stepOf m x:=(List.cons.inj h4).1
 unfold stepG stepOf at h5
 rw[h3] at h5
 dsimp only at h5
 injection h5 with h6 h7 h8
 exact⟨_,h3,h8,h6⟩
theorem FC{L:List aH}{s:GStep}: ∀ {ks:List Nat} {n m q:Nat} {r:aH},(∀(j k:Nat),j<m->ks[j]?=some k->∃ r,L[k]?=some r/\sC s (n+j) r=false)->ks[m]?=some q->L[q]?=some r->sC s (n+m) r=true ->
  kN L s ks n=some q
 | k::ks,n,0,q,r,_,h1,h2,h3=>by
  simp only[bn,bf] at h1
  subst h1
  unfold kN
  rw[h2]
  dsimp only
  rw[eM] at h3
  rw[au h3]
 | k::ks,n,m+1,q,r,h,h1,h2,h3=>by
  obtain⟨r0,a1,a2⟩:=h 0 k Zo rfl
  unfold kN
  rw[a1]
  dsimp only
  rw[eM] at a2
  rw[a2,ai (by simp)]
  refine FC (m:=m) (fun j k' hj Hx=>?_) (by simpa using h1) h2 (by rw[show n+1+m=n+(m+1) by omega];exact h3)
  have:=h (j+1) k' Zo (by simpa using Hx)
  rw[show n+(j+1)=n+1+j by omega] at this
  exact this
 | [],_,_,_,_,_,h1,_,_=>by simp at h1
theorem Loc.xV{aK:Int}(hg:0<aK){L:List aH}{g:aJ}{p:Nat}{now:Int}{pre:List GStep}(h:Loc aK L g p now pre){m:Nat}(hm:m<(jt g).length): (lN L p)[m]?=some (p+1+lk ((jt g).take m)):=by
 rw[h.kids hg,<-nL h.wf,xF _ _ _ (by simpa[gk] using hm)]
 unfold lk gk
 rw[dG]
theorem Pn(m:Nat)(x:mg){r:aH}(h1:r.nm=x.nm)(h2:r.name=x.name): sC (stepOf m x) m r=true:=by
 unfold sC stepOf
 rw[h1,h2]
 cases x.nm<;>simp
theorem Mc{g:aJ}(hk:nX g){j m:Nat}{x y:mg}(hx:(jt g)[m]?=some x)(hy:(jt g)[j]?=some y)(jv:j≠m){r:aH}(h1:r.nm=y.nm)(h2:r.name=y.name): sC (stepOf m x) j r=false:=by
 have pL:stepOf j y≠stepOf m x:=fun e=>jv (KS hk hy hx e)
 unfold sC stepOf at *
 rw[h1,h2]
 cases hxn:x.nm<;>cases hyn:y.nm<;>simp_all
 ·omega
theorem RR{aK:Int}(hg:0<aK){L:List aH}{g:aJ}{p:Nat}{now:Int}{P:List GStep}{h:aJ}{q:Nat}{a:Int}(hs:Sub aK g p now P h q a): ∀ {pre:List GStep},Loc aK L g p now pre->l9 L p P=q:=by
 induction hs with
 | refl=>intro pre _;rfl
 | @step g p now m x P h q a hx hs ih =>
  intro pre hl
  have dj:=(ah.1 hx).1
  obtain⟨r,h1,h2,h3⟩:=hl.Gz hg hx
  have hf:kN L (stepOf m x) (lN L p) 0=some (p+1+lk ((jt g).take m)):=by
   refine FC (m:=m) (fun j k hj hk=>?_) (hl.xV hg dj) h1 (by rw[cG];exact Pn m x h2 h3)
   have hy:(jt g)[j]?=some ((jt g)[j]'Zo):=aa _
   obtain⟨r',a1,a2,a3⟩:=hl.Gz hg hy
   rw[hl.xV hg Zo] at hk
   obtain rfl:=bI hk
   exact⟨r',a1,by rw[cG];exact Mc hl.keys hx hy Zo a2 a3⟩
  rw[l9,hf]
  exact ih (hl.kid hg hx).1
end Go.Sy
