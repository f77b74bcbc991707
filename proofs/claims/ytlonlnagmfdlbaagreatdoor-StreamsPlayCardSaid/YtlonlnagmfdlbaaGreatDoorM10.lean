/- Parts of the proof of CStreamsPlay: F67, F68, Lr, F69, K16, K17, F70, K18, K18b, Lw, S11, Sv, P5. No conditions. -/
import Derived.Test.YtlonlnagmfdlbaaGreatDoorM9
set_option maxRecDepth 100000
set_option maxHeartbeats 16000000
namespace Go.Sy
open Go.Proofs
theorem QP(σ:al)(r:Int): bZ Tryz.prog 206 [.a (.v (.int .i64 r))] σ (fun v=>v=.bool (il r)):=by
 refine bW Tryz.func206 Z Z Zl fun w=>?_
 refine Za ?_
 refine ax 5 rfl (fun h=>?_) (fun h=>?_)<;>refine Zr ?_
 ·refine ax 9 rfl (fun h'=>?_) (fun h'=>?_)<;>refine Zr ?_
  ·refine Zb ?_
   refine aw TT rfl fun β w' _ _=>?_
   show Value.bool true=_
   rw[il,h,h']
   rfl
  ·refine ax 12 rfl (fun h2=>?_) (fun h2=>?_)<;>(refine Zr ?_)<;>refine Zb ?_
   ·refine aw TT rfl fun β w' _ _=>?_
    show Value.bool _=_
    rw[il,h,h',h2]
    rfl
   ·refine aw TT rfl fun β w' _ _=>?_
    show Value.bool _=_
    rw[il,h,h',h2]
    rfl
 ·refine ax 12 rfl (fun h2=>?_) (fun h2=>?_)<;>(refine Zr ?_)<;>refine Zb ?_
  ·refine aw TT rfl fun β w' _ _=>?_
   show Value.bool _=_
   rw[il,h,h2]
   rfl
  ·refine aw TT rfl fun β w' _ _=>?_
   show Value.bool _=_
   rw[il,h,h2]
   rfl
def enc (n:Nat):List UInt8 :=
 if n<128 then [UInt8.ofNat n]
 else if n<2048 then [UInt8.ofNat (192+n / 64),UInt8.ofNat (128+n % 64)]
 else if n<65536 then [UInt8.ofNat (224+n / 4096),UInt8.ofNat (128+n / 64 % 64),UInt8.ofNat (128+n % 64)]
 else [UInt8.ofNat (240+n / 262144),UInt8.ofNat (128+n / 4096 % 64),UInt8.ofNat (128+n / 64 % 64),UInt8.ofNat (128+n % 64)]
theorem V4(n:Nat): (enc n).length<=4:=by
 unfold enc
 split
 ·exact bh rfl
 split
 ·exact bh rfl
 split
 ·exact bh rfl
 ·exact bh rfl
theorem w8(k:Nat): IntKind.u8.wrap (k:Int)=((UInt8.ofNat k).toNat:Int):=by
 have e1:(UInt8.ofNat k).toNat=k % 256:=UInt8.toNat_ofNat'
 rw[e1]
 show(k:Int) % 256=_
 omega
theorem vO(l:List UInt8): ∀ r∈oE l,r.length=1/\∀ c∈r,c.lt 0:=by
 intro r hr
 obtain⟨x,_,rfl⟩:=bL.1 hr
 exact⟨rfl,fun c hc=>by rw[aU.1 hc];trivial⟩
theorem IH(σ:al)(n:Nat)(hn:n<1114112):
  fa Tryz.prog 208 [.a (.v (.int .i64 n))] σ (fun v bD=>∃ ao cap,v=.slice ao (enc n).length cap/\bu bD ao (enc n).length cap 1 (oE (enc n))):=by
 have q1:∀ a:Nat,((a:Int)).tdiv 64=((a / 64:Nat):Int):=fun _=>rfl
 have q2:((n:Int)).tdiv 4096=((n / 4096:Nat):Int):=rfl
 have q3:((n:Int)).tdiv 262144=((n / 262144:Nat):Int):=rfl
 have q4:∀ a:Nat,((a:Int)).tmod 64=((a % 64:Nat):Int):=fun _=>rfl
 unfold enc
 refine ek Tryz.func208 Z Z Zl fun w=>?_
 refine Zd ?_
 refine aG rfl (fun h=>?_) (fun h=>?_)
 ·have h:n<128:=by have:=ae h;omega
  rw[au h]
  refine gz ?_
  refine iD ?_
  refine Zr ?_
  refine jY TT ((UInt8.ofNat n).toNat:Int) Z Z Z Z Z Z Z Z (w8 n) (Zr ?_)
  refine Zb ?_
  refine rO 0 1 1 rfl Zl rfl (by decide) fun g=>?_
  refine dD 0 Z Z fun bD hle hS=>?_
  refine aw TT rfl fun β w' _ _=>?_
  exact⟨_,_,rfl,hS.sl (rows:=oE [UInt8.ofNat n]) rfl (vO _) Z Z (aq _)⟩
 have h:¬ n<128:=by have:=ab h;omega
 rw[ai h]
 refine Za ?_
 refine aG rfl (fun h2=>?_) (fun h2=>?_)
 ·have h2:n<2048:=by have:=ae h2;omega
  rw[au h2]
  refine gz ?_
  refine iD ?_
  refine Zr ?_
  refine wQ Z Z Z Z Z Z (by decide) (by rw[q1];omega) ?_
  rw[q1]
  refine Zr ?_
  refine eO Z Z Z Z Z Z Zo (aM TT rfl ?_)
  refine jY TT ((UInt8.ofNat (192+n / 64)).toNat:Int) Z Z Z Z Z Z Z Z (w8 _) (Zr ?_)
  refine pH Z Z Z Z Z Z (by decide) ?_
  rw[q4]
  refine Zr ?_
  refine eO Z Z Z Z Z Z Zo (aM TT rfl ?_)
  refine jY TT ((UInt8.ofNat (128+n % 64)).toNat:Int) Z Z Z Z Z Z Z Z (w8 _) (Zr ?_)
  refine Zb ?_
  refine rO 0 2 1 rfl Zl rfl (by decide) fun g=>?_
  refine dD 0 Z Z fun bD hle hS=>?_
  refine aw TT rfl fun β w' _ _=>?_
  exact⟨_,_,rfl,hS.sl (rows:=oE [UInt8.ofNat (192+n / 64),UInt8.ofNat (128+n % 64)]) rfl (vO _) Z Z (aq _)⟩
 have h2:¬ n<2048:=by have:=ab h2;omega
 rw[ai h2]
 refine Za ?_
 refine aG rfl (fun h3=>?_) (fun h3=>?_)
 ·have h3:n<65536:=by have:=ae h3;omega
  rw[au h3]
  refine gz ?_
  refine iD ?_
  refine Zr ?_
  refine wQ Z Z Z Z Z Z (by decide) (by rw[q2];omega) ?_
  rw[q2]
  refine Zr ?_
  refine eO Z Z Z Z Z Z Zo (aM TT rfl ?_)
  refine jY TT ((UInt8.ofNat (224+n / 4096)).toNat:Int) Z Z Z Z Z Z Z Z (w8 _) (Zr ?_)
  refine wQ Z Z Z Z Z Z (by decide) (by rw[q1];omega) ?_
  rw[q1]
  refine Zr ?_
  refine pH Z Z Z Z Z Z (by decide) ?_
  rw[q4]
  refine Zr ?_
  refine eO Z Z Z Z Z Z Zo (aM TT rfl ?_)
  refine jY TT ((UInt8.ofNat (128+n / 64 % 64)).toNat:Int) Z Z Z Z Z Z Z Z (w8 _) (Zr ?_)
  refine pH Z Z Z Z Z Z (by decide) ?_
  rw[q4]
  refine Zr ?_
  refine eO Z Z Z Z Z Z Zo (aM TT rfl ?_)
  refine jY TT ((UInt8.ofNat (128+n % 64)).toNat:Int) Z Z Z Z Z Z Z Z (w8 _) (Zr ?_)
  refine Zb ?_
  refine rO 0 3 1 rfl Zl rfl (by decide) fun g=>?_
  refine dD 0 Z Z fun bD hle hS=>?_
  refine aw TT rfl fun β w' _ _=>?_
  exact⟨_,_,rfl,hS.sl (rows:=oE [UInt8.ofNat (224+n / 4096),UInt8.ofNat (128+n / 64 % 64),UInt8.ofNat (128+n % 64)]) rfl (vO _) Z Z (aq _)⟩
 have h3:¬ n<65536:=by have:=ab h3;omega
 rw[ai h3]
 refine Zc ?_
 refine wQ Z Z Z Z Z Z (by decide) (by rw[q3];omega) ?_
 rw[q3]
 refine Zr ?_
 refine eO Z Z Z Z Z Z Zo (aM TT rfl ?_)
 refine jY TT ((UInt8.ofNat (240+n / 262144)).toNat:Int) Z Z Z Z Z Z Z Z (w8 _) (Zr ?_)
 refine wQ Z Z Z Z Z Z (by decide) (by rw[q2];omega) ?_
 rw[q2]
 refine Zr ?_
 refine pH Z Z Z Z Z Z (by decide) ?_
 rw[q4]
 refine Zr ?_
 refine eO Z Z Z Z Z Z Zo (aM TT rfl ?_)
 refine jY TT ((UInt8.ofNat (128+n / 4096 % 64)).toNat:Int) Z Z Z Z Z Z Z Z (w8 _) (Zr ?_)
 refine wQ Z Z Z Z Z Z (by decide) (by rw[q1];omega) ?_
 rw[q1]
 refine Zr ?_
 refine pH Z Z Z Z Z Z (by decide) ?_
 rw[q4]
 refine Zr ?_
 refine eO Z Z Z Z Z Z Zo (aM TT rfl ?_)
 refine jY TT ((UInt8.ofNat (128+n / 64 % 64)).toNat:Int) Z Z Z Z Z Z Z Z (w8 _) (Zr ?_)
 refine pH Z Z Z Z Z Z (by decide) ?_
 rw[q4]
 refine Zr ?_
 refine eO Z Z Z Z Z Z Zo (aM TT rfl ?_)
 refine jY TT ((UInt8.ofNat (128+n % 64)).toNat:Int) Z Z Z Z Z Z Z Z (w8 _) (Zr ?_)
 refine Zb ?_
 refine rO 0 4 1 rfl Zl rfl (by decide) fun g=>?_
 refine dD 0 Z Z fun bD hle hS=>?_
 refine aw TT rfl fun β w' _ _=>?_
 exact⟨_,_,rfl,hS.sl (rows:=oE [UInt8.ofNat (240+n / 262144),UInt8.ofNat (128+n / 4096 % 64),UInt8.ofNat (128+n / 64 % 64),UInt8.ofNat (128+n % 64)]) rfl (vO _) Z Z (aq _)⟩
def pB:List UInt8->List UInt8->Bool
 | _,[]=>true
 | [],_::_=>false
 | x::a,y::b=>decide (x=y)&&pB a b
theorem DE: ∀ {a b:List UInt8},a.length<b.length->pB a b=false
 | [],[],h=>by simp at h
 | _::_,[],h=>by simp at h
 | [],_::_,_=>rfl
 | x::a,y::b,h=>by rw[pB,DE (a:=a) (b:=b) (by simpa using h),lu]
theorem Ty(σ:al)(a b:List UInt8)(ao bo:Option Addr)(ac bc:Nat)(HA:bu σ ao a.length ac 1 (oE a))(HB:bu σ bo b.length bc 1 (oE b))(hb:b.length<=bJ):
  bZ Tryz.prog 207 [.a (.v (.slice ao a.length ac)),.a (.v (.slice bo b.length bc))] σ (fun v=>v=.bool (pB a b)):=by
 simp only[bJ] at hb
 refine bW Tryz.func207 Z Z Zl fun w=>?_
 refine Za ?_
 refine aG rfl (fun h=>?_) (fun h=>?_)
 ·have h:(a.length:Int)<b.length:=ae h
  rw[DE Zo]
  refine Zb ?_
  refine aw TT rfl fun β w' _ _=>?_
  rfl
 have hle:b.length<=a.length:=by have:=ab h;omega
 refine Zd ?_
 refine bX (fun(_:Nat)=>σ) (fun k=>[(0,.a (.v (.slice ao a.length ac))),(1,.a (.v (.slice bo b.length bc))),(5,.a (.v (.int .i64 k)))]) (fun _=>[]) (fun _=>[]) 0
  (fun k=>k<=b.length/\pB (a.drop k) (b.drop k)=pB a b) (fun k=>b.length - k) 0 ⟨ay _,rfl⟩ rfl Zs Zs rfl Zl Zl fun k ⟨hk,hp⟩=>?_
 refine Za ?_
 refine aG rfl (fun h=>?_) (fun h=>?_)
 rotate_left
 ·have fQ:k=b.length:=by have:=ab h;omega
  subst fQ
  rw[bC,pB] at hp
  refine Ze ?_
  refine aw TT rfl fun β w' _ _=>?_
  rw[<-hp]
  rfl
 have Su:k<b.length:=by have:=ae h;omega
 have ZL:k<a.length:=by omega
 have uk:=oY (aa ZL)
 have Qa:=oY (aa Su)
 rw[aB ZL,aB Su,pB] at hp
 generalize a[k]=x at *
 generalize b[k]=y at *
 refine Zd ?_
 refine ck [(0,.pure),(1,.pure),(2,.pure),(3,.quiet),(4,.pure),(5,.pure),(6,.pure),(7,.quiet),(8,.pure)] mixed Zk (aM TT rfl ?_)
 refine bk TT Z Z Z Z Z Z Z Z Z HA Zo uk (Zr ?_)
 refine bk TT Z Z Z Z Z Z Z Z Z HB Zo Qa (Zr ?_)
 refine Za ?_
 refine aG rfl (fun h=>?_) (fun h=>?_)
 ·have h:¬ x=y:=by
   have h:(!decide ((x.toNat:Int)=y.toNat))=true:=h
   intro e
   subst e
   simp at h
  rw[b7 h,dt] at hp
  refine Zb ?_
  refine aw TT rfl fun β w' _ _=>?_
  rw[<-hp]
  rfl
 ·have h:x=y:=by
   have h:(!decide ((x.toNat:Int)=y.toNat))=false:=h
   exact iM.1 (by
                 have:(x.toNat:Int)=y.toNat:=by simpa using h
                 omega)
  rw[bj h,cp] at hp
  refine Zc ?_
  refine an (k+1) ⟨Su,hp⟩ Zo rfl Zs Zs rfl Zl Zl
end Go.Sy
namespace Go.Sy
open Go.Proofs
def nQ (b:Nat):Nat×Nat:=if 240<=b then (b % 8,4) else if 224<=b then (b % 16,3) else if 192<=b then (b % 32,2) else (b,1)
theorem Q6(b:Nat)(h:b<256): (nQ b).1<256/\1<=(nQ b).2/\(nQ b).2<=4:=by
 unfold nQ
 split
 ·dsimp only;omega
 split
 ·dsimp only;omega
 split
 ·dsimp only;omega
 ·dsimp only;omega
def kZ:Nat->List UInt8->Nat
 | r,[]=>r
 | r,c::l=>kZ (r*64+c.toNat % 64) l
def tg (l:List UInt8) (L:Nat×Nat):Int×Int :=
 if l.length<L.2 then (0,0)
 else if il (kZ L.1 ((l.take L.2).drop 1))=true/\pB l (enc (kZ L.1 ((l.take L.2).drop 1)))=true/\(enc (kZ L.1 ((l.take L.2).drop 1))).length=L.2
 then (IntKind.i32.wrap (kZ L.1 ((l.take L.2).drop 1)),L.2) else (0,0)
def MQ (l:List UInt8):Int×Int :=
 match l with
 | []=>(0,0)
 | u::_=>tg l (nQ u.toNat)
theorem w64(k:Nat)(h:k<9223372036854775808): IntKind.i64.wrap (k:Int)=k:=by
 unfold IntKind.wrap
 show(if (true&&decide ((k:Int) % 18446744073709551616≥9223372036854775808))=true then _ else (k:Int) % 18446744073709551616)=_
 have e:(k:Int) % 18446744073709551616=k:=by omega
 rw[e,ai (by simp;omega)]
theorem UW(σ:al)(ao:Option Addr)(cap:Nat)(l:List UInt8)(H:bu σ ao l.length cap 1 (oE l))(hl:l.length<=bJ):
  bZ Tryz.prog 147 [.a (.v (.slice ao l.length cap))] σ (fun v=>v=(SV.ik [.a (.v (.int .i32 (MQ l).1)),.a (.v (.int .i64 (MQ l).2))]).den fy):=by
 simp only[bJ] at hl
 refine bW Tryz.func147 Z Z Zl fun w=>?_
 refine Za ?_
 refine aG rfl (fun h=>?_) (fun h=>?_)
 ·have h:l.length=0:=by have:=ae h;omega
  rw[gV.1 h]
  refine Zb ?_
  refine aw TT rfl fun β w' _ _=>?_
  rfl
 have h0:0<l.length:=by
  have h:¬ (l.length:Int)=0:=ab h
  omega
 have hu:l[0]?=some l[0]:=aa h0
 have qt:MQ l=tg l (nQ l[0].toNat):=by
  cases l with
  | nil=>simp at h0
  | cons u l=>rfl
 rw[qt]
 have hub:l[0].toNat<256:=l[0].toNat_lt
 have LW:=Q6 l[0].toNat hub
 have JG:nQ l[0].toNat=if 240<=l[0].toNat then (l[0].toNat % 8,4) else if 224<=l[0].toNat then (l[0].toNat % 16,3) else if 192<=l[0].toNat then (l[0].toNat % 32,2) else (l[0].toNat,1):=rfl
 have Es:=oY hu
 generalize l[0]=u at *
 generalize nQ u.toNat=L at *
 clear qt hu
 refine Zc ?_
 refine bk TT Z Z Z Z Z Z Z Z Z H Zo Es (Zr ?_)
 refine jY TT ((u.toNat:Nat):Int) Z Z Z Z Z Z Z Z (w64 _ Zo) (Zr ?_)
 refine Zd ?_
 refine fm (fun(_:Unit)=>σ) (fun _=>[(0,.a (.v (.slice ao l.length cap))),(4,.a (.v (.int .i64 L.1))),(5,.a (.v (.int .i64 L.2)))]) (fun _=>[]) (fun _=>[]) 0 (fun _=>True) ?_ (fun _ _=>?_)
 ·refine aG rfl (fun h=>?_) (fun h=>?_)
  ·have h:240<=u.toNat:=by have:=ae h;omega
   rw[au h] at JG
   refine gz ?_
   refine iD ?_
   refine Zr ?_
   refine pH Z Z Z Z Z Z (by decide) ?_
   refine pC ?_
   rw[JG]
   refine an () trivial aj rfl Zs Zs rfl Zl Zl
  have h:¬ 240<=u.toNat:=by have:=ab h;omega
  rw[ai h] at JG
  refine Za ?_
  refine aG rfl (fun h2=>?_) (fun h2=>?_)
  ·have h2:224<=u.toNat:=by have:=ae h2;omega
   rw[au h2] at JG
   refine gz ?_
   refine iD ?_
   refine Zr ?_
   refine pH Z Z Z Z Z Z (by decide) ?_
   refine pC ?_
   rw[JG]
   refine an () trivial aj rfl Zs Zs rfl Zl Zl
  have h2:¬ 224<=u.toNat:=by have:=ab h2;omega
  rw[ai h2] at JG
  refine Za ?_
  refine aG rfl (fun h3=>?_) (fun h3=>?_)
  ·have h3:192<=u.toNat:=by have:=ae h3;omega
   rw[au h3] at JG
   refine gz ?_
   refine iD ?_
   refine Zr ?_
   refine pH Z Z Z Z Z Z (by decide) ?_
   refine pC ?_
   rw[JG]
   refine an () trivial aj rfl Zs Zs rfl Zl Zl
  have h3:¬ 192<=u.toNat:=by have:=ab h3;omega
  rw[ai h3] at JG
  refine Zc ?_
  rw[JG]
  refine an () trivial aj rfl Zs Zs rfl Zl Zl
 clear JG Es hub
 unfold tg
 obtain⟨L1,L2⟩:=L
 dsimp only at LW ⊢
 refine Za ?_
 refine aG rfl (fun h=>?_) (fun h=>?_)
 ·have h:l.length<L2:=by have:=ae h;omega
  rw[au h]
  refine Zb ?_
  refine aw TT rfl fun β w' _ _=>?_
  rfl
 have hle:L2<=l.length:=by have:=ab h;omega
 rw[ai Zo]
 refine Zd ?_
 refine gC (fun _ _=>σ) (fun(k r:Nat)=>[(0,.a (.v (.slice ao l.length cap))),(4,.a (.v (.int .i64 r))),(5,.a (.v (.int .i64 L2))),(6,.a (.v (.int .i64 k)))]) (fun _ _=>[]) (fun _ _=>[]) 0
  (fun k r=>1<=k/\k<=L2/\r<4*64 ^ k/\kZ r ((l.take L2).drop k)=kZ L1 ((l.take L2).drop 1)) (fun k _=>L2 - k) 1 L1 ⟨aq _,LW.2.1,by omega,rfl⟩ rfl Zs Zs rfl Zl Zl fun k r ⟨zm,yx,hr,hp⟩=>?_
 have hpw:64 ^ k<=64 ^ 4:=Nat.pow_le_pow_right (by decide) Zo
 have ar0:64 ^ (k+1)=64 ^ k*64:=Nat.pow_succ ..
 have aq9:64 ^ 4=16777216:=by decide
 refine Za ?_
 refine aG rfl (fun h=>?_) (fun h=>?_)
 ·have cz:k<L2:=by have:=ae h;omega
  have vU:k<(l.take L2).length:=by rw[aE];omega
  have kW:k<l.length:=by omega
  have bU:=oY (aa kW)
  rw[aB vU,List.getElem_take,kZ] at hp
  generalize l[k]=c at *
  have hc:c.toNat<256:=c.toNat_lt
  have q1:∀ a:Nat,((a:Int)).tmod 64=((a % 64:Nat):Int):=fun _=>rfl
  refine Zd ?_
  refine CD Z Z Z Z Z Z Zo (Zr ?_)
  refine bk TT Z Z Z Z Z Z Z Z Z H Zo bU (Zr ?_)
  refine jY TT ((c.toNat:Nat):Int) Z Z Z Z Z Z Z Z (w64 _ Zo) (Zr ?_)
  refine pH Z Z Z Z Z Z (by decide) ?_
  rw[q1]
  refine Zr ?_
  refine eO Z Z Z Z Z Z Zo (aM TT rfl ?_)
  refine Zc ?_
  refine an (k+1,r*64+c.toNat % 64) ⟨by dsimp only;omega,cz,by dsimp only;omega,hp⟩ (by dsimp only;omega) rfl Zs Zs rfl Zl Zl
 have hk:k=L2:=by have:=ab h;omega
 rw[dO (by rw[aE];omega),kZ] at hp
 rw[<-hp]
 refine Ze ?_
 refine aT Z Z Z Z Z Tryz.call206 Zl (QP σ r) fun v hv=>⟨.a (.b (il r)),trivial,hv.symm,?_⟩
 refine Zr ?_
 refine ax 50 rfl (fun h=>?_) (fun h=>?_)
 ·have h:il r=false:=by simpa using h
  rw[ai (by simp[h])]
  refine gn ?_
  refine aw TT rfl fun β w' _ _=>?_
  rfl
 have h:il r=true:=by simpa using h
 have Qa:r<1114112:=by
  unfold il at h
  simp only[jx,aQ,aX] at h
  omega
 refine Zr ?_
 refine bN Z Z Z Z Z Tryz.call208 Zl (IH σ r Qa) fun v nC cw ⟨Xl,Kg,hv,H2⟩=>⟨.a (.v (.slice Xl (enc r).length Kg)),trivial,hv.symm,?_⟩
 refine Zr ?_
 refine aT Z Z Z Z Z Tryz.call207 Zl (Ty nC l (enc r) ao Xl cap Kg (H.mono cw) H2 (by have:=V4 r;simp only[bJ];omega)) fun v hv=>⟨.a (.b (pB l (enc r))),trivial,hv.symm,?_⟩
 refine Zr ?_
 refine ax 57 rfl (fun h2=>?_) (fun h2=>?_)
 ·have h2:pB l (enc r)=false:=by simpa using h2
  rw[ai (by simp[h2])]
  refine gn ?_
  refine aw TT rfl fun β w' _ _=>?_
  rfl
 have h2:pB l (enc r)=true:=by simpa using h2
 refine Zr ?_
 refine bN Z Z Z Z Z Tryz.call208 Zl (IH nC r Qa) fun v Up kV ⟨ao3,Wf,hv,H3⟩=>⟨.a (.v (.slice ao3 (enc r).length Wf)),trivial,hv.symm,?_⟩
 refine gX ?_
 refine aG rfl (fun h3=>?_) (fun h3=>?_)
 ·have h3:¬ (enc r).length=L2:=by
   have h3:(!decide (((enc r).length:Int)=L2))=true:=h3
   intro e
   rw[e] at h3
   simp at h3
  rw[ai (by simp[h3])]
  refine Zb ?_
  refine aw TT rfl fun β w' _ _=>?_
  rfl
 ·have h3:(enc r).length=L2:=by
   have h3:(!decide (((enc r).length:Int)=L2))=false:=h3
   have:((enc r).length:Int)=L2:=by simpa using h3
   omega
  rw[au ⟨h,h2,h3⟩]
  refine Zg ?_
  refine aw TT rfl fun β w' _ _=>?_
  rfl
end Go.Sy
namespace Go.Sy
open Go.Proofs
theorem Ti: ∀ n:Fin 256,(lU .u8 (n.val:Int) 192=128↔128<=n.val/\n.val<192)/\lU .u8 (n.val:Int) 63=((n.val % 64:Nat):Int):=by decide +kernel
theorem RU: ∀ n:Fin 256,(lU .u8 (n.val:Int) 128=0↔n.val<128)/\(lU .u8 (n.val:Int) 224=192↔192<=n.val/\n.val<224)/\(lU .u8 (n.val:Int) 240=224↔224<=n.val/\n.val<240)/\(lU .u8 (n.val:Int) 248=240↔240<=n.val/\n.val<248):=by decide +kernel
theorem Oh: ∀ n:Fin 256,(n.val<128->mH .u8 (n.val:Int) 128=(n.val:Int))/\mH .u8 (n.val:Int) 224=((n.val % 32:Nat):Int)/\mH .u8 (n.val:Int) 240=((n.val % 16:Nat):Int)/\mH .u8 (n.val:Int) 248=((n.val % 8:Nat):Int):=by decide +kernel
theorem Ui(x:UInt8)(k:Nat)(h:k<256): x=UInt8.ofNat k↔x.toNat=k:=by
 have e1:(UInt8.ofNat k).toNat=k % 256:=UInt8.toNat_ofNat'
 rw[<-iM,e1]
 omega
theorem Xs(k:Nat)(h:k<2147483648): IntKind.i32.wrap (k:Int)=k:=by
 unfold IntKind.wrap
 show(if (true&&decide ((k:Int) % 4294967296≥2147483648))=true then _ else (k:Int) % 4294967296)=_
 have e:(k:Int) % 4294967296=k:=by omega
 rw[e,ai (by simp;omega)]
theorem ao7(r c:Nat)(hr:r<16777216)(hc:c<64): bOr .i32 (Mn .i32 (r:Int) 6) (IntKind.i32.wrap (c:Int))=((r*64+c:Nat):Int):=by
 have e1:Mn .i32 (r:Int) 6=((r*64:Nat):Int):=by
  unfold Mn
  show IntKind.i32.wrap ((r:Int)*64)=_
  exact Xs (r*64) Zo
 rw[e1,Xs c Zo]
 unfold bOr
 have e2:∀ k:Nat,k<4294967296->(BitVec.ofInt 32 (k:Int)).toNat=k:=by
  intro k hk
  rw[BitVec.toNat_ofInt]
  show((k:Int) % 4294967296).toNat=k
  omega
 have e3:((BitVec.ofInt 32 ((r*64:Nat):Int)) ||| (BitVec.ofInt 32 (c:Int))).toNat=r*64+c:=by
  rw[BitVec.toNat_or,e2 _ Zo,e2 _ Zo]
  have h:=Nat.shiftLeft_add_eq_or_of_lt (i:=6) (b:=c) Zo r
  rw[Nat.shiftLeft_eq] at h
  have h:r*64+c=r*64 ||| c:=h
  rw[<-h]
 show IntKind.i32.wrap (((BitVec.ofInt 32 ((r*64:Nat):Int)) ||| (BitVec.ofInt 32 (c:Int))).toNat:Nat)=_
 rw[e3]
 exact Xs _ Zo
theorem N8(u:UInt8)(t:List UInt8): iU (u::t)=if u.toNat<128 then lH (u::t) 0 u else if (192<=u.toNat/\u.toNat<224)/\1<(u::t).length then lH (u::t) 1 u
  else if (224<=u.toNat/\u.toNat<240)/\2<(u::t).length then lH (u::t) 2 u else if (240<=u.toNat/\u.toNat<248)/\3<(u::t).length then lH (u::t) 3 u else (0,0):=by
 obtain⟨h0,h1,h2,h3⟩:=RU ⟨u.toNat,u.toNat_lt⟩
 dsimp only at h0 h1 h2 h3
 have A0:((u::t).length<=0\/lU .u8 u.toNat (fg 0).1≠(fg 0).2.1)↔¬ u.toNat<128:=by
  rw[<-h0];simp[fg]
 have A1:((u::t).length<=1\/lU .u8 u.toNat (fg 1).1≠(fg 1).2.1)↔¬ ((192<=u.toNat/\u.toNat<224)/\1<(u::t).length):=by
  rw[<-h1]
  show((u::t).length<=1\/¬ _)↔_
  rw[<-Nat.not_lt,Classical.not_and_iff_not_or_not,Or.comm];rfl
 have A2:((u::t).length<=2\/lU .u8 u.toNat (fg 2).1≠(fg 2).2.1)↔¬ ((224<=u.toNat/\u.toNat<240)/\2<(u::t).length):=by
  rw[<-h2]
  show((u::t).length<=2\/¬ _)↔_
  rw[<-Nat.not_lt,Classical.not_and_iff_not_or_not,Or.comm];rfl
 have A3:((u::t).length<=3\/lU .u8 u.toNat (fg 3).1≠(fg 3).2.1)↔¬ ((240<=u.toNat/\u.toNat<248)/\3<(u::t).length):=by
  rw[<-h3]
  show((u::t).length<=3\/¬ _)↔_
  rw[<-Nat.not_lt,Classical.not_and_iff_not_or_not,Or.comm];rfl
 unfold iU
 rw[show jS (u::t) 4 0=(if (u::t).length<=0\/lU .u8 u.toNat (fg 0).1≠(fg 0).2.1 then (if (u::t).length<=1\/lU .u8 u.toNat (fg 1).1≠(fg 1).2.1 then
  (if (u::t).length<=2\/lU .u8 u.toNat (fg 2).1≠(fg 2).2.1 then (if (u::t).length<=3\/lU .u8 u.toNat (fg 3).1≠(fg 3).2.1 then (0,0) else lH (u::t) 3 u) else lH (u::t) 2 u) else lH (u::t) 1 u) else lH (u::t) 0 u) from rfl]
 simp only[A0,A1,A2,A3,ite_not]
def okB (c:UInt8):Prop:=128<=c.toNat/\c.toNat<192
theorem H9: ∀(l:List UInt8) (r:Nat),(r+1)*64 ^ l.length<=16777216->((∀ c∈l,okB c)->xw (r:Int) l=some ((kZ r l:Nat):Int))/\((¬ ∀ c∈l,okB c)->xw (r:Int) l=none)
 | [],r,_=>⟨fun _=>rfl,fun h=>absurd (fun c hc=>by cases hc) h⟩
 | c::l,r,hb=>by
  obtain⟨h1,h2⟩:=Ti ⟨c.toNat,c.toNat_lt⟩
  dsimp only at h1 h2
  have hp:0<64 ^ l.length:=Nat.pow_pos (by decide)
  have Ue:(r+1)*64*64 ^ l.length<=16777216:=by
   rw[List.length_cons,Nat.pow_succ,Nat.mul_comm (64 ^ l.length) 64,<-Nat.mul_assoc] at hb;exact hb
  have hr:(r+1)*64<=16777216:=ep (Nat.le_mul_of_pos_right _ hp) Ue
  have Qf:c.toNat % 64<64:=Nat.mod_lt _ (by decide)
  have ih:=H9 l (r*64+c.toNat % 64) (ep (cn _ Zo) Ue)
  have e:=ao7 r (c.toNat % 64) Zo Qf
  rw[xw,h2,e,kZ]
  by_cases hc:okB c
  ·rw[au (h1.2 hc)]
   exact⟨fun h=>ih.1 fun x hx=>h x (ba _ hx),fun h=>ih.2 fun hl=>h fun x hx=>by
    rcases bM.1 hx with rfl | hx
    ·exact hc
    ·exact hl x hx⟩
  ·rw[ai (fun h=>hc (h1.1 h))]
   exact⟨fun h=>absurd (h c a8) hc,fun _=>rfl⟩
theorem vy(u:UInt8)(t:List UInt8)(k r0:Nat)(hr:(r0+1)*64 ^ k<=16777216)(h0:IntKind.i32.wrap (mH .u8 u.toNat (fg k).1)=(r0:Int))(ht:k<=t.length):
  ((∀ c∈t.take k,okB c)/\¬ (((kZ r0 (t.take k):Nat):Int)<(fg k).2.2)/\il (kZ r0 (t.take k))=true->(lH (u::t) k u).2=k+1) /\
  (¬ ((∀ c∈t.take k,okB c)/\¬ (((kZ r0 (t.take k):Nat):Int)<(fg k).2.2)/\il (kZ r0 (t.take k))=true)->(lH (u::t) k u).2=0):=by
 have hl:(t.take k).length=k:=by rw[aE];omega
 have hb:(r0+1)*64 ^ (t.take k).length<=16777216:=by
  rw[hl]
  exact hr
 obtain⟨h1,h2⟩:=H9 (t.take k) r0 hb
 have hs:((u::t).take (k+1)).drop 1=t.take k:=by simp
 unfold lH
 rw[hs,h0]
 by_cases h:∀ c∈t.take k,okB c
 ·rw[h1 h]
  dsimp only
  constructor
  ·intro ⟨_,h3,h4⟩
   rw[ai (by simp[h3,h4])]
  ·intro h5
   rw[au]
   by_cases h3:((kZ r0 (t.take k):Nat):Int)<(fg k).2.2
   ·exact .inl h3
   ·refine .inr ?_
    by_cases h4:il (kZ r0 (t.take k))=true
    ·exact absurd ⟨h,h3,h4⟩ h5
    ·simpa using h4
 ·rw[h2 h]
  exact⟨fun h3=>absurd h3.1 h,fun _=>rfl⟩
theorem iX(l:List UInt8)(L:Nat×Nat):
  (L.2<=l.length/\il (kZ L.1 ((l.take L.2).drop 1))=true/\pB l (enc (kZ L.1 ((l.take L.2).drop 1)))=true/\(enc (kZ L.1 ((l.take L.2).drop 1))).length=L.2->(tg l L).2=L.2) /\
  (¬ (L.2<=l.length/\il (kZ L.1 ((l.take L.2).drop 1))=true/\pB l (enc (kZ L.1 ((l.take L.2).drop 1)))=true/\(enc (kZ L.1 ((l.take L.2).drop 1))).length=L.2)->(tg l L).2=0):=by
 unfold tg
 constructor
 ·intro ⟨h1,h2⟩
  rw[ai Zo,au h2]
 ·intro h
  by_cases h1:l.length<L.2
  ·rw[au h1]
  ·rw[ai h1,ai fun h2=>h ⟨by omega,h2⟩]
theorem yh(t:List UInt8): pB t []=true:=by cases t<;>rfl
theorem ao6(u c:UInt8)(t:List UInt8)(r:Nat)(hu:192<=u.toNat/\u.toNat<224)(hr:r=(u.toNat % 32)*64+c.toNat % 64):
  (pB (u::c::t) (enc r)=true/\(enc r).length=2)↔(okB c/\128<=r):=by
 unfold enc okB
 have hc:=c.toNat_lt
 by_cases h:r<128
 ·rw[au h]
  simp
  omega
 ·rw[ai h,au Zo]
  simp only[pB,yh,mh,aQ,aX,Ui u _ (by omega:192+r / 64<256),Ui c _ (by omega:128+r % 64<256),List.length_cons,List.length_nil,cG,Nat.reduceAdd,and_true]
  omega
theorem ao5(u c d:UInt8)(t:List UInt8)(r:Nat)(hu:224<=u.toNat/\u.toNat<240)(hr:r=((u.toNat % 16)*64+c.toNat % 64)*64+d.toNat % 64):
  (pB (u::c::d::t) (enc r)=true/\(enc r).length=3)↔((okB c/\okB d)/\2048<=r):=by
 unfold enc okB
 have hc:=c.toNat_lt
 have hd:=d.toNat_lt
 by_cases h:r<128
 ·rw[au h]
  simp
  omega
 by_cases h2:r<2048
 ·rw[ai h,au h2]
  simp
  omega
 ·rw[ai h,ai h2,au Zo]
  simp only[pB,yh,mh,aQ,aX,Ui u _ (by omega:224+r / 4096<256),Ui c _ (by omega:128+r / 64 % 64<256),Ui d _ (by omega:128+r % 64<256),List.length_cons,List.length_nil,cG,Nat.reduceAdd,and_true]
  omega
theorem ao4(u c d e:UInt8)(t:List UInt8)(r:Nat)(hu:240<=u.toNat)(hr:r=(((u.toNat % 8)*64+c.toNat % 64)*64+d.toNat % 64)*64+e.toNat % 64):
  (pB (u::c::d::e::t) (enc r)=true/\(enc r).length=4)↔((okB c/\okB d/\okB e)/\65536<=r/\u.toNat<248):=by
 unfold enc okB
 have hu2:=u.toNat_lt
 have hc:=c.toNat_lt
 have hd:=d.toNat_lt
 have he:=e.toNat_lt
 by_cases h:r<128
 ·rw[au h]
  simp
  omega
 by_cases h2:r<2048
 ·rw[ai h,au h2]
  simp
  omega
 by_cases h3:r<65536
 ·rw[ai h,ai h2,au h3]
  simp
  omega
 ·rw[ai h,ai h2,ai h3]
  simp only[pB,yh,mh,aQ,aX,Ui u _ (by omega:240+r / 262144<256),Ui c _ (by omega:128+r / 4096 % 64<256),Ui d _ (by omega:128+r / 64 % 64<256),Ui e _ (by omega:128+r % 64<256),List.length_cons,List.length_nil,cG,Nat.reduceAdd,and_true]
  omega
theorem ap1(c:UInt8): (∀ x∈[c],okB x)↔okB c:=by simp
theorem ap0(c d:UInt8): (∀ x∈[c,d],okB x)↔okB c/\okB d:=by simp
theorem ao9(c d e:UInt8): (∀ x∈[c,d,e],okB x)↔okB c/\okB d/\okB e:=by simp
theorem QX(l:List UInt8): (MQ l).2=(iU l).2:=by
 cases l with
 | nil=>rfl
 | cons u t =>
 show(tg (u::t) (nQ u.toNat)).2=_
 rw[N8]
 have hu:=u.toNat_lt
 obtain⟨s0,s1,s2,s3⟩:=Oh ⟨u.toNat,u.toNat_lt⟩
 dsimp only at s0 s1 s2 s3
 by_cases c0:u.toNat<128
 ·rw[au c0]
  have hL:nQ u.toNat=(u.toNat,1):=by unfold nQ;rw[ai Zo,ai Zo,ai Zo]
  have hs:il (u.toNat:Int)=true:=by
   unfold il
   rw[bj (show(0:Int)<=u.toNat by omega),bj (show(u.toNat:Int)<55296 by omega)]
   rfl
  have hE:enc u.toNat=[UInt8.ofNat u.toNat]:=by unfold enc;rw[au c0]
  have hB:pB (u::t) (enc u.toNat)=true:=by
   rw[hE,pB,yh,bj ((Ui u _ hu).2 rfl)]
   rfl
  rw[hL,(vy u t 0 u.toNat (by show(u.toNat+1)*1<=_;omega) (by show IntKind.i32.wrap (mH .u8 u.toNat 128)=_;rw[s0 c0];exact Xs _ Zo) (ay _)).1 ⟨fun c hc=>by simp at hc,by show ¬ ((u.toNat:Int)<0);omega,hs⟩,
   (iX (u::t) (u.toNat,1)).1 ⟨by simp,hs,hB,by show(enc u.toNat).length=1;rw[hE];rfl⟩]
  rfl
 rw[ai c0]
 by_cases c1:192<=u.toNat/\u.toNat<224
 ·have hL:nQ u.toNat=(u.toNat % 32,2):=by unfold nQ;rw[ai Zo,ai Zo,au Zo]
  rw[hL]
  cases t with
  | nil =>
   rw[ai (by simp),ai Zo,ai Zo]
   exact(iX [u] (u.toNat % 32,2)).2 fun h=>by have:=h.1;simp at this
  | cons c t =>
   rw[au ⟨c1,by simp⟩]
   have hn:=vy u (c::t) 1 (u.toNat % 32) (by show(u.toNat % 32+1)*64<=_;omega) (by show IntKind.i32.wrap (mH .u8 u.toNat 224)=_;rw[s1];exact Xs _ Zo) (by simp)
   have hr:=iX (u::c::t) (u.toNat % 32,2)
   have he:=ao6 u c t (u.toNat % 32*64+c.toNat % 64) c1 rfl
   simp only[cX,fv,kZ,ap1,dH,cJ,List.length_cons] at hn hr
   rw[show(fg 1).2.2=128 from rfl] at hn
   generalize u.toNat % 32*64+c.toNat % 64=r at *
   by_cases H:il r=true/\pB (u::c::t) (enc r)=true/\(enc r).length=2
   ·rw[hr.1 ⟨by omega,H⟩,hn.1 ⟨(he.1 H.2).1,by have:=(he.1 H.2).2;omega,H.1⟩]
    rfl
   ·rw[hr.2 fun h=>H h.2,hn.2 fun h=>H ⟨h.2.2,he.2 ⟨h.1,by omega⟩⟩]
 rw[ai fun h=>c1 h.1]
 by_cases c2:224<=u.toNat/\u.toNat<240
 ·have hL:nQ u.toNat=(u.toNat % 16,3):=by unfold nQ;rw[ai Zo,au Zo]
  rw[hL]
  match t with
  | [] =>
   rw[ai (by simp),ai Zo]
   exact(iX [u] (u.toNat % 16,3)).2 fun h=>by have:=h.1;simp at this
  | [c] =>
   rw[ai (by simp),ai Zo]
   exact(iX [u,c] (u.toNat % 16,3)).2 fun h=>by have:=h.1;simp at this
  | c::d::t =>
   rw[au ⟨c2,by simp⟩]
   have hn:=vy u (c::d::t) 2 (u.toNat % 16) (by show(u.toNat % 16+1)*4096<=_;omega) (by show IntKind.i32.wrap (mH .u8 u.toNat 240)=_;rw[s2];exact Xs _ Zo) (by simp)
   have hr:=iX (u::c::d::t) (u.toNat % 16,3)
   have he:=ao5 u c d t ((u.toNat % 16*64+c.toNat % 64)*64+d.toNat % 64) c2 rfl
   simp only[cX,fv,kZ,ap0,dH,cJ,List.length_cons] at hn hr
   rw[show(fg 2).2.2=2048 from rfl] at hn
   generalize (u.toNat % 16*64+c.toNat % 64)*64+d.toNat % 64=r at *
   by_cases H:il r=true/\pB (u::c::d::t) (enc r)=true/\(enc r).length=3
   ·rw[hr.1 ⟨by omega,H⟩,hn.1 ⟨(he.1 H.2).1,by have:=(he.1 H.2).2;omega,H.1⟩]
    rfl
   ·rw[hr.2 fun h=>H h.2,hn.2 fun h=>H ⟨h.2.2,he.2 ⟨h.1,by omega⟩⟩]
 rw[ai fun h=>c2 h.1]
 by_cases c3:240<=u.toNat
 ·have hL:nQ u.toNat=(u.toNat % 8,4):=by unfold nQ;rw[au c3]
  rw[hL]
  match t with
  | [] =>
   rw[ai (by simp)]
   exact(iX [u] (u.toNat % 8,4)).2 fun h=>by have:=h.1;simp at this
  | [c] =>
   rw[ai (by simp)]
   exact(iX [u,c] (u.toNat % 8,4)).2 fun h=>by have:=h.1;simp at this
  | [c,d] =>
   rw[ai (by simp)]
   exact(iX [u,c,d] (u.toNat % 8,4)).2 fun h=>by have:=h.1;simp at this
  | c::d::e::t =>
   have hn:=vy u (c::d::e::t) 3 (u.toNat % 8) (by show(u.toNat % 8+1)*262144<=_;omega) (by show IntKind.i32.wrap (mH .u8 u.toNat 248)=_;rw[s3];exact Xs _ Zo) (by simp)
   have hr:=iX (u::c::d::e::t) (u.toNat % 8,4)
   have he:=ao4 u c d e t (((u.toNat % 8*64+c.toNat % 64)*64+d.toNat % 64)*64+e.toNat % 64) c3 rfl
   simp only[cX,fv,kZ,ao9,dH,cJ,List.length_cons] at hn hr
   rw[show(fg 3).2.2=65536 from rfl] at hn
   generalize ((u.toNat % 8*64+c.toNat % 64)*64+d.toNat % 64)*64+e.toNat % 64=r at *
   by_cases c4:u.toNat<248
   ·rw[au ⟨⟨c3,c4⟩,by simp⟩]
    by_cases H:il r=true/\pB (u::c::d::e::t) (enc r)=true/\(enc r).length=4
    ·rw[hr.1 ⟨by omega,H⟩,hn.1 ⟨(he.1 H.2).1,by have:=(he.1 H.2).2;omega,H.1⟩]
     rfl
    ·rw[hr.2 fun h=>H h.2,hn.2 fun h=>H ⟨h.2.2,he.2 ⟨h.1,by omega,c4⟩⟩]
   ·rw[ai fun h=>c4 h.1.2]
    exact hr.2 fun h=>c4 (he.1 h.2.2).2.2
 ·have hL:nQ u.toNat=(u.toNat,1):=by unfold nQ;rw[ai Zo,ai Zo,ai Zo]
  rw[hL,ai fun h=>c3 h.1.1]
  refine(iX (u::t) (u.toNat,1)).2 fun h=>?_
  have h2:(enc u.toNat).length=1:=h.2.2.2
  unfold enc at h2
  rw[ai c0,au Zo] at h2
  simp at h2
end Go.Sy
namespace Go.Sy
open Go.Proofs
theorem II(σ:al)(ao:Option Addr)(cap:Nat)(l:List UInt8)(H:bu σ ao l.length cap 1 (oE l))(hl:l.length<=bJ):
  bZ Tryz.prog 68 [.a (.v (.slice ao l.length cap))] σ (fun v=>v=.int .i64 (gh l)):=by
 have AS:=hl
 simp only[bJ] at AS
 refine bW Tryz.func68 Z Z Zl fun w=>?_
 refine Zd ?_
 refine gC (fun _ _=>σ) (fun(n:Nat) (k:Nat)=>[(0,.a (.v (.slice ao l.length cap))),(3,.a (.v (.int .i64 k)))]) (fun _ _=>[]) (fun _ _=>[]) 0
  (fun n k=>k<=l.length/\l.length - k<n/\nB l n k=gh l) (fun n k=>l.length - k) (l.length+1) 0 ⟨by omega,by omega,rfl⟩ rfl Zs Zs rfl Zl Zl fun n k ⟨hk,hn,DV⟩=>?_
 refine Za ?_
 refine aG rfl (fun h=>?_) (fun h=>?_)
 ·have cz:k<l.length:=by simp at h;omega
  refine Zd ?_
  have xZ:=H.pn
  refine dL (vl:=some (.int .i64 k)) (vh:=none) TT k l.length Z Z Z Z Z Z Z Z Z Z (.inr ⟨_,_,rfl,rfl⟩) (.inl ⟨rfl,rfl⟩) Zo xZ xZ ?_
  have Ht:=H.sub (l:=k) (k:=l.length) Zo Zo
  rw[zO,aI] at Ht
  generalize Xc:(if cap=k then ao else ao.map (·.add (k*1)))=iB at Ht
  generalize gS:cap - k=dk at Ht
  have DW:(l.drop k).length=l.length - k:=bm
  rw[<-DW] at Ht
  refine cr 13 (.a (.v (.slice iB (l.drop k).length dk))) rfl trivial (fun β=>?_) (Zr ?_)
  ·rw[DW]
  refine aT Z Z Z Z Z Tryz.call147 Zl (UW σ iB dk (l.drop k) Ht (by rw[DW];simp only[bJ];omega)) fun v hv=>⟨_,by (repeat' (first | exact trivial | exact bh rfl | exact dF _ _ _ _ _ _ | exact dw _ _ | refine kz.of ?_ | refine SV.iv ?_ | exact SV.ez | exact AT.ez | exact eQ.qv (by assumption) | constructor)),hv.symm,?_⟩
  refine Zr ?_
  rw[QX]
  refine Za ?_
  have hb:0<=(iU (l.drop k)).2/\(iU (l.drop k)).2<=(l.drop k).length:=CI (l.drop k) 4 0
  obtain⟨m,rfl⟩:∃ m,n=m+1:=⟨n - 1,by omega⟩
  rw[nB,au cz] at DV
  refine aG rfl (fun h=>?_) (fun h=>?_)
  ·refine Zb ?_
   refine aw TT rfl fun β w' _ _=>?_
   rw[au (by simpa using h)] at DV
   rw[<-DV]
   rfl
  ·have h0:(iU (l.drop k)).2≠0:=by simpa using h
   rw[ai h0] at DV
   refine Zc ?_
   have he:(k:Int)+(iU (l.drop k)).2=((k+(iU (l.drop k)).2.toNat:Nat):Int):=by omega
   rw[he]
   refine an (m,k+(iU (l.drop k)).2.toNat) ⟨?_,?_,DV⟩ ?_ rfl Zs Zs rfl Zl Zl<;>(dsimp only;omega)
 ·have cz:¬ k<l.length:=by simp at h;omega
  obtain⟨m,rfl⟩:∃ m,n=m+1:=⟨n - 1,by omega⟩
  rw[nB,ai cz] at DV
  refine Ze ?_
  refine aw TT rfl fun β w' _ _=>?_
  rw[<-DV]
  rfl
theorem Mf(u:UInt8): fh u=true↔48<=u.toNat/\u.toNat<=57:=by
 unfold fh
 simp[<-iM]
 omega
theorem PC(u:UInt8): fh u=(decide ((u.toNat:Int)≥48)&&decide ((u.toNat:Int)<=57)):=by
 rw[cg,Mf]
 simp
 omega
theorem Q2(σ:al)(u:UInt8): bZ Tryz.prog 243 [.a (.v (.int .u8 u.toNat))] σ (fun v=>v=.bool (fh u)):=by
 rw[PC]
 refine bW Tryz.func243 Z Z Zl fun w=>?_
 refine Za ?_
 refine ax 5 rfl (fun h=>?_) (fun h=>?_)
 ·refine gn ?_
  refine aw TT rfl fun β w' _ _=>?_
  show Value.bool _=_
  rw[h,cp]
 ·refine gn ?_
  refine aw TT rfl fun β w' _ _=>?_
  rw[h,dt]
  rfl
theorem oQ(σ:al)(d:oh)(hd:d.dg.size<=bJ): bZ Tryz.prog 225 [.agg (lC d)] σ (fun v=>v=.bool (dv d)):=by
 obtain⟨ng,dg,ex⟩:=d
 obtain⟨l,rfl⟩:=oS dg
 have jZ:=gB l
 simp only at hd
 rw[jZ] at hd
 have VK:=hd
 simp only[bJ] at VK
 refine bW Tryz.func225 Z Z Zl fun w=>?_
 refine Za ?_
 refine aG rfl (fun h=>?_) (fun h=>?_)
 ·have h0:l=[]:=by simpa using h
  subst h0
  have e:dv ⟨ng,ju [],ex⟩=(!ng&&decide (ex=0)):=rfl
  rw[e]
  refine Za ?_
  refine ax 13 rfl (fun h=>?_) (fun h=>?_)
  ·have h:(!ng)=true:=h
   refine gn ?_
   refine aw TT rfl fun β w' _ _=>?_
   rw[h]
   rfl
  ·have h:(!ng)=false:=h
   refine gn ?_
   refine aw TT rfl fun β w' _ _=>?_
   rw[h]
   rfl
 have h0:l≠[]:=by simpa using h
 have LX:l.length≠0:=by simpa using h0
 refine Zd ?_
 refine bX (fun _=>σ) (fun(k:Nat)=>[(1,.a (.p 0 0)),(3,.a (.v (.int .i64 (ju l).size))),(4,.a (.v (.int .i64 k)))]) (fun _=>[(0,.loc 24,lC ⟨ng,ju l,ex⟩)]) (fun _=>[]) 1
  (fun k=>k<=l.length/\(l.take k).all fh=true) (fun k=>l.length - k) 0 ⟨ay _,rfl⟩ rfl Zs Zs rfl Zl Zl fun k ⟨hk,hp⟩=>?_
 refine Za ?_
 refine aG rfl (fun h=>?_) (fun h=>?_)
 ·have cz:k<l.length:=by have:=ae h;omega
  have mi:(l.take (k+1)).all fh=fh l[k]:=by rw[ak cz,List.all_append,hp];simp
  refine Zd ?_
  refine fz (u:=l[k]) TT Z Z Z Z Z Z Z Z Zo (by show l[((k:Nat):Int).toNat]?=_;rw[cd,aa cz]) (Zr ?_)
  refine aT Z Z Z Z Z Tryz.call243 Zl (Q2 σ l[k]) fun v hv=>⟨.a (.b (fh l[k])),trivial,hv.symm,?_⟩
  refine gX ?_
  refine aG rfl (fun h=>?_) (fun h=>?_)
  ·have h:fh l[k]=false:=by simpa using h
   refine Zb ?_
   refine aw TT rfl fun β w' _ _=>?_
   show Value.bool false=_
   congr 1
   rw[jV _ _ _ LX,show l.all fh=false by
    rw[List.all_eq_false]
    exact⟨l[k],aP cz,by rw[h];decide⟩]
   simp
  ·have h:fh l[k]=true:=by simpa using h
   refine Zc ?_
   refine an (k+1) ⟨cz,by rw[mi,h]⟩ Zo rfl Zs Zs rfl Zl Zl
 have fQ:k=l.length:=by have:=ab h;omega
 subst fQ
 rw[aI] at hp
 rw[jV _ _ _ LX,hp,mh]
 refine Ze ?_
 refine ax 31 rfl (fun h=>?_) (fun h=>?_)
 rotate_left
 ·refine gn ?_
  refine aw TT rfl fun β w' _ _=>?_
  rw[show decide (l.length<=40)=false by have:=ab h;simp;omega]
  simp only[dt]
  rfl
 have h40:l.length<=40:=by have:=ae h;omega
 rw[bj h40,cp]
 refine Zr ?_
 refine ax 36 rfl (fun h=>?_) (fun h=>?_)
 rotate_left
 ·refine gn ?_
  refine aw TT rfl fun β w' _ _=>?_
  rw[show decide (-800<=ex)=false by have:¬ ex ≥ -1000:=ab h;simp;omega]
  simp only[dt]
  rfl
 have Jy:ex ≥ -1000:=ae h
 refine Zr ?_
 refine ax 41 rfl (fun h=>?_) (fun h=>?_)
 rotate_left
 ·refine gn ?_
  refine aw TT rfl fun β w' _ _=>?_
  rw[show decide (ex<=800)=false by have:¬ ex<=1000:=ab h;simp;omega]
  simp only[lu,dt]
  rfl
 have LL:ex<=1000:=ae h
 refine Zr ?_
 refine eO Z Z Z Z Z Z (by show -9223372036854775808<=((ju l).size:Int)+ex/\((ju l).size:Int)+ex<=9223372036854775807;omega) (Zr ?_)
 refine ax 48 rfl (fun h=>?_) (fun h=>?_)
 rotate_left
 ·refine gn ?_
  refine aw TT rfl fun β w' _ _=>?_
  rw[show decide (-400<=(l.length:Int)+ex)=false by have:¬ ((ju l).size:Int)+ex ≥ -400:=ab h;simp;omega]
  simp only[lu,dt]
  rfl
 have hy1:-400<=(l.length:Int)+ex:=by have:((ju l).size:Int)+ex ≥ -400:=ae h;omega
 refine Zr ?_
 refine eO Z Z Z Z Z Z (by show -9223372036854775808<=((ju l).size:Int)+ex/\((ju l).size:Int)+ex<=9223372036854775807;omega) (Zr ?_)
 refine ax 55 rfl (fun h=>?_) (fun h=>?_)
 rotate_left
 ·refine gn ?_
  refine aw TT rfl fun β w' _ _=>?_
  rw[show decide ((l.length:Int)+ex<=400)=false by have:¬ ((ju l).size:Int)+ex<=400:=ab h;simp;omega]
  simp only[lu,dt]
  rfl
 have hy2:(l.length:Int)+ex<=400:=by have:((ju l).size:Int)+ex<=400:=ae h;omega
 rw[bj hy1,bj hy2,bj (show -800<=ex by omega),bj (show ex<=800 by omega)]
 simp only[cp]
 refine Zr ?_
 have dj:0<l.length:=by omega
 refine fz (u:=l[0]) TT Z Z Z Z Z Z Z Z Zo (by simp[dj]) (Zr ?_)
 have e3:(l.head? != some 48)=!decide ((l[0].toNat:Int)=48):=by
  rw[kQ,aa dj,cg]
  simp[<-iM]
  omega
 rw[e3]
 refine ax 61 rfl (fun h=>?_) (fun h=>?_)
 rotate_left
 ·refine gn ?_
  refine aw TT rfl fun β w' _ _=>?_
  rw[h]
  rfl
 rw[h]
 refine Zr ?_
 refine iY Z Z Z Z Z Z (by show -9223372036854775808<=((ju l).size:Int) - 1/\((ju l).size:Int) - 1<=9223372036854775807;omega) (Zr ?_)
 refine fz (u:=l[l.length - 1]) TT Z Z Z Z Z Z Z Z (by show 0<=((ju l).size:Int) - 1;omega) (by
  show l[(((ju l).size:Int) - 1).toNat]?=_
  rw[show(((ju l).size:Int) - 1).toNat=l.length - 1 by omega,aa Zo]) (Zr ?_)
 have e4:(l.getLast? != some 48)=!decide ((l[l.length - 1].toNat:Int)=48):=by
  rw[List.getLast?_eq_getElem?,aa Zo,cg]
  simp[<-iM]
  omega
 rw[e4]
 refine Zb ?_
 refine aw TT rfl fun β w' _ _=>?_
 rfl
end Go.Sy
namespace Go.Sy
open Go.Proofs
theorem Rb(h:Int)(h0:0<=h): h.tdiv 256=h / 256:=Int.tdiv_eq_ediv_of_nonneg h0
theorem XF(h:Int)(h0:0<=h): IntKind.u8.wrap (h.tmod 256)=((byteOf h).toNat:Int):=by
 rw[tX,Int.tmod_eq_emod_of_nonneg h0,lp,lp]
 omega
theorem UP(σ:al)(d:oh)(hs:dv d=true)(h0:d.dg.size≠0): pV Tryz.prog 226 [.agg (lC d)] σ [] (fun v _ A'=>∃ ao cap,v=.slice ao (fO d).length cap/\(fO d).length<=cap/\A'=[rI ao cap (fO d)]):=by
 obtain⟨am8,h1,h2⟩:=vi hs h0
 obtain⟨ng,dg,ex⟩:=d
 obtain⟨l,rfl⟩:=oS dg
 have jZ:=gB l
 dsimp only at h0 h1 h2
 rw[jZ] at h0
 have am1:l.length<=40:=by
  rw[jV _ _ _ h0] at hs
  simp only[aQ,aX] at hs
  exact hs.1.1.1.1.1.1.1
 refine fk Tryz.func226 Z Z ⟨dw 0 _,trivial⟩ fun w=>?_
 refine Za ?_
 refine eO Z Z Z Z Z Z (by dsimp only;omega) (Zr ?_)
 refine eO Z Z Z Z Z Z (by dsimp only;omega) (Zr ?_)
 dsimp only
 have hH1:0<=((ju l).size:Int)+ex+1000:=by omega
 have hH2:((ju l).size:Int)+ex+1000<=1400:=by omega
 have Ye:fO ⟨ng,ju l,ex⟩=byteOf ((((ju l).size:Int)+ex+1000) / 256)::byteOf (((ju l).size:Int)+ex+1000)::(l.map (fun c=>c - 48+1)++[0]):=by
  unfold fO
  dsimp only
  rw[jr]
 generalize ((ju l).size:Int)+ex+1000=h at *
 refine Za ?_
 refine wQ Z Z Z Z Z Z (by decide) (by rw[Rb h hH1];omega) ?_
 rw[Rb h hH1]
 refine Zr ?_
 refine jY TT ((byteOf (h / 256)).toNat:Int) Z Z Z Z Z Z Z Z (tX _) (Zr ?_)
 refine pH Z Z Z Z Z Z (by decide) (Zr ?_)
 refine jY TT ((byteOf h).toNat:Int) Z Z Z Z Z Z Z Z (XF h hH1) (Zr ?_)
 refine Zd ?_
 refine zM 1 2 1 rfl Zl rfl (by decide) fun g=>?_
 refine bX (fun(_:SzS)=>σ) (fun t=>[(1,.a (.p 0 0)),(4,.a (.v (.slice t.oo (yr h l t.k).length t.oc))),(5,.a (.v (.int .i64 (t.k:Nat))))]) (fun _=>[(0,.loc 24,[.b ng,.v (.string (ju l)),.v (.int .i64 ex)])]) (fun t=>[rI t.oo t.oc (yr h l t.k)]) 1
  (fun t=>t.k<=l.length/\(yr h l t.k).length<=t.oc) (fun t=>l.length - t.k) ⟨0,some ⟨g,0,none⟩,2⟩ ⟨ay _,aq _⟩ rfl Zs Zs rfl Zl Zl fun⟨k,oo,oc⟩ ⟨hk,j6⟩=>?_
 dsimp only at hk j6 ⊢
 have hlen:=ME h l k
 refine Za ?_
 refine aG rfl (fun hc=>?_) (fun hc=>?_)
 rotate_left
 ·have fQ:k=l.length:=by have:=ab (show decide ((k:Int)<(ju l).size)=false from hc);omega
  have e:yr h l k++[0]=fO ⟨ng,ju l,ex⟩:=by
   rw[Ye,fQ]
   unfold yr
   rw[aI]
   rfl
  refine Ze ?_
  refine bl TT 0 Z Z Z Z Z Z Z Z Z Z Z Z Z Z Z Z Z Z Zl rfl Zo (by show((yr h l k).length+1)*1<=_;omega) fun om nE lS=>aM TT rfl ?_
  refine Zb ?_
  refine dq TT rfl fun β w' _ _=>?_
  have lJ:(yr h l k++[0]).length=(yr h l k).length+1:=by simp
  rw[<-e]
  exact⟨om,nE,by rw[lJ];rfl,by rw[lJ];exact lS,aN (fun x=>[x]) (xu (b:=[0]) lJ.symm)⟩
 have cz:k<l.length:=by have:=ae (show decide ((k:Int)<(ju l).size)=true from hc);omega
 have hx:=aa cz
 have hi:∀ z:Int,z=(k:Int)->(ju l).data.toList[z.toNat]?=some l[k]:=fun z hz=>by rw[hz,jr];exact hx
 have m1:=Ia (h:=h) hx
 generalize l[k]=c at *
 refine Zd ?_
 refine fz (u:=c) TT Z Z Z Z Z Z Z Z Zo (hi _ rfl) (Zr ?_)
 refine kI ((c - 48).toNat:Int) Z Z Z Z Z Z (A9 (EG c)) (Zr ?_)
 refine kI ((c - 48+1).toNat:Int) Z Z Z Z Z Z (Ba (EH (c - 48))) (Zr ?_)
 refine bl TT 0 Z Z Z Z Z Z Z Z Z Z Z Z Z Z Z Z Z Z Zl rfl Zo (by show((yr h l k).length+1)*1<=_;omega) fun om nE lS=>aM TT rfl ?_
 refine Zc ?_
 have lJ:(yr h l (k+1)).length=(yr h l k).length+1:=by rw[m1];simp
 refine an (⟨k+1,om,nE⟩:SzS) ⟨cz,by dsimp only;omega⟩ (by dsimp only;omega) rfl ?_ Zs ?_ Zl Zl
 ·dsimp only
  rw[lJ]
  (repeat first | exact trivial | refine⟨rfl,?_⟩)
 ·show [_]=[_]
  dsimp only
  unfold rI
  rw[lJ,m1,kh]
  rfl
end Go.Sy
namespace Go.Sy
open Go.Proofs
def zd (S:List UInt8) (k:Nat):List UInt8:=fN (S.take k)++S.drop k
theorem CM(S:List UInt8)(k:Nat): (zd S k).length=S.length:=by
 unfold zd
 rw[af,kf,aE,bm]
 omega
theorem RO{S:List UInt8}{k:Nat}{x:UInt8}(h:S[k]?=some x): (zd S k).set k (255 - x)=zd S (k+1):=by
 obtain⟨hk,he⟩:=ah.1 h
 have hl:(fN (S.take k)).length=k:=by rw[kf,aE];omega
 unfold zd
 rw[ak hk,he,aB hk,he,dY _ _ Zo,hl,fM,hX]
 unfold fN
 rw[aF,av]
 rfl
theorem RP{S:List UInt8}{k:Nat}{x:UInt8}(h:S[k]?=some x): (zd S k)[k]?=some x:=by
 obtain⟨hk,he⟩:=ah.1 h
 have hl:(fN (S.take k)).length=k:=by rw[kf,aE];omega
 unfold zd
 rw[aW Zo,hl,fM,aB hk,he]
 rfl
theorem KK: ∀ c:UInt8,IntKind.u8.wrap ((255:Int) - c.toNat)=((255 - c).toNat:Int):=PN (by decide +kernel)
def Bg (neg:Bool) (S:List UInt8) (k:Nat):List UInt8:=(if neg&&decide (0<k) then 48 else 50)::(if neg then fN (S.take k) else S.take k)
theorem U4{neg:Bool}{S:List UInt8}{k:Nat}(h:k<=S.length): (Bg neg S k).length=k+1:=by
 unfold Bg
 rw[List.length_cons]
 split
 ·rw[kf,aE];omega
 ·rw[aE];omega
def sK (neg:Bool) (S:List UInt8) (k:Nat):List UInt8:=if neg then zd S k else S
theorem KZ(neg:Bool)(S:List UInt8)(k:Nat): (sK neg S k).length=S.length:=by
 unfold sK
 split
 ·exact CM S k
 ·rfl
def tK (s:List UInt8) (k:Nat):List UInt8:=64::mL (s.take k)
theorem J1: ∀(a:List UInt8) (c:UInt8),mL (a++[c])=mL a++(if c=0 then [0,255] else [c])
 | [],c=>by
  show mL [c]=[]++_
  unfold mL
  split
  ·rename_i h;subst h;rfl
  ·rfl
 | x::a,c=>by
  rw[aZ,mL,mL,J1 a c]
  split<;>simp
theorem Px{s:List UInt8}{k:Nat}{c:UInt8}(h:s[k]?=some c): tK s (k+1)=tK s k++(if c=0 then [0,255] else [c]):=by
 obtain⟨hk,he⟩:=ah.1 h
 unfold tK
 rw[ak hk,he,J1]
 rfl
theorem NL: ∀ a:List UInt8,(mL a).length<=2*a.length
 | []=>aq _
 | x::a=>by
  have:=NL a
  rw[mL,List.length_cons]
  split<;>simp<;>omega
theorem V0(s:List UInt8)(k:Nat): (tK s k).length<=2*s.length+1:=by
 have:=NL (s.take k)
 have h2:(s.take k).length<=s.length:=by rw[aE];omega
 unfold tK
 rw[List.length_cons]
 omega
theorem UJ(neg:Bool)(S:List UInt8): sK neg S 0=S:=by cases neg<;>rfl
theorem Ro(neg:Bool)(S:List UInt8): Bg neg S 0=[50]:=by cases neg<;>rfl
theorem OG{S:List UInt8}{k:Nat}{x:UInt8}(h:S[k]?=some x): Bg false S (k+1)=Bg false S k++[x]:=by
 obtain⟨hk,he⟩:=ah.1 h
 unfold Bg
 rw[ak hk,he]
 rfl
theorem Rp{S:List UInt8}{k:Nat}{x:UInt8}(h:S[k]?=some x): Bg true S (k+1)=48::fN (S.take k)++[255 - x]:=by
 obtain⟨hk,he⟩:=ah.1 h
 unfold Bg
 rw[ak hk,he,fN,aF]
 simp[fN]
structure PU where
 k:Nat
 oo:Option Addr
 oc:Nat
theorem ab3(σ:al)(p:dz)(hp:Rt p)(ou:p.s.size<=1000000):
  fa Tryz.prog 193 [.agg (cc p)] σ (fun v bD=>∃ ao cap,v=.slice ao (iF p).length cap/\bu bD ao (iF p).length cap 1 (gM (iF p))):=by
 obtain⟨kd,b,n,s,i⟩:=p
 dsimp only at ou
 have LR:kd=2->dv n=true:=fun h=>by
  have hr:=(lE _).2 hp
  subst h
  have:(decide ((⟨0,b,fA,s,i⟩:dz)=iK)&&dv n)=true:=hr
  rw[aQ] at this
  exact this.2
 have iZ:∀(l:List UInt8) (e:iF ⟨kd,b,n,s,i⟩=l) {s2:al} {oo:Option Addr} {oc:Nat},b9 s2 (rI oo oc l)->l.length<=oc->∃ ao ac,Value.slice oo l.length oc=.slice ao (iF ⟨kd,b,n,s,i⟩).length ac/\bu s2 ao (iF ⟨kd,b,n,s,i⟩).length ac 1 (gM (iF ⟨kd,b,n,s,i⟩)):=by
  intro l e s2 oo oc hS hc
  rw[e]
  exact⟨oo,oc,rfl,rW hS hc⟩
 refine ek Tryz.func193 Z Z ⟨bT 0 _,trivial⟩ fun w=>?_
 refine Zd ?_
 refine aG rfl (fun h=>?_) (fun h0=>?_)
 ·have h:=ae (show decide (kd=0)=true from h)
  refine Zb ?_
  refine rO 1 1 1 rfl Zl rfl (by decide) fun g=>?_
  refine dD 0 Z Z fun s2 cw hS=>?_
  refine aw TT rfl fun β w' _ _=>?_
  exact iZ [16] (by unfold iF;dsimp only;rw[au h]) hS (aq _)
 have h0:=ab (show decide (kd=0)=false from h0)
 refine Za ?_
 refine aG rfl (fun h=>?_) (fun h1=>?_)
 ·have h:=ae (show decide (kd=1)=true from h)
  refine Za ?_
  refine aG rfl (fun hb=>?_) (fun hb=>?_)
  ·have hb:b=true:=hb
   refine Zb ?_
   refine rO 1 1 1 rfl Zl rfl (by decide) fun g=>?_
   refine dD 0 Z Z fun s2 cw hS=>?_
   refine aw TT rfl fun β w' _ _=>?_
   exact iZ [33] (by unfold iF;dsimp only;rw[ai h0,au h,hb];rfl) hS (aq _)
  ·have hb:b=false:=hb
   refine Zg ?_
   refine rO 1 1 1 rfl Zl rfl (by decide) fun g=>?_
   refine dD 0 Z Z fun s2 cw hS=>?_
   refine aw TT rfl fun β w' _ _=>?_
   exact iZ [32] (by unfold iF;dsimp only;rw[ai h0,au h,hb];rfl) hS (aq _)
 have h1:=ab (show decide (kd=1)=false from h1)
 refine Za ?_
 refine aG rfl (fun h=>?_) (fun h2=>?_)
 ·have h:=ae (show decide (kd=2)=true from h)
  have hs:=LR h
  refine Za ?_
  refine aG rfl (fun hz=>?_) (fun hz=>?_)
  ·have hz:n.dg.size=0:=by have:=ae (show decide ((n.dg.size:Int)=0)=true from hz);omega
   refine Zb ?_
   refine rO 1 1 1 rfl Zl rfl (by decide) fun g=>?_
   refine dD 0 Z Z fun s2 cw hS=>?_
   refine aw TT rfl fun β w' _ _=>?_
   exact iZ [49] (by unfold iF;dsimp only;rw[ai h0,ai h1,au h,au hz]) hS (aq _)
  have hz:n.dg.size≠0:=by have:=ab (show decide ((n.dg.size:Int)=0)=false from hz);omega
  refine Zd ?_
  refine gP 1 1 1 rfl Zl rfl (by decide) fun g=>?_
  have pv:=size_le hs hz
  refine dT [0] (A0:=[]) (Ar:=[rI (some ⟨g,0,none⟩) 1 [50]]) Z Z Z Z Z Z Z Tryz.call226 ⟨dw 0 n,trivial⟩ (UP σ n hs hz) fun v s1 A' cP ⟨so,sc,hv,pb,hA⟩=>⟨.a (.v (.slice so (fO n).length sc)),trivial,hv.symm,?_⟩
  subst hA
  refine Hz ?_
  have Zz:0<(fO n).length:=Nat.succ_pos _
  have LO:iF ⟨kd,b,n,s,i⟩=if n.neg then 48::fN (fO n) else 50::fO n:=by
   unfold iF
   dsimp only
   rw[ai ‹¬kd=0›,ai ‹¬kd=1›,au ‹kd=2›,ai ‹n.dg.size≠0›]
  generalize fO n=S at *
  generalize hng:n.neg=ng at *
  rw[show rI so sc S=rI so sc (sK ng S 0) by rw[UJ],show rI (some ⟨g,0,none⟩) 1 [50]=rI (some ⟨g,0,none⟩) 1 (Bg ng S 0) by rw[Ro]]
  refine bX (fun(_:PU)=>s1) (fun t=>[(1,.a (.p 0 0)),(3,.a (.v (.slice t.oo (t.k+1) t.oc))),(4,.a (.v (.slice so S.length sc))),(5,.a (.v (.int .i64 (t.k:Nat))))]) (fun _=>[(0,.loc 105,[.v (.int .i64 kd),.b b,.b ng,.v (.string n.dg),.v (.int .i64 n.ex),.v (.string s),.v (.int .i64 i)])]) (fun t=>[rI so sc (sK ng S t.k),rI t.oo t.oc (Bg ng S t.k)]) 1
   (fun t=>t.k<=S.length/\t.k+1<=t.oc) (fun t=>S.length - t.k) ⟨0,some ⟨g,0,none⟩,1⟩ ⟨ay _,aq _⟩ rfl Zs Zs rfl Zl Zl fun⟨k,oo,oc⟩ ⟨hk,j6⟩=>?_
  dsimp only at hk j6 ⊢
  have Hs:=U4 (neg:=ng) hk
  refine Za ?_
  refine aG rfl (fun hc=>?_) (fun hc=>?_)
  rotate_left
  ·have fQ:k=S.length:=by have:=ab (show decide ((k:Int)<S.length)=false from hc);omega
   refine Zg ?_
   refine dD 1 Z Z fun s2 cw hS=>?_
   refine aw TT rfl fun β w' _ _=>?_
   rw[<-Hs]
   refine iZ _ ?_ hS (by rw[Hs];exact j6)
   rw[LO,fQ]
   unfold Bg
   rw[aI]
   cases ng<;>simp[Zz]
  have cz:k<S.length:=by have:=ae (show decide ((k:Int)<S.length)=true from hc);omega
  refine Zd ?_
  refine aG rfl (fun hn=>?_) (fun hn=>?_)
  rotate_left
  ·have hn:ng=false:=hn
   subst hn
   refine jd 0 (E:=rI so sc (sK false S k)) rfl (by show 0<(sK false S k).length;rw[KZ];omega) fun g1 pN=>?_
   have pN:so=some ⟨g1,0,none⟩:=pN
   subst pN
   have nz:∀ z:Int,z=(k:Int)->some (SV.a (AT.v (.pointer (some (Addr.add ⟨g1,0,none⟩ (z.toNat*1))))))=some (SV.a (AT.v (.pointer (some ⟨g1,k,none⟩)))):=fun z hz=>by rw[hz,cd,jM,kS]
   have hx:=aa cz
   have qL:Bg false S (k+1)=Bg false S k++[S[k]]:=OG hx
   generalize S[k]=x at *
   refine Zc ?_
   refine br TT Z Z Z Z Z Z Z Z Z ⟨by omega,by omega⟩ (Zr ?_)
   refine eH 0 (off:=k) (c:=.v (.int .u8 x.toNat)) TT Z Z Z Z Z (nz _ rfl) Z Z Z Z (BN hx) trivial (Zr ?_)
   rw[show rI oo oc (Bg false S k)=(⟨oo,k+1,oc,5,1,kA (Bg false S k)⟩:AE) by unfold rI;rw[Hs]]
   refine bl TT 1 Z Z Z Z Z Z Z Z Z Z Z Z Z Z Z Z Z Z Zl rfl Zo (by show(k+1+1)*1<=_;omega) fun om nE lS=>aM TT rfl ?_
   refine Zc ?_
   refine an (⟨k+1,om,nE⟩:PU) ⟨cz,lS⟩ (by dsimp only;omega) rfl Zs Zs ?_ Zl Zl
   show [_,_]=[_,_]
   dsimp only
   rw[qL]
   exact aN (fun q=>[_,q]) (xu (a:=Bg false S k) (b:=[x]) (by rw[af,Hs];rfl)).symm
  ·have hn:ng=true:=hn
   subst hn
   refine jd 0 (E:=rI so sc (sK true S k)) rfl (by show 0<(sK true S k).length;rw[KZ];omega) fun g1 pN=>?_
   have pN:so=some ⟨g1,0,none⟩:=pN
   subst pN
   refine jd 1 (E:=rI oo oc (Bg true S k)) rfl (by show 0<(Bg true S k).length;omega) fun g2 sQ=>?_
   have sQ:oo=some ⟨g2,0,none⟩:=sQ
   subst sQ
   have nz:∀ z:Int,z=(k:Int)->some (SV.a (AT.v (.pointer (some (Addr.add ⟨g1,0,none⟩ (z.toNat*1))))))=some (SV.a (AT.v (.pointer (some ⟨g1,k,none⟩)))):=fun z hz=>by rw[hz,cd,jM,kS]
   have an4:some (SV.a (AT.v (.pointer (some (Addr.add ⟨g2,0,none⟩ ((0:Int).toNat*1))))))=some (SV.a (AT.v (.pointer (some ⟨g2,0,none⟩)))):=by rw[jM];rfl
   have hx:=aa cz
   have hm:=RP hx
   have hms:=RO hx
   have hmg:(zd S (k+1))[k]?=some (255 - S[k]):=by rw[<-hms,List.getElem?_set_self (by rw[CM];exact cz)]
   have aj1:(Bg true S k).set 0 48=48::fN (S.take k):=by unfold Bg;rfl
   have qL:Bg true S (k+1)=48::fN (S.take k)++[255 - S[k]]:=Rp hx
   have ac3:(48::fN (S.take k)).length=k+1:=by rw[List.length_cons,kf,aE];omega
   generalize S[k]=x at *
   refine Za ?_
   rw[show rI (some ⟨g2,0,none⟩) oc (Bg true S k)=(⟨some ⟨g2,0,none⟩,k+1,oc,5,1,kA (Bg true S k)⟩:AE) by unfold rI;rw[Hs]]
   rw[show rI (some ⟨g1,0,none⟩) sc (sK true S k)=(⟨some ⟨g1,0,none⟩,S.length,sc,5,1,kA (zd S k)⟩:AE) by unfold rI;rw[KZ];rfl]
   refine br TT Z Z Z Z Z Z Z Z Z ⟨by omega,by omega⟩ (Zr ?_)
   refine jC 1 (off:=0) (A':=[⟨some ⟨g1,0,none⟩,S.length,sc,5,1,kA (zd S k)⟩,⟨some ⟨g2,0,none⟩,k+1,oc,5,1,kA (48::fN (S.take k))⟩]) (c:=.v (.int .u8 48)) TT Z Z Z Z an4 Z Z Z Z Z (by show 0<(k+1)*1;omega) trivial rfl (by rw[<-aj1,<-BM];rfl) (Zr ?_)
   refine Za ?_
   refine br TT Z Z Z Z Z Z Z Z Z ⟨by omega,by omega⟩ (Zr ?_)
   refine eH 0 (off:=k) (c:=.v (.int .u8 x.toNat)) TT Z Z Z Z Z (nz _ rfl) Z Z Z Z (BN hm) trivial (Zr ?_)
   refine kI ((255 - x).toNat:Int) Z Z Z Z Z Z (A9 (KK x)) (Zr ?_)
   refine br TT Z Z Z Z Z Z Z Z Z ⟨by omega,by omega⟩ (Zr ?_)
   refine jC 0 (off:=k) (A':=[⟨some ⟨g1,0,none⟩,S.length,sc,5,1,kA (zd S (k+1))⟩,⟨some ⟨g2,0,none⟩,k+1,oc,5,1,kA (48::fN (S.take k))⟩]) (c:=.v (.int .u8 ((255 - x).toNat:Int))) TT Z Z Z Z (nz _ rfl) Z Z Z Z Z (by show k<S.length*1;omega) trivial rfl (by rw[<-hms,<-BM];rfl) (Zr ?_)
   refine Za ?_
   refine br TT Z Z Z Z Z Z Z Z Z ⟨by omega,by omega⟩ (Zr ?_)
   refine eH 0 (off:=k) (c:=.v (.int .u8 ((255 - x).toNat:Int))) TT Z Z Z Z Z (nz _ rfl) Z Z Z Z (BN hmg) trivial (Zr ?_)
   refine bl TT 1 Z Z Z Z Z Z Z Z Z Z Z Z Z Z Z Z Z Z Zl rfl Zo (by show(k+1+1)*1<=_;omega) fun om nE lS=>aM TT rfl ?_
   refine Zc ?_
   refine an (⟨k+1,om,nE⟩:PU) ⟨cz,lS⟩ (by dsimp only;omega) rfl Zs Zs ?_ Zl Zl
   show [rI _ _ (sK true S (k+1)),rI _ _ (Bg true S (k+1))]=[_,_]
   have e1:rI (some ⟨g1,0,none⟩) sc (sK true S (k+1))=(⟨some ⟨g1,0,none⟩,S.length,sc,5,1,kA (zd S (k+1))⟩:AE):=by
    unfold rI sK
    rw[au rfl,CM]
   rw[e1,qL]
   exact aN (fun q=>[_,q]) (xu (a:=48::fN (S.take k)) (b:=[255 - x]) (by rw[af,ac3];rfl)).symm
 have h2:=ab (show decide (kd=2)=false from h2)
 refine Za ?_
 refine aG rfl (fun h=>?_) (fun h3=>?_)
 ·have h:=ae (show decide (kd=3)=true from h)
  refine Zd ?_
  refine zM 1 1 1 rfl Zl rfl (by decide) fun g=>?_
  obtain⟨l,rfl⟩:∃ l:List UInt8,s=ju l:=⟨s.data.toList,rfl⟩
  rw[gB] at ou
  refine bX (fun(_:PU)=>σ) (fun t=>[(1,.a (.p 0 0)),(6,.a (.v (.slice t.oo (tK l t.k).length t.oc))),(7,.a (.v (.int .i64 (t.k:Nat))))]) (fun _=>[(0,.loc 105,[.v (.int .i64 kd),.b b,.b n.neg,.v (.string n.dg),.v (.int .i64 n.ex),.v (.string (ju l)),.v (.int .i64 i)])]) (fun t=>[rI t.oo t.oc (tK l t.k)]) 1
   (fun t=>t.k<=l.length/\(tK l t.k).length<=t.oc) (fun t=>l.length - t.k) ⟨0,some ⟨g,0,none⟩,1⟩ ⟨ay _,aq _⟩ rfl Zs Zs rfl Zl Zl fun⟨k,oo,oc⟩ ⟨hk,j6⟩=>?_
  dsimp only at hk j6 ⊢
  have hlen:=V0 l k
  refine Za ?_
  refine aG rfl (fun hc=>?_) (fun hc=>?_)
  rotate_left
  ·have fQ:k=l.length:=by have:=ab (show decide ((k:Int)<(ju l).size)=false from hc);rw[gB] at this;omega
   have e:iF ⟨kd,b,n,ju l,i⟩=tK l k++[0,0]:=by
    unfold iF tK
    dsimp only
    rw[ai ‹¬kd=0›,ai ‹¬kd=1›,ai ‹¬kd=2›,au ‹kd=3›,jr,fQ,aI]
    rfl
   have lJ:(tK l k++[0,0]).length=(tK l k).length+2:=by simp
   refine Ze ?_
   refine bl TT 0 Z Z Z Z Z Z Z Z Z Z Z Z Z Z Z Z Z Z Zl rfl Zo (by show((tK l k).length+2)*1<=_;omega) fun om nE lS=>aM TT rfl ?_
   refine Zb ?_
   refine dD 0 Z Z fun s2 cw hS=>?_
   refine aw TT rfl fun β w' _ _=>?_
   rw[<-lJ]
   exact iZ _ e (aN (b9 s2) (xu (b:=[0,0]) lJ.symm)▸hS) (by rw[lJ];exact lS)
  have cz:k<l.length:=by have:=ae (show decide ((k:Int)<(ju l).size)=true from hc);rw[gB] at this;omega
  have hx:=aa cz
  have hi:∀ z:Int,z=(k:Int)->(ju l).data.toList[z.toNat]?=some l[k]:=fun z hz=>by rw[hz,jr];exact hx
  have m1:=Px hx
  generalize l[k]=c at *
  refine Zd ?_
  refine fz (u:=c) TT Z Z Z Z Z Z Z Z Zo (hi _ rfl) (Zr ?_)
  refine bl TT 0 Z Z Z Z Z Z Z Z Z Z Z Z Z Z Z Z Z Z Zl rfl Zo (by show((tK l k).length+1)*1<=_;omega) fun om nE lS=>aM TT rfl ?_
  refine Za ?_
  refine fz (u:=c) TT Z Z Z Z Z Z Z Z Zo (hi _ rfl) (Zr ?_)
  refine Za ?_
  refine aG rfl (fun hz=>?_) (fun hz=>?_)
  ·have hz:c=0:=by have:=ae (show decide ((c.toNat:Int)=0)=true from hz);exact iM.1 (by show c.toNat=0;omega)
   rw[au hz] at m1
   refine Za ?_
   refine bl TT 0 Z Z Z Z Z Z Z Z Z Z Z Z Z Z Z Z Z Z Zl rfl Zo (by show((tK l k).length+1+1)*1<=_;omega) fun o2 c2 Bq=>aM TT rfl ?_
   refine Zc ?_
   have Hw:(tK l (k+1)).length=(tK l k).length+1+1:=by rw[m1];simp
   refine an (⟨k+1,o2,c2⟩:PU) ⟨cz,by dsimp only;rw[Hw];exact Bq⟩ (by dsimp only;omega) rfl ?_ Zs ?_ Zl Zl
   ·dsimp only
    rw[Hw]
    (repeat first | exact trivial | refine⟨rfl,?_⟩)
   ·show [_]=[_]
    dsimp only
    unfold rI
    rw[Hw,m1,kh,hz]
    dsimp only
    rw[av]
    rfl
  have hz:c≠0:=fun hq=>by have:=ab (show decide ((c.toNat:Int)=0)=false from hz);rw[hq] at this;exact this rfl
  rw[ai hz] at m1
  refine Zc ?_
  have lJ:(tK l (k+1)).length=(tK l k).length+1:=by rw[m1];simp
  refine an (⟨k+1,om,nE⟩:PU) ⟨cz,by dsimp only;omega⟩ (by dsimp only;omega) rfl ?_ Zs ?_ Zl Zl
  ·dsimp only
   rw[lJ]
   (repeat first | exact trivial | refine⟨rfl,?_⟩)
  ·show [_]=[_]
   dsimp only
   unfold rI
   rw[lJ,m1,kh]
   rfl
 have h3:=ab (show decide (kd=3)=false from h3)
 refine Zg ?_
 have e1:IntKind.u8.wrap (tQ .i64 i 24)=((byteOf (i / 16777216)).toNat:Int):=by rw[tX,Z9]
 have e2:IntKind.u8.wrap (tQ .i64 i 16)=((byteOf (i / 65536)).toNat:Int):=by rw[tX,Z8]
 have e3:IntKind.u8.wrap (tQ .i64 i 8)=((byteOf (i / 256)).toNat:Int):=by rw[tX,XC]
 have e4:IntKind.u8.wrap i=((byteOf i).toNat:Int):=tX i
 dsimp only
 rw[e1,e2,e3,e4]
 refine rO 1 5 1 rfl Zl rfl (by decide) fun g=>?_
 refine dD 0 Z Z fun s2 cw hS=>?_
 refine aw TT rfl fun β w' _ _=>?_
 exact iZ [80,byteOf (i / 16777216),byteOf (i / 65536),byteOf (i / 256),byteOf i] (by unfold iF;dsimp only;rw[ai h0,ai h1,ai h2,ai h3]) hS (aq _)
end Go.Sy
namespace Go.Sy
open Go.Proofs
section
variable {cf:Cf} {Q:Exit->Act->World->Prop} {σ:al} {env:Env} {hp:HP} {A:List AE} {nh:Nat} {it:Item} {rest:List Item}
theorem mA{d:Nat}{x y:Operand}{yt:TypeId}{ca cb:List AT}(a b:oh)(hP:cf.P=Tryz.prog)(fL:it.o.op=.binOp .neq 24 x y yt)(hd:it.o.dst=some d)(hg:bt it.guard env=some true)(hN:Nat.blt d cf.N=true)(hx:bP env x=some (.agg ca))(hy:bP env y=some (.agg cb))(hca:∀ β,ca.map (AT.den β)=(lC a).map (AT.den β))(DX:∀ β,cb.map (AT.den β)=(lC b).map (AT.den β))(hk:OJ cf rest Q σ ((d,.a (.b (!decide (a=b))))::env) hp A nh): OJ cf (it::rest) Q σ env hp A nh:=by
 refine jB (.a (.b (!decide (a=b)))) hd hg hN trivial (fun _ ac β ha w=>?_) hk
 have h1:ac.eval x=.agg #[.bool a.neg,.string a.dg,.int .i64 a.ex]:=(aD ha hx).trans (by simp only[SV.den,hca];rfl)
 have h2:ac.eval y=.agg #[.bool b.neg,.string b.dg,.int .i64 b.ex]:=(aD ha hy).trans (by simp only[SV.den,DX];rfl)
 rw[hP]
 have hG:(eqGuard .neq 24 x y (.agg #[.bool a.neg,.string a.dg,.int .i64 a.ex]) (.agg #[.bool b.neg,.string b.dg,.int .i64 b.ex])).run Tryz.prog w=.ok () w:=run_eqGuard_agg w _ _ _ _ _ _ Zk
 have hE:(Op.equalIn 10000 24 (.agg #[.bool a.neg,.string a.dg,.int .i64 a.ex]) (.agg #[.bool b.neg,.string b.dg,.int .i64 b.ex])).run Tryz.prog w=.ok (decide (a=b)) w:=x9 9998 a b w
 have hB:(binOp .neq 24 (.agg #[.bool a.neg,.string a.dg,.int .i64 a.ex]) (.agg #[.bool b.neg,.string b.dg,.int .i64 b.ex])).run Tryz.prog w=.ok (.bool (!decide (a=b))) w:=by
  rw[run_neq_struct,hE]
  rfl
 simp only[execOp,fL,h1,h2,Sem.run_bind,hG,hB,Result.andThen_ok,Sem.run_pure]
 rfl
end
def kH (g:aJ):Bool:=decide (g.kind<0)||decide (g.kind > 5)||(!decide (g.kind=1)&&g.b)||(!decide (g.kind=2)&&!decide (g.n=fA))||(!decide (g.kind=3)&&!decide (g.s=bF)) ||
 (!decide (g.kind=4)&&decide ((g.l.length:Int) > 0))||(!decide (g.kind=5)&&decide ((g.ks.length:Int) > 0))
theorem ab2(σ:al)(g:aJ)(r:List AT)(hr:eQ σ g r): bZ Tryz.prog 204 [.agg r] σ (fun v=>v=.bool (!kH g&&dv g.n&&decide (gh g.s.data.toList<0)&&g.ks.all nu)):=by
 obtain⟨la,lc,fG,ma,mc,ft,rfl,V⟩:=hr.open
 have cz:=V.kl
 simp only[bJ] at cz
 refine bW Tryz.func204 Z Z Zl fun w=>?_
 refine gz ?_
 refine iD ?_
 refine Zr ?_
 refine iu ?_
 refine gz ?_
 refine iD ?_
 refine Zr ?_
 refine iu ?_
 refine gz ?_
 refine iD ?_
 refine Zr ?_
 refine iu ?_
 refine gz ?_
 refine gz ?_
 refine ji (fun(_:Bool)=>σ) (fun x=>[(1,.a (.p 0 0)),(61,.a (.b x))]) (fun _=>[(0,.loc 28,dN g la lc ma mc)]) (fun _=>[]) 1 (fun x=>x=kH g) ?_ (fun x hx=>?_)
 ·refine iD ?_
  refine Zr ?_
  by_cases tA:g.kind<0
  ·refine ax 11 rfl (fun h=>?_) (fun h=>absurd tA (ab h))
   refine lP ?_
   refine gu 61 (.a (.b true)) rfl trivial (fun _=>rfl) ?_
   refine an true (by simp[kH,tA]) aj rfl Zs Zs rfl Zl Zl
  refine ax 11 rfl (fun h=>absurd (ae h) tA) (fun _=>?_)
  refine Zr ?_
  by_cases yy:g.kind > 5
  ·refine ax 15 rfl (fun h=>?_) (fun h=>absurd yy (ab h))
   refine lP ?_
   refine gu 61 (.a (.b true)) rfl trivial (fun _=>rfl) ?_
   refine an true (by simp[kH,yy]) aj rfl Zs Zs rfl Zl Zl
  refine ax 15 rfl (fun h=>absurd (ae h) yy) (fun _=>?_)
  refine Zr ?_
  have af7:g.kind=0\/g.kind=1\/g.kind=2\/g.kind=3\/g.kind=4\/g.kind=5:=by omega
  rcases af7 with hk | hk | hk | hk | hk | hk
  ·refine ax 18 rfl (fun _=>?_) (fun h=>absurd (show g.kind=1 by simpa using h) Zo)
   refine Zr ?_
   refine ax 23 rfl (fun h=>?_) (fun h=>?_)
   ·have h:g.b=true:=h
    refine lP ?_
    refine gu 61 (.a (.b true)) rfl trivial (fun _=>rfl) ?_
    refine an true (by simp[kH,hk,h]) aj rfl Zs Zs rfl Zl Zl
   have f1:g.b=false:=h
   refine Zr ?_
   refine ax 26 rfl (fun _=>?_) (fun h=>absurd (show g.kind=2 by simpa using h) Zo)
   refine Zr ?_
   refine mA g.n fA Z Z Z Z Z Z Z (fun _=>rfl) (fun _=>rfl) (Zr ?_)
   refine ax 33 rfl (fun h=>?_) (fun h=>?_)
   ·have h:¬ g.n=fA:=by simpa using (show(!decide (g.n=fA))=true from h)
    refine lP ?_
    refine gu 61 (.a (.b true)) rfl trivial (fun _=>rfl) ?_
    refine an true (by simp[kH,hk,h]) aj rfl Zs Zs rfl Zl Zl
   have f2:g.n=fA:=by simpa using (show(!decide (g.n=fA))=false from h)
   refine Zr ?_
   refine ax 36 rfl (fun _=>?_) (fun h=>absurd (show g.kind=3 by simpa using h) Zo)
   refine Zr ?_
   refine ax 42 rfl (fun h=>?_) (fun h=>?_)
   ·have h:¬ g.s=bF:=by simpa using (show(!decide (g.s=bF))=true from h)
    refine lP ?_
    refine gu 61 (.a (.b true)) rfl trivial (fun _=>rfl) ?_
    refine an true (by simp[kH,hk,h]) aj rfl Zs Zs rfl Zl Zl
   have f3:g.s=bF:=by simpa using (show(!decide (g.s=bF))=false from h)
   refine Zr ?_
   refine ax 45 rfl (fun _=>?_) (fun h=>absurd (show g.kind=4 by simpa using h) Zo)
   refine Zr ?_
   refine ax 52 rfl (fun h=>?_) (fun h=>?_)
   ·have h:0<g.l.length:=by have:(g.l.length:Int) > 0:=ae h;omega
    refine lP ?_
    refine gu 61 (.a (.b true)) rfl trivial (fun _=>rfl) ?_
    refine an true (by simp[kH,hk,h]) aj rfl Zs Zs rfl Zl Zl
   have f4:¬ 0<g.l.length:=by have:¬ (g.l.length:Int) > 0:=ab h;omega
   refine Zr ?_
   refine ax 55 rfl (fun _=>?_) (fun h=>absurd (show g.kind=5 by simpa using h) Zo)
   refine lP ?_
   refine an (decide ((g.ks.length:Int) > 0)) (by simp[kH,hk,f1,f2,f3,f4]) aj rfl Zs Zs rfl Zl Zl
  ·refine ax 18 rfl (fun h=>absurd hk (by simpa using h)) (fun _=>?_)
   refine Zr ?_
   refine ax 26 rfl (fun _=>?_) (fun h=>absurd (show g.kind=2 by simpa using h) Zo)
   refine Zr ?_
   refine mA g.n fA Z Z Z Z Z Z Z (fun _=>rfl) (fun _=>rfl) (Zr ?_)
   refine ax 33 rfl (fun h=>?_) (fun h=>?_)
   ·have h:¬ g.n=fA:=by simpa using (show(!decide (g.n=fA))=true from h)
    refine lP ?_
    refine gu 61 (.a (.b true)) rfl trivial (fun _=>rfl) ?_
    refine an true (by simp[kH,hk,h]) aj rfl Zs Zs rfl Zl Zl
   have f2:g.n=fA:=by simpa using (show(!decide (g.n=fA))=false from h)
   refine Zr ?_
   refine ax 36 rfl (fun _=>?_) (fun h=>absurd (show g.kind=3 by simpa using h) Zo)
   refine Zr ?_
   refine ax 42 rfl (fun h=>?_) (fun h=>?_)
   ·have h:¬ g.s=bF:=by simpa using (show(!decide (g.s=bF))=true from h)
    refine lP ?_
    refine gu 61 (.a (.b true)) rfl trivial (fun _=>rfl) ?_
    refine an true (by simp[kH,hk,h]) aj rfl Zs Zs rfl Zl Zl
   have f3:g.s=bF:=by simpa using (show(!decide (g.s=bF))=false from h)
   refine Zr ?_
   refine ax 45 rfl (fun _=>?_) (fun h=>absurd (show g.kind=4 by simpa using h) Zo)
   refine Zr ?_
   refine ax 52 rfl (fun h=>?_) (fun h=>?_)
   ·have h:0<g.l.length:=by have:(g.l.length:Int) > 0:=ae h;omega
    refine lP ?_
    refine gu 61 (.a (.b true)) rfl trivial (fun _=>rfl) ?_
    refine an true (by simp[kH,hk,h]) aj rfl Zs Zs rfl Zl Zl
   have f4:¬ 0<g.l.length:=by have:¬ (g.l.length:Int) > 0:=ab h;omega
   refine Zr ?_
   refine ax 55 rfl (fun _=>?_) (fun h=>absurd (show g.kind=5 by simpa using h) Zo)
   refine lP ?_
   refine an (decide ((g.ks.length:Int) > 0)) (by simp[kH,hk,f2,f3,f4]) aj rfl Zs Zs rfl Zl Zl
  ·refine ax 18 rfl (fun _=>?_) (fun h=>absurd (show g.kind=1 by simpa using h) Zo)
   refine Zr ?_
   refine ax 23 rfl (fun h=>?_) (fun h=>?_)
   ·have h:g.b=true:=h
    refine lP ?_
    refine gu 61 (.a (.b true)) rfl trivial (fun _=>rfl) ?_
    refine an true (by simp[kH,hk,h]) aj rfl Zs Zs rfl Zl Zl
   have f1:g.b=false:=h
   refine Zr ?_
   refine ax 26 rfl (fun h=>absurd hk (by simpa using h)) (fun _=>?_)
   refine Zr ?_
   refine ax 36 rfl (fun _=>?_) (fun h=>absurd (show g.kind=3 by simpa using h) Zo)
   refine Zr ?_
   refine ax 42 rfl (fun h=>?_) (fun h=>?_)
   ·have h:¬ g.s=bF:=by simpa using (show(!decide (g.s=bF))=true from h)
    refine lP ?_
    refine gu 61 (.a (.b true)) rfl trivial (fun _=>rfl) ?_
    refine an true (by simp[kH,hk,h]) aj rfl Zs Zs rfl Zl Zl
   have f3:g.s=bF:=by simpa using (show(!decide (g.s=bF))=false from h)
   refine Zr ?_
   refine ax 45 rfl (fun _=>?_) (fun h=>absurd (show g.kind=4 by simpa using h) Zo)
   refine Zr ?_
   refine ax 52 rfl (fun h=>?_) (fun h=>?_)
   ·have h:0<g.l.length:=by have:(g.l.length:Int) > 0:=ae h;omega
    refine lP ?_
    refine gu 61 (.a (.b true)) rfl trivial (fun _=>rfl) ?_
    refine an true (by simp[kH,hk,h]) aj rfl Zs Zs rfl Zl Zl
   have f4:¬ 0<g.l.length:=by have:¬ (g.l.length:Int) > 0:=ab h;omega
   refine Zr ?_
   refine ax 55 rfl (fun _=>?_) (fun h=>absurd (show g.kind=5 by simpa using h) Zo)
   refine lP ?_
   refine an (decide ((g.ks.length:Int) > 0)) (by simp[kH,hk,f1,f3,f4]) aj rfl Zs Zs rfl Zl Zl
  ·refine ax 18 rfl (fun _=>?_) (fun h=>absurd (show g.kind=1 by simpa using h) Zo)
   refine Zr ?_
   refine ax 23 rfl (fun h=>?_) (fun h=>?_)
   ·have h:g.b=true:=h
    refine lP ?_
    refine gu 61 (.a (.b true)) rfl trivial (fun _=>rfl) ?_
    refine an true (by simp[kH,hk,h]) aj rfl Zs Zs rfl Zl Zl
   have f1:g.b=false:=h
   refine Zr ?_
   refine ax 26 rfl (fun _=>?_) (fun h=>absurd (show g.kind=2 by simpa using h) Zo)
   refine Zr ?_
   refine mA g.n fA Z Z Z Z Z Z Z (fun _=>rfl) (fun _=>rfl) (Zr ?_)
   refine ax 33 rfl (fun h=>?_) (fun h=>?_)
   ·have h:¬ g.n=fA:=by simpa using (show(!decide (g.n=fA))=true from h)
    refine lP ?_
    refine gu 61 (.a (.b true)) rfl trivial (fun _=>rfl) ?_
    refine an true (by simp[kH,hk,h]) aj rfl Zs Zs rfl Zl Zl
   have f2:g.n=fA:=by simpa using (show(!decide (g.n=fA))=false from h)
   refine Zr ?_
   refine ax 36 rfl (fun h=>absurd hk (by simpa using h)) (fun _=>?_)
   refine Zr ?_
   refine ax 45 rfl (fun _=>?_) (fun h=>absurd (show g.kind=4 by simpa using h) Zo)
   refine Zr ?_
   refine ax 52 rfl (fun h=>?_) (fun h=>?_)
   ·have h:0<g.l.length:=by have:(g.l.length:Int) > 0:=ae h;omega
    refine lP ?_
    refine gu 61 (.a (.b true)) rfl trivial (fun _=>rfl) ?_
    refine an true (by simp[kH,hk,h]) aj rfl Zs Zs rfl Zl Zl
   have f4:¬ 0<g.l.length:=by have:¬ (g.l.length:Int) > 0:=ab h;omega
   refine Zr ?_
   refine ax 55 rfl (fun _=>?_) (fun h=>absurd (show g.kind=5 by simpa using h) Zo)
   refine lP ?_
   refine an (decide ((g.ks.length:Int) > 0)) (by simp[kH,hk,f1,f2,f4]) aj rfl Zs Zs rfl Zl Zl
  ·refine ax 18 rfl (fun _=>?_) (fun h=>absurd (show g.kind=1 by simpa using h) Zo)
   refine Zr ?_
   refine ax 23 rfl (fun h=>?_) (fun h=>?_)
   ·have h:g.b=true:=h
    refine lP ?_
    refine gu 61 (.a (.b true)) rfl trivial (fun _=>rfl) ?_
    refine an true (by simp[kH,hk,h]) aj rfl Zs Zs rfl Zl Zl
   have f1:g.b=false:=h
   refine Zr ?_
   refine ax 26 rfl (fun _=>?_) (fun h=>absurd (show g.kind=2 by simpa using h) Zo)
   refine Zr ?_
   refine mA g.n fA Z Z Z Z Z Z Z (fun _=>rfl) (fun _=>rfl) (Zr ?_)
   refine ax 33 rfl (fun h=>?_) (fun h=>?_)
   ·have h:¬ g.n=fA:=by simpa using (show(!decide (g.n=fA))=true from h)
    refine lP ?_
    refine gu 61 (.a (.b true)) rfl trivial (fun _=>rfl) ?_
    refine an true (by simp[kH,hk,h]) aj rfl Zs Zs rfl Zl Zl
   have f2:g.n=fA:=by simpa using (show(!decide (g.n=fA))=false from h)
   refine Zr ?_
   refine ax 36 rfl (fun _=>?_) (fun h=>absurd (show g.kind=3 by simpa using h) Zo)
   refine Zr ?_
   refine ax 42 rfl (fun h=>?_) (fun h=>?_)
   ·have h:¬ g.s=bF:=by simpa using (show(!decide (g.s=bF))=true from h)
    refine lP ?_
    refine gu 61 (.a (.b true)) rfl trivial (fun _=>rfl) ?_
    refine an true (by simp[kH,hk,h]) aj rfl Zs Zs rfl Zl Zl
   have f3:g.s=bF:=by simpa using (show(!decide (g.s=bF))=false from h)
   refine Zr ?_
   refine ax 45 rfl (fun h=>absurd hk (by simpa using h)) (fun _=>?_)
   refine Zr ?_
   refine ax 55 rfl (fun _=>?_) (fun h=>absurd (show g.kind=5 by simpa using h) Zo)
   refine lP ?_
   refine an (decide ((g.ks.length:Int) > 0)) (by simp[kH,hk,f1,f2,f3]) aj rfl Zs Zs rfl Zl Zl
  ·refine ax 18 rfl (fun _=>?_) (fun h=>absurd (show g.kind=1 by simpa using h) Zo)
   refine Zr ?_
   refine ax 23 rfl (fun h=>?_) (fun h=>?_)
   ·have h:g.b=true:=h
    refine lP ?_
    refine gu 61 (.a (.b true)) rfl trivial (fun _=>rfl) ?_
    refine an true (by simp[kH,hk,h]) aj rfl Zs Zs rfl Zl Zl
   have f1:g.b=false:=h
   refine Zr ?_
   refine ax 26 rfl (fun _=>?_) (fun h=>absurd (show g.kind=2 by simpa using h) Zo)
   refine Zr ?_
   refine mA g.n fA Z Z Z Z Z Z Z (fun _=>rfl) (fun _=>rfl) (Zr ?_)
   refine ax 33 rfl (fun h=>?_) (fun h=>?_)
   ·have h:¬ g.n=fA:=by simpa using (show(!decide (g.n=fA))=true from h)
    refine lP ?_
    refine gu 61 (.a (.b true)) rfl trivial (fun _=>rfl) ?_
    refine an true (by simp[kH,hk,h]) aj rfl Zs Zs rfl Zl Zl
   have f2:g.n=fA:=by simpa using (show(!decide (g.n=fA))=false from h)
   refine Zr ?_
   refine ax 36 rfl (fun _=>?_) (fun h=>absurd (show g.kind=3 by simpa using h) Zo)
   refine Zr ?_
   refine ax 42 rfl (fun h=>?_) (fun h=>?_)
   ·have h:¬ g.s=bF:=by simpa using (show(!decide (g.s=bF))=true from h)
    refine lP ?_
    refine gu 61 (.a (.b true)) rfl trivial (fun _=>rfl) ?_
    refine an true (by simp[kH,hk,h]) aj rfl Zs Zs rfl Zl Zl
   have f3:g.s=bF:=by simpa using (show(!decide (g.s=bF))=false from h)
   refine Zr ?_
   refine ax 45 rfl (fun _=>?_) (fun h=>absurd (show g.kind=4 by simpa using h) Zo)
   refine Zr ?_
   refine ax 52 rfl (fun h=>?_) (fun h=>?_)
   ·have h:0<g.l.length:=by have:(g.l.length:Int) > 0:=ae h;omega
    refine lP ?_
    refine gu 61 (.a (.b true)) rfl trivial (fun _=>rfl) ?_
    refine an true (by simp[kH,hk,h]) aj rfl Zs Zs rfl Zl Zl
   have f4:¬ 0<g.l.length:=by have:¬ (g.l.length:Int) > 0:=ab h;omega
   refine Zr ?_
   refine ax 55 rfl (fun h=>absurd hk (by simpa using h)) (fun _=>?_)
   refine lP ?_
   refine gu 61 (.a (.b false)) rfl trivial (fun _=>rfl) ?_
   refine an false (by simp[kH,hk,f1,f2,f3,f4]) aj rfl Zs Zs rfl Zl Zl
 subst hx
 refine aG rfl (fun h=>?_) (fun h=>?_)
 ·have h:kH g=true:=h
  refine Zb ?_
  refine aw TT rfl fun β w' _ _=>?_
  rw[h]
  rfl
 have h:kH g=false:=h
 rw[h]
 simp only[Bool.not_false,cp]
 refine Zc ?_
 refine aT Z Z Z Z Z Tryz.call225 Zl (oQ σ g.n V.dg) fun v hv=>⟨.a (.b (dv g.n)),trivial,hv.symm,?_⟩
 refine Zr ?_
 refine ax 66 rfl (fun h=>?_) (fun h=>?_)
 ·have h:dv g.n=false:=by simpa using h
  refine gn ?_
  refine aw TT rfl fun β w' _ _=>?_
  rw[h]
  rfl
 have h:dv g.n=true:=by simpa using h
 rw[h]
 simp only[cp]
 obtain⟨sl,pv⟩:=oS g.s
 have jZ:=gB sl
 have hs:=V.s
 refine Zr ?_
 refine uD (y:=g.s) TT Z Z Z Z Z Z Z Z Z Z Z fun ao cap lQ cP H=>?_
 rw[pv,jZ,yi] at H
 refine cr 69 (.a (.v (.slice ao sl.length cap))) rfl trivial (fun β=>by rw[pv,jZ]) (Zr ?_)
 refine aT Z Z Z Z Z Tryz.call68 Zl (II lQ ao cap sl H (by rw[<-jZ,<-pv];exact hs)) fun v hv=>⟨.a (.v (.int .i64 (gh sl))),trivial,hv.symm,?_⟩
 refine gX ?_
 have ak1:g.s.data.toList=sl:=by rw[pv];exact jr sl
 rw[ak1]
 refine aG rfl (fun h=>?_) (fun h=>?_)
 ·have h:gh sl≥0:=ae h
  refine Zb ?_
  refine aw TT rfl fun β w' _ _=>?_
  rw[b7 Zo,dt]
  rfl
 have h:¬ gh sl≥0:=ab h
 rw[bj (show gh sl<0 by omega),cp]
 refine Zd ?_
 refine gC (fun(s:al) (_:Nat)=>s) (fun _ k=>[(1,.a (.p 0 0)),(5,.a (.v (.int .i64 k)))]) (fun _ _=>[(0,.loc 28,dN g la lc ma mc)]) (fun _ _=>[]) 1
  (fun s k=>lQ.le s/\k<=g.ks.length/\(g.ks.take k).all nu=true) (fun _ k=>g.ks.length - k) lQ 0 ⟨al.le_refl _,ay _,rfl⟩ rfl Zs Zs rfl Zl Zl fun s k ⟨m1,hk,hp⟩=>?_
 refine Za ?_
 refine aG rfl (fun h=>?_) (fun h=>?_)
 rotate_left
 ·have fQ:k=g.ks.length:=by have:=ab h;omega
  subst fQ
  rw[aI] at hp
  refine Ze ?_
  refine aw TT rfl fun β w' _ _=>?_
  rw[hp]
  rfl
 have kW:k<g.ks.length:=by have:=ae h;omega
 obtain⟨r,um,xh⟩:=V.v.get (aa (l:=g.vs) (i:=k) (by have:=V.kv;omega))
 have bU:=ia (aa kW) um
 have hkk:=V.kk _ (aP kW)
 have mi:(g.ks.take (k+1)).all nu=nu g.ks[k]:=by rw[ak kW,List.all_append,hp];simp
 have sm:g.ks[k]∈g.ks:=aP kW
 generalize g.ks[k]=key at *
 obtain⟨kl,W4⟩:=oS key
 have hkz:=gB kl
 obtain⟨Lx,Lw,pI,Ls,Lp,pE,rfl,V'⟩:=xh.open
 refine Zd ?_
 refine bk TT Z Z Z Z Z Z Z Z Z (V.M.mono (al.le_trans cP m1)) Zo bU (Zr ?_)
 refine uD (y:=key) TT Z Z Z Z Z Z Z Z Z Z Z fun Xl Kg nC cw H2=>?_
 rw[W4,hkz,yi] at H2
 refine cr 86 (.a (.v (.slice Xl kl.length Kg))) rfl trivial (fun β=>by rw[W4,hkz]) (Zr ?_)
 refine aT Z Z Z Z Z Tryz.call68 Zl (II nC Xl Kg kl H2 (by rw[<-hkz,<-W4];exact hkk)) fun v hv=>⟨.a (.v (.int .i64 (gh kl))),trivial,hv.symm,?_⟩
 refine gX ?_
 have ZJ:nu key=decide (gh kl<0):=by unfold nu;rw[W4,jr]
 refine aG rfl (fun h=>?_) (fun h=>?_)
 ·have h:gh kl≥0:=ae h
  refine Zb ?_
  refine aw TT rfl fun β w' _ _=>?_
  rw[show g.ks.all nu=false by
   rw[List.all_eq_false]
   exact⟨key,sm,by rw[ZJ,b7 Zo];decide⟩]
  rfl
 ·have h:¬ gh kl≥0:=ab h
  refine Zc ?_
  refine an (nC,k+1) ⟨al.le_trans m1 cw,kW,by dsimp only;rw[mi,ZJ,bj Zo]⟩ (by dsimp only;omega) rfl Zs Zs rfl Zl Zl
theorem m0(n:Nat): decide ((n:Int) > 0)=!decide (n=0):=by
 rw[cg]
 simp
 omega
theorem b0: ∀ B N S L M D U K:Bool,(N=true->D=true)->(S=true->U=true)->(M=true->K=true)->((!(false||false||(!false&&B)||(!false&&!N)||(!false&&!S)||(!false&&!L)||(!false&&!M))&&D&&U&&K)=(!B&&N&&S&&L&&M)):=by decide +kernel
theorem b1: ∀ B N S L M D U K:Bool,(N=true->D=true)->(S=true->U=true)->(M=true->K=true)->((!(false||false||(!true&&B)||(!false&&!N)||(!false&&!S)||(!false&&!L)||(!false&&!M))&&D&&U&&K)=(N&&S&&L&&M)):=by decide +kernel
theorem b2: ∀ B N S L M D U K:Bool,(N=true->D=true)->(S=true->U=true)->(M=true->K=true)->((!(false||false||(!false&&B)||(!true&&!N)||(!false&&!S)||(!false&&!L)||(!false&&!M))&&D&&U&&K)=(D&&!B&&S&&L&&M)):=by decide +kernel
theorem b3: ∀ B N S L M D U K:Bool,(N=true->D=true)->(S=true->U=true)->(M=true->K=true)->((!(false||false||(!false&&B)||(!false&&!N)||(!true&&!S)||(!false&&!L)||(!false&&!M))&&D&&U&&K)=(U&&!B&&N&&L&&M)):=by decide +kernel
theorem b4: ∀ B N S L M D U K:Bool,(N=true->D=true)->(S=true->U=true)->(M=true->K=true)->((!(false||false||(!false&&B)||(!false&&!N)||(!false&&!S)||(!true&&!L)||(!false&&!M))&&D&&U&&K)=(!B&&N&&S&&M)):=by decide +kernel
theorem b5: ∀ B N S L M D U K:Bool,(N=true->D=true)->(S=true->U=true)->(M=true->K=true)->((!(false||false||(!false&&B)||(!false&&!N)||(!false&&!S)||(!false&&!L)||(!true&&!M))&&D&&U&&K)=(K&&!B&&N&&S&&L)):=by decide +kernel
theorem XJ(g:aJ): (!kH g&&dv g.n&&decide (gh g.s.data.toList<0)&&g.ks.all nu)=fU g:=by
 have hN:decide (g.n=fA)=true->dv g.n=true:=fun h=>by rw[ae h];rfl
 have hS:decide (g.s=bF)=true->decide (gh g.s.data.toList<0)=true:=fun h=>by rw[ae h];rfl
 have hM:decide (g.ks.length=0)=true->g.ks.all nu=true:=fun h=>by rw[gV.1 (ae h)];rfl
 by_cases k0:g.kind=0
 ·rw[zE k0,<-b0 _ _ _ _ _ _ _ _ hN hS hM]
  unfold kH
  rw[k0,m0,m0]
  rfl
 by_cases k1:g.kind=1
 ·rw[zD k1,<-b1 g.b _ _ _ _ _ _ _ hN hS hM]
  unfold kH
  rw[k1,m0,m0]
  rfl
 by_cases k2:g.kind=2
 ·rw[zC k2,<-b2 _ _ _ _ _ _ _ _ hN hS hM]
  unfold kH
  rw[k2,m0,m0]
  rfl
 by_cases k3:g.kind=3
 ·rw[zB k3,<-b3 _ _ _ _ _ _ _ _ hN hS hM]
  unfold kH
  rw[k3,m0,m0]
  rfl
 by_cases k4:g.kind=4
 ·rw[zA k4,<-b4 _ _ _ (decide (g.l.length=0)) _ _ _ _ hN hS hM]
  unfold kH
  rw[k4,m0,m0]
  rfl
 by_cases k5:g.kind=5
 ·rw[zz k5,<-b5 _ _ _ _ _ _ _ _ hN hS hM]
  unfold kH
  rw[k5,m0,m0]
  rfl
 rw[zy k0 k1 k2 k3 k4 k5]
 have:kH g=true:=by
  unfold kH
  by_cases h:g.kind<0
  ·simp[h]
  ·have:g.kind > 5:=by omega
   simp[this]
 rw[this]
 rfl
end Go.Sy
namespace Go.Sy
open Go.Proofs
theorem eK(kd:Int)(b:Bool)(n:oh)(s:ByteArray)(i:Int): dm ⟨kd,b,n,s,i⟩=true↔(kd=0\/kd=1\/kd=2\/kd=3\/kd=9)/\(kd=1\/b=false)/\(kd=2\/n=fA)/\(kd=3\/s=iz)/\(kd=9\/i=0)/\dv n=true/\0<=i/\i<4294967296:=by
 rw[lE]
 constructor
 ·intro h
  cases h with
  | null=>exact⟨.inl rfl,.inr rfl,.inr rfl,.inr rfl,.inr rfl,rfl,by decide,by decide⟩
  | bool b=>exact⟨.inr (.inl rfl),.inl rfl,.inr rfl,.inr rfl,.inr rfl,rfl,by decide,by decide⟩
  | num n h=>exact⟨.inr (.inr (.inl rfl)),.inr rfl,.inl rfl,.inr rfl,.inr rfl,h,by decide,by decide⟩
  | str s=>exact⟨.inr (.inr (.inr (.inl rfl))),.inr rfl,.inr rfl,.inl rfl,.inr rfl,rfl,by decide,by decide⟩
  | whole i h1 h2=>exact⟨.inr (.inr (.inr (.inr rfl))),.inr rfl,.inr rfl,.inr rfl,.inl rfl,rfl,h1,by omega⟩
 ·rintro⟨hk,hb,hn,hs,hi,hd,h1,h2⟩
  rcases hk with rfl | rfl | rfl | rfl | rfl
  ·obtain rfl:=hb.resolve_left (by decide)
   obtain rfl:=hn.resolve_left (by decide)
   obtain rfl:=hs.resolve_left (by decide)
   obtain rfl:=hi.resolve_left (by decide)
   exact Rt.null
  ·obtain rfl:=hn.resolve_left (by decide)
   obtain rfl:=hs.resolve_left (by decide)
   obtain rfl:=hi.resolve_left (by decide)
   exact Rt.bool b
  ·obtain rfl:=hb.resolve_left (by decide)
   obtain rfl:=hs.resolve_left (by decide)
   obtain rfl:=hi.resolve_left (by decide)
   exact Rt.num n hd
  ·obtain rfl:=hb.resolve_left (by decide)
   obtain rfl:=hn.resolve_left (by decide)
   obtain rfl:=hi.resolve_left (by decide)
   exact Rt.str s
  ·obtain rfl:=hb.resolve_left (by decide)
   obtain rfl:=hn.resolve_left (by decide)
   obtain rfl:=hs.resolve_left (by decide)
   exact Rt.whole i h1 Zo
theorem fp{p:dz}(h:dm p=true->False): dm p=false:=by
 cases e:dm p
 ·rfl
 ·exact(h e).elim
theorem QU(σ:al)(p:dz)(hd:p.n.dg.size<=bJ): bZ Tryz.prog 192 [.agg (cc p)] σ (fun v=>v=.bool (dm p)):=by
 obtain⟨kd,b,n,s,i⟩:=p
 dsimp only at hd
 refine bW Tryz.func192 Z Z ⟨bT 0 _,trivial⟩ fun w=>?_
 refine Za ?_
 refine ax 10 rfl (fun h0=>?_) (fun h0=>?_)
 rotate_left
 ·have hk:kd=0:=by simpa using h0
  clear h0
  refine Zr ?_
  refine ax 29 rfl (fun _=>?_) (fun h=>absurd h (by simp[hk]))
  refine Zr ?_
  refine ax 34 rfl (fun hb=>?_) (fun hb=>?_)
  ·have hb:b=true:=hb
   refine gn ?_
   refine aw TT rfl fun β w' _ _=>?_
   exact aN Value.bool (fp fun h=>by obtain⟨-,q1,q2,q3,q4,-⟩:=(eK _ _ _ _ _).1 h;simp_all).symm
  have hb:b=false:=hb
  refine Zr ?_
  refine ax 37 rfl (fun _=>?_) (fun h=>absurd h (by simp[hk]))
  refine Zr ?_
  refine mA n fA Z Z Z Z Z Z Z (fun _=>rfl) (fun _=>rfl) (Zr ?_)
  refine ax 44 rfl (fun hn=>?_) (fun hn=>?_)
  ·have hn:(!decide (n=fA))=true:=hn
   refine gn ?_
   refine aw TT rfl fun β w' _ _=>?_
   exact aN Value.bool (fp fun h=>by obtain⟨-,q1,q2,q3,q4,-⟩:=(eK _ _ _ _ _).1 h;simp_all).symm
  have hn:(!decide (n=fA))=false:=hn
  refine Zr ?_
  refine ax 47 rfl (fun _=>?_) (fun h=>absurd h (by simp[hk]))
  refine Zr ?_
  refine ax 53 rfl (fun hs=>?_) (fun hs=>?_)
  ·have hs:(!decide (s=iz))=true:=hs
   refine gn ?_
   refine aw TT rfl fun β w' _ _=>?_
   exact aN Value.bool (fp fun h=>by obtain⟨-,q1,q2,q3,q4,-⟩:=(eK _ _ _ _ _).1 h;simp_all).symm
  have hs:(!decide (s=iz))=false:=hs
  refine Zr ?_
  refine ax 56 rfl (fun _=>?_) (fun h=>absurd h (by simp[hk]))
  refine gX ?_
  refine aG rfl (fun hi=>?_) (fun hi=>?_)
  ·have hi:(!decide (i=0))=true:=hi
   refine Zb ?_
   refine aw TT rfl fun β w' _ _=>?_
   exact aN Value.bool (fp fun h=>by obtain⟨-,q1,q2,q3,q4,-⟩:=(eK _ _ _ _ _).1 h;simp_all).symm
  have hi:(!decide (i=0))=false:=hi
  refine Zc ?_
  refine aT Z Z Z Z Z Tryz.call225 Zl (oQ σ n hd) fun v hv=>⟨.a (.b (dv n)),trivial,hv.symm,?_⟩
  refine Zr ?_
  refine ax 65 rfl (fun hx=>?_) (fun hx=>?_)
  rotate_left
  ·have hx:dv n=false:=hx
   refine gn ?_
   refine aw TT rfl fun β w' _ _=>?_
   exact aN Value.bool (fp fun h=>by obtain⟨-,q1,q2,q3,q4,q5,-⟩:=(eK _ _ _ _ _).1 h;simp_all).symm
  have hx:dv n=true:=hx
  refine Zr ?_
  refine ax 70 rfl (fun hy=>?_) (fun hy=>?_)
  rotate_left
  ·have hy:¬ i≥0:=ab hy
   refine gn ?_
   refine aw TT rfl fun β w' _ _=>?_
   exact aN Value.bool (fp fun h=>by obtain⟨-,-,-,-,-,-,q6,-⟩:=(eK _ _ _ _ _).1 h;exact hy q6).symm
  have hy:i≥0:=ae hy
  refine gn ?_
  refine aw TT rfl fun β w' _ _=>?_
  show Value.bool (decide (i<4294967296))=_
  refine aN Value.bool ?_
  rw[cg,aX,eK]
  exact⟨fun hz=>⟨by omega,.inr (by simpa using hb),.inr (by simpa using hn),.inr (by simpa using hs),.inr (by simpa using hi),hx,hy,hz⟩,fun h=>h.2.2.2.2.2.2.2⟩
 have h0:¬ kd=0:=by simpa using h0
 refine Zr ?_
 refine ax 14 rfl (fun h1=>?_) (fun h1=>?_)
 rotate_left
 ·have hk:kd=1:=by simpa using h1
  clear h1
  refine Zr ?_
  refine ax 29 rfl (fun h=>absurd h (by simp[hk])) (fun _=>?_)
  refine Zr ?_
  refine ax 37 rfl (fun _=>?_) (fun h=>absurd h (by simp[hk]))
  refine Zr ?_
  refine mA n fA Z Z Z Z Z Z Z (fun _=>rfl) (fun _=>rfl) (Zr ?_)
  refine ax 44 rfl (fun hn=>?_) (fun hn=>?_)
  ·have hn:(!decide (n=fA))=true:=hn
   refine gn ?_
   refine aw TT rfl fun β w' _ _=>?_
   exact aN Value.bool (fp fun h=>by obtain⟨-,q1,q2,q3,q4,-⟩:=(eK _ _ _ _ _).1 h;simp_all).symm
  have hn:(!decide (n=fA))=false:=hn
  refine Zr ?_
  refine ax 47 rfl (fun _=>?_) (fun h=>absurd h (by simp[hk]))
  refine Zr ?_
  refine ax 53 rfl (fun hs=>?_) (fun hs=>?_)
  ·have hs:(!decide (s=iz))=true:=hs
   refine gn ?_
   refine aw TT rfl fun β w' _ _=>?_
   exact aN Value.bool (fp fun h=>by obtain⟨-,q1,q2,q3,q4,-⟩:=(eK _ _ _ _ _).1 h;simp_all).symm
  have hs:(!decide (s=iz))=false:=hs
  refine Zr ?_
  refine ax 56 rfl (fun _=>?_) (fun h=>absurd h (by simp[hk]))
  refine gX ?_
  refine aG rfl (fun hi=>?_) (fun hi=>?_)
  ·have hi:(!decide (i=0))=true:=hi
   refine Zb ?_
   refine aw TT rfl fun β w' _ _=>?_
   exact aN Value.bool (fp fun h=>by obtain⟨-,q1,q2,q3,q4,-⟩:=(eK _ _ _ _ _).1 h;simp_all).symm
  have hi:(!decide (i=0))=false:=hi
  refine Zc ?_
  refine aT Z Z Z Z Z Tryz.call225 Zl (oQ σ n hd) fun v hv=>⟨.a (.b (dv n)),trivial,hv.symm,?_⟩
  refine Zr ?_
  refine ax 65 rfl (fun hx=>?_) (fun hx=>?_)
  rotate_left
  ·have hx:dv n=false:=hx
   refine gn ?_
   refine aw TT rfl fun β w' _ _=>?_
   exact aN Value.bool (fp fun h=>by obtain⟨-,q1,q2,q3,q4,q5,-⟩:=(eK _ _ _ _ _).1 h;simp_all).symm
  have hx:dv n=true:=hx
  refine Zr ?_
  refine ax 70 rfl (fun hy=>?_) (fun hy=>?_)
  rotate_left
  ·have hy:¬ i≥0:=ab hy
   refine gn ?_
   refine aw TT rfl fun β w' _ _=>?_
   exact aN Value.bool (fp fun h=>by obtain⟨-,-,-,-,-,-,q6,-⟩:=(eK _ _ _ _ _).1 h;exact hy q6).symm
  have hy:i≥0:=ae hy
  refine gn ?_
  refine aw TT rfl fun β w' _ _=>?_
  show Value.bool (decide (i<4294967296))=_
  refine aN Value.bool ?_
  rw[cg,aX,eK]
  exact⟨fun hz=>⟨by omega,.inl hk,.inr (by simpa using hn),.inr (by simpa using hs),.inr (by simpa using hi),hx,hy,hz⟩,fun h=>h.2.2.2.2.2.2.2⟩
 have h1:¬ kd=1:=by simpa using h1
 refine Zr ?_
 refine ax 18 rfl (fun h2=>?_) (fun h2=>?_)
 rotate_left
 ·have hk:kd=2:=by simpa using h2
  clear h2
  refine Zr ?_
  refine ax 29 rfl (fun _=>?_) (fun h=>absurd h (by simp[hk]))
  refine Zr ?_
  refine ax 34 rfl (fun hb=>?_) (fun hb=>?_)
  ·have hb:b=true:=hb
   refine gn ?_
   refine aw TT rfl fun β w' _ _=>?_
   exact aN Value.bool (fp fun h=>by obtain⟨-,q1,q2,q3,q4,-⟩:=(eK _ _ _ _ _).1 h;simp_all).symm
  have hb:b=false:=hb
  refine Zr ?_
  refine ax 37 rfl (fun h=>absurd h (by simp[hk])) (fun _=>?_)
  refine Zr ?_
  refine ax 47 rfl (fun _=>?_) (fun h=>absurd h (by simp[hk]))
  refine Zr ?_
  refine ax 53 rfl (fun hs=>?_) (fun hs=>?_)
  ·have hs:(!decide (s=iz))=true:=hs
   refine gn ?_
   refine aw TT rfl fun β w' _ _=>?_
   exact aN Value.bool (fp fun h=>by obtain⟨-,q1,q2,q3,q4,-⟩:=(eK _ _ _ _ _).1 h;simp_all).symm
  have hs:(!decide (s=iz))=false:=hs
  refine Zr ?_
  refine ax 56 rfl (fun _=>?_) (fun h=>absurd h (by simp[hk]))
  refine gX ?_
  refine aG rfl (fun hi=>?_) (fun hi=>?_)
  ·have hi:(!decide (i=0))=true:=hi
   refine Zb ?_
   refine aw TT rfl fun β w' _ _=>?_
   exact aN Value.bool (fp fun h=>by obtain⟨-,q1,q2,q3,q4,-⟩:=(eK _ _ _ _ _).1 h;simp_all).symm
  have hi:(!decide (i=0))=false:=hi
  refine Zc ?_
  refine aT Z Z Z Z Z Tryz.call225 Zl (oQ σ n hd) fun v hv=>⟨.a (.b (dv n)),trivial,hv.symm,?_⟩
  refine Zr ?_
  refine ax 65 rfl (fun hx=>?_) (fun hx=>?_)
  rotate_left
  ·have hx:dv n=false:=hx
   refine gn ?_
   refine aw TT rfl fun β w' _ _=>?_
   exact aN Value.bool (fp fun h=>by obtain⟨-,q1,q2,q3,q4,q5,-⟩:=(eK _ _ _ _ _).1 h;simp_all).symm
  have hx:dv n=true:=hx
  refine Zr ?_
  refine ax 70 rfl (fun hy=>?_) (fun hy=>?_)
  rotate_left
  ·have hy:¬ i≥0:=ab hy
   refine gn ?_
   refine aw TT rfl fun β w' _ _=>?_
   exact aN Value.bool (fp fun h=>by obtain⟨-,-,-,-,-,-,q6,-⟩:=(eK _ _ _ _ _).1 h;exact hy q6).symm
  have hy:i≥0:=ae hy
  refine gn ?_
  refine aw TT rfl fun β w' _ _=>?_
  show Value.bool (decide (i<4294967296))=_
  refine aN Value.bool ?_
  rw[cg,aX,eK]
  exact⟨fun hz=>⟨by omega,.inr (by simpa using hb),.inl hk,.inr (by simpa using hs),.inr (by simpa using hi),hx,hy,hz⟩,fun h=>h.2.2.2.2.2.2.2⟩
 have h2:¬ kd=2:=by simpa using h2
 refine Zr ?_
 refine ax 22 rfl (fun h3=>?_) (fun h3=>?_)
 rotate_left
 ·have hk:kd=3:=by simpa using h3
  clear h3
  refine Zr ?_
  refine ax 29 rfl (fun _=>?_) (fun h=>absurd h (by simp[hk]))
  refine Zr ?_
  refine ax 34 rfl (fun hb=>?_) (fun hb=>?_)
  ·have hb:b=true:=hb
   refine gn ?_
   refine aw TT rfl fun β w' _ _=>?_
   exact aN Value.bool (fp fun h=>by obtain⟨-,q1,q2,q3,q4,-⟩:=(eK _ _ _ _ _).1 h;simp_all).symm
  have hb:b=false:=hb
  refine Zr ?_
  refine ax 37 rfl (fun _=>?_) (fun h=>absurd h (by simp[hk]))
  refine Zr ?_
  refine mA n fA Z Z Z Z Z Z Z (fun _=>rfl) (fun _=>rfl) (Zr ?_)
  refine ax 44 rfl (fun hn=>?_) (fun hn=>?_)
  ·have hn:(!decide (n=fA))=true:=hn
   refine gn ?_
   refine aw TT rfl fun β w' _ _=>?_
   exact aN Value.bool (fp fun h=>by obtain⟨-,q1,q2,q3,q4,-⟩:=(eK _ _ _ _ _).1 h;simp_all).symm
  have hn:(!decide (n=fA))=false:=hn
  refine Zr ?_
  refine ax 47 rfl (fun h=>absurd h (by simp[hk])) (fun _=>?_)
  refine Zr ?_
  refine ax 56 rfl (fun _=>?_) (fun h=>absurd h (by simp[hk]))
  refine gX ?_
  refine aG rfl (fun hi=>?_) (fun hi=>?_)
  ·have hi:(!decide (i=0))=true:=hi
   refine Zb ?_
   refine aw TT rfl fun β w' _ _=>?_
   exact aN Value.bool (fp fun h=>by obtain⟨-,q1,q2,q3,q4,-⟩:=(eK _ _ _ _ _).1 h;simp_all).symm
  have hi:(!decide (i=0))=false:=hi
  refine Zc ?_
  refine aT Z Z Z Z Z Tryz.call225 Zl (oQ σ n hd) fun v hv=>⟨.a (.b (dv n)),trivial,hv.symm,?_⟩
  refine Zr ?_
  refine ax 65 rfl (fun hx=>?_) (fun hx=>?_)
  rotate_left
  ·have hx:dv n=false:=hx
   refine gn ?_
   refine aw TT rfl fun β w' _ _=>?_
   exact aN Value.bool (fp fun h=>by obtain⟨-,q1,q2,q3,q4,q5,-⟩:=(eK _ _ _ _ _).1 h;simp_all).symm
  have hx:dv n=true:=hx
  refine Zr ?_
  refine ax 70 rfl (fun hy=>?_) (fun hy=>?_)
  rotate_left
  ·have hy:¬ i≥0:=ab hy
   refine gn ?_
   refine aw TT rfl fun β w' _ _=>?_
   exact aN Value.bool (fp fun h=>by obtain⟨-,-,-,-,-,-,q6,-⟩:=(eK _ _ _ _ _).1 h;exact hy q6).symm
  have hy:i≥0:=ae hy
  refine gn ?_
  refine aw TT rfl fun β w' _ _=>?_
  show Value.bool (decide (i<4294967296))=_
  refine aN Value.bool ?_
  rw[cg,aX,eK]
  exact⟨fun hz=>⟨by omega,.inr (by simpa using hb),.inr (by simpa using hn),.inl hk,.inr (by simpa using hi),hx,hy,hz⟩,fun h=>h.2.2.2.2.2.2.2⟩
 have h3:¬ kd=3:=by simpa using h3
 refine Zr ?_
 refine ax 26 rfl (fun h9=>?_) (fun h9=>?_)
 rotate_left
 ·have hk:kd=9:=by simpa using h9
  clear h9
  refine Zr ?_
  refine ax 29 rfl (fun _=>?_) (fun h=>absurd h (by simp[hk]))
  refine Zr ?_
  refine ax 34 rfl (fun hb=>?_) (fun hb=>?_)
  ·have hb:b=true:=hb
   refine gn ?_
   refine aw TT rfl fun β w' _ _=>?_
   exact aN Value.bool (fp fun h=>by obtain⟨-,q1,q2,q3,q4,-⟩:=(eK _ _ _ _ _).1 h;simp_all).symm
  have hb:b=false:=hb
  refine Zr ?_
  refine ax 37 rfl (fun _=>?_) (fun h=>absurd h (by simp[hk]))
  refine Zr ?_
  refine mA n fA Z Z Z Z Z Z Z (fun _=>rfl) (fun _=>rfl) (Zr ?_)
  refine ax 44 rfl (fun hn=>?_) (fun hn=>?_)
  ·have hn:(!decide (n=fA))=true:=hn
   refine gn ?_
   refine aw TT rfl fun β w' _ _=>?_
   exact aN Value.bool (fp fun h=>by obtain⟨-,q1,q2,q3,q4,-⟩:=(eK _ _ _ _ _).1 h;simp_all).symm
  have hn:(!decide (n=fA))=false:=hn
  refine Zr ?_
  refine ax 47 rfl (fun _=>?_) (fun h=>absurd h (by simp[hk]))
  refine Zr ?_
  refine ax 53 rfl (fun hs=>?_) (fun hs=>?_)
  ·have hs:(!decide (s=iz))=true:=hs
   refine gn ?_
   refine aw TT rfl fun β w' _ _=>?_
   exact aN Value.bool (fp fun h=>by obtain⟨-,q1,q2,q3,q4,-⟩:=(eK _ _ _ _ _).1 h;simp_all).symm
  have hs:(!decide (s=iz))=false:=hs
  refine Zr ?_
  refine ax 56 rfl (fun h=>absurd h (by simp[hk])) (fun _=>?_)
  refine pC ?_
  refine Za ?_
  refine aT Z Z Z Z Z Tryz.call225 Zl (oQ σ n hd) fun v hv=>⟨.a (.b (dv n)),trivial,hv.symm,?_⟩
  refine Zr ?_
  refine ax 65 rfl (fun hx=>?_) (fun hx=>?_)
  rotate_left
  ·have hx:dv n=false:=hx
   refine gn ?_
   refine aw TT rfl fun β w' _ _=>?_
   exact aN Value.bool (fp fun h=>by obtain⟨-,q1,q2,q3,q4,q5,-⟩:=(eK _ _ _ _ _).1 h;simp_all).symm
  have hx:dv n=true:=hx
  refine Zr ?_
  refine ax 70 rfl (fun hy=>?_) (fun hy=>?_)
  rotate_left
  ·have hy:¬ i≥0:=ab hy
   refine gn ?_
   refine aw TT rfl fun β w' _ _=>?_
   exact aN Value.bool (fp fun h=>by obtain⟨-,-,-,-,-,-,q6,-⟩:=(eK _ _ _ _ _).1 h;exact hy q6).symm
  have hy:i≥0:=ae hy
  refine gn ?_
  refine aw TT rfl fun β w' _ _=>?_
  show Value.bool (decide (i<4294967296))=_
  refine aN Value.bool ?_
  rw[cg,aX,eK]
  exact⟨fun hz=>⟨by omega,.inr (by simpa using hb),.inr (by simpa using hn),.inr (by simpa using hs),.inl hk,hx,hy,hz⟩,fun h=>h.2.2.2.2.2.2.2⟩
 have h9:¬ kd=9:=by simpa using h9
 refine gn ?_
 refine aw TT rfl fun β w' _ _=>?_
 exact aN Value.bool (fp fun h=>by have:=((eK _ _ _ _ _).1 h).1;omega).symm
end Go.Sy
namespace Go.Sy
open Go.Proofs
structure ReS where
 k:Nat
 oo:Option Addr
 oc:Nat
theorem vP(σ:al)(l:List dz)(hl:l.length<=140737488355328)(hb:∀ p∈l,p.n.dg.size<=bJ/\p.s.size<=1000000)(lo:Option Addr)(lc:Nat)(H:bu σ lo l.length lc 7 (m6 l)):
  fa Tryz.prog 133 [.a (.v (.slice lo l.length lc))] σ (fun v bD=>∃ bo bc,v=.tuple #[.slice bo (qO l).1.length bc,.int .i64 (qO l).2]/\bu bD bo (qO l).1.length bc 1 (gM (qO l).1)):=by
 refine ek Tryz.func133 Z Z Zl fun w=>?_
 refine Za ?_
 refine aG rfl (fun h=>?_) (fun h=>?_)
 ·have h:=ae (show decide ((16:Int)<l.length)=true from h)
  have e:qO l=([],4):=by unfold qO;rw[au Zo]
  rw[e]
  refine Zb ?_
  refine aw TT rfl fun β w' _ _=>?_
  exact⟨none,0,rfl,bu.nil _ none 0 1⟩
 have h16:l.length<=16:=by have:=ab (show decide ((16:Int)<l.length)=false from h);omega
 refine Zd ?_
 refine dV 5 1 ?_
 refine gC (fun(s:al) (_:ReS)=>s) (fun _ t=>[(0,.a (.v (.slice lo l.length lc))),(4,.a (.v (.slice t.oo (Ey l t.k).length t.oc))),(5,.a (.v (.int .i64 (t.k:Nat))))]) (fun _ _=>[]) (fun _ t=>[rI t.oo t.oc (Ey l t.k)]) 0
  (fun s t=>σ.le s/\t.k<=l.length/\(Ey l t.k).length<=t.oc/\∀ p∈l.take t.k,Rt p) (fun _ t=>l.length - t.k) σ ⟨0,none,0⟩ ⟨al.le_refl _,ay _,aq _,fun _ h=>(by cases h)⟩ rfl Zs Zs rfl Zl Zl fun s ⟨k,oo,oc⟩ ⟨hle,hk,j6,hr⟩=>?_
 dsimp only at hk j6 hr ⊢
 have H:=H.mono hle
 refine Za ?_
 refine aG rfl (fun h=>?_) (fun h=>?_)
 rotate_left
 ·have fQ:k=l.length:=by have:=ab h;omega
  rw[fQ,aI] at hr
  have e:qO l=(Ey l k,0):=by
   unfold qO Ey
   rw[ai Zo,au (TH.2 hr),fQ,aI]
  rw[e]
  refine Ze ?_
  refine dD 0 Z Z fun s1 cP hS=>?_
  refine aw TT rfl fun β w' _ _=>?_
  exact⟨oo,oc,rfl,rW hS j6⟩
 have cz:k<l.length:=by have:=ae h;omega
 have hx:=aa cz
 have sm:=aP cz
 have bU:=wP hx
 have m1:=J6 hx
 have mi:l.take (k+1)=l.take k++[l[k]]:=ak cz
 have Ew:(Ey l k).length<=16*2000060:=by
  have h1:=IJ (l:=l.take k) fun p hp=>⟨hr p hp,(hb p (dr hp)).2⟩
  have h2:(l.take k).length<=16:=by rw[aE];omega
  exact ep h1 (cn _ h2)
 obtain⟨Ue,YO⟩:=hb l[k] sm
 generalize l[k]=p at *
 refine Zd ?_
 refine bk TT Z Z Z Z Z Z Z Z Z H Zo bU (Zr ?_)
 refine Za ?_
 refine aT Z Z Z Z Z Tryz.call192 Zl (QU s p Ue) fun v hv=>⟨.a (.b (dm p)),trivial,hv.symm,?_⟩
 refine gX ?_
 refine aG rfl (fun hq=>?_) (fun hq=>?_)
 ·have hq:dm p=false:=by simpa using hq
  have e:qO l=([],1):=by
   unfold qO
   rw[ai Zo,ai]
   intro ha
   have:=dc.1 ha p sm
   rw[hq] at this
   cases this
  rw[e]
  refine Zb ?_
  refine aw TT rfl fun β w' _ _=>?_
  exact⟨none,0,rfl,bu.nil _ none 0 1⟩
 have hq:dm p=true:=by simpa using hq
 have WU:=(lE p).1 hq
 have px:=Gg WU
 refine Zc ?_
 refine bk TT Z Z Z Z Z Z Z Z Z H Zo bU (Zr ?_)
 refine Za ?_
 refine bN Z Z Z Z Z Tryz.call193 ⟨bT 0 p,trivial⟩ (ab3 s p WU YO) fun v s1 cP ⟨ao,cap,hv,HP⟩=>⟨.a (.v (.slice ao (iF p).length cap)),trivial,hv.symm,?_⟩
 refine Zr ?_
 refine dC TT 0 Z Z Z Z Z Z Z HP Z Z Z Z Z Z Z Z Z (fun r hr=>(qy _ r hr).2.2) Zo (by show((Ey l k).length+(iF p).length)*1<=_;omega) fun om nE lS=>aM TT rfl ?_
 refine Zc ?_
 have lJ:(Ey l (k+1)).length=(Ey l k).length+(iF p).length:=by rw[m1,af]
 refine an (s1,(⟨k+1,om,nE⟩:ReS)) ⟨al.le_trans hle cP,cz,by dsimp only;rw[lJ];exact lS,fun q zk=>?_⟩ (by dsimp only;omega) rfl ?_ Zs ?_ Zl Zl
 ·dsimp only at zk
  rw[mi] at zk
  rcases bz.1 zk with zk | zk
  ·exact hr q zk
  ·rw[aU] at zk
   subst zk
   exact WU
 ·dsimp only
  rw[lJ]
  (repeat first | exact trivial | refine⟨rfl,?_⟩)
 ·show [_]=[_]
  dsimp only
  unfold rI
  rw[lJ,m1,kh,yB (iF p)]
end Go.Sy
namespace Go.Sy
structure He {α:Type} (lt:α->α->Bool):Prop where
 Y9:∀ x y,lt x y=true->lt y x=false
 tr:∀ x y z,lt y x=false->lt z y=false->lt z x=false
section
variable {α:Type} {lt:α->α->Bool}
def eqv (lt:α->α->Bool) (x y:α):Bool:=!lt x y&&!lt y x
def BB (lt:α->α->Bool) (l:List α):Prop:=l.Pairwise fun x y=>lt y x=false
structure gD (lt:α->α->Bool) (s l:List α):Prop where
 Oj:BB lt s
 cls:∀ x,s.filter (eqv lt x)=l.filter (eqv lt x)
theorem He.irr(h:He lt)(x:α): lt x x=false:=by
 cases e:lt x x with
 | false=>rfl
 | true=>rw[h.Y9 x x e] at e;cases e
theorem He.self(h:He lt)(x:α): eqv lt x x=true:=by unfold eqv;rw[h.irr x];rfl
theorem He.WJ(h:He lt){x y z:α}(h1:lt x y=true)(h2:lt z y=false): lt x z=true:=by
 cases e:lt x z with
 | true=>rfl
 | false =>
  have:=h.tr y z x h2 e
  rw[h1] at this
  cases this
theorem He.RV(h:He lt){x y z:α}(h1:lt y x=false)(h2:lt y z=true): lt x z=true:=by
 cases e:lt x z with
 | true=>rfl
 | false =>
  have:=h.tr z x y e h1
  rw[h2] at this
  cases this
theorem gD.mem(h:He lt){s l:List α}(hs:gD lt s l){x:α}: x∈s↔x∈l:=by
 constructor
 ·intro hx
  have:x∈s.filter (eqv lt x):=jw.2 ⟨hx,h.self x⟩
  rw[hs.cls] at this
  exact(jw.1 this).1
 ·intro hx
  have:x∈l.filter (eqv lt x):=jw.2 ⟨hx,h.self x⟩
  rw[<-hs.cls] at this
  exact(jw.1 this).1
theorem gD.refl{l:List α}(hl:BB lt l): gD lt l l:=⟨hl,fun _=>rfl⟩
theorem vI{x y:α}: eqv lt x y=true↔lt x y=false/\lt y x=false:=by simp[eqv]
theorem EJ(h:He lt): ∀ {s t:List α},BB lt s->BB lt t->(∀ x,s.filter (eqv lt x)=t.filter (eqv lt x))->s=t
 | [],[],_,_,_=>rfl
 | [],y::t,_,_,hc=>by
  have:=hc y
  rw[nJ,dS,au (h.self y)] at this
  cases this
 | x::s,[],_,_,hc=>by
  have:=hc x
  rw[nJ,dS,au (h.self x)] at this
  cases this
 | x::s,y::t,hs,ht,hc=>by
  obtain⟨m1,mR⟩:=List.pairwise_cons.1 hs
  obtain⟨ht1,ht2⟩:=List.pairwise_cons.1 ht
  have sm:∀ {u v:List α} (hc:∀ x,u.filter (eqv lt x)=v.filter (eqv lt x)) {z:α},z∈u->z∈v:=fun hc z hz=>by
   have:z∈List.filter (eqv lt z) _:=jw.2 ⟨hz,h.self z⟩
   rw[hc] at this
   exact(jw.1 this).1
  have hyx:lt y x=false:=by
   rcases bM.1 (sm (fun z=>(hc z).symm) (a8 (a:=y) (l:=t))) with rfl | hy
   ·exact h.irr _
   ·exact m1 y hy
  have AN:lt x y=false:=by
   rcases bM.1 (sm hc (a8 (a:=x) (l:=s))) with rfl | hx
   ·exact h.irr _
   ·exact ht1 x hx
  have he:=hc x
  rw[dS,dS,au (h.self x),au (vI.2 ⟨AN,hyx⟩)] at he
  injection he with he _
  subst he
  rw[EJ h mR ht2 fun z=>?_]
  have:=hc z
  rw[dS,dS] at this
  split at this
  ·injection this
  ·exact this
theorem gD.uniq(h:He lt){s t l:List α}(hs:gD lt s l)(ht:gD lt t l): s=t:=EJ h hs.Oj ht.Oj fun x=>by rw[hs.cls,ht.cls]
theorem gD.ins(h:He lt){P L:List α}(hs:gD lt P L){x:α}{k:Nat}(h1:∀ y∈P.drop k,lt x y=true)(h2:∀ y∈P.take k,lt x y=false): gD lt (P.take k++x::P.drop k) (L++[x]):=by
 have hP:=hs.Oj
 unfold BB at hP
 rw[<-cK k P,iW] at hP
 obtain⟨p1,p2,p3⟩:=hP
 refine⟨?_,fun z=>?_⟩
 ·unfold BB
  rw[iW]
  refine⟨p1,List.pairwise_cons.2 ⟨fun y hy=>h.Y9 _ _ (h1 y hy),p2⟩,fun a ha b hb=>?_⟩
  rcases bM.1 hb with rfl | hb
  ·exact h2 a ha
  ·exact p3 a ha b hb
 ·rw[eu,eu,<-hs.cls z,dS]
  conv=>rhs;rw[<-cK k P,eu]
  rw[av]
  congr 1
  split
  ·rename_i hz
   have:(P.drop k).filter (eqv lt z)=[]:=by
    rw[List.filter_eq_nil_iff]
    intro y hy hzy
    obtain⟨e1,e2⟩:=vI.1 hz
    obtain⟨e3,e4⟩:=vI.1 hzy
    have h3:=h1 y hy
    have h4:=h.RV e2 h3
    rw[e3] at h4
    cases h4
   rw[this,dS,au hz,nJ,cF]
  ·rename_i hz
   rw[dS,ai hz,nJ,aL]
theorem QD{P:List α}(h:He lt)(hP:BB lt P){k:Nat}{x y:α}(hy:P[k]?=some y)(AN:lt x y=false): ∀ z∈P.take (k+1),lt x z=false:=by
 intro z hz
 obtain⟨i,hi,rfl⟩:=gg.1 hz
 rw[aE] at hi
 rw[List.getElem_take]
 obtain⟨hk,rfl⟩:=ah.1 hy
 by_cases e:i=k
 ·subst e;exact AN
 ·have:=dE.1 hP i k Zo hk Zo
  exact h.tr _ _ _ this AN
theorem gD.sym(h:He lt){A1 A2 B1 B2 S1 S2:List α}(hA:BB lt (A1++A2))(hB:BB lt (B1++B2))(h12:∀ a∈A1,∀ b∈B2,lt b a=false)(h21:∀ a∈A2,∀ b∈B1,lt b a=true)(s1:gD lt S1 (A1++B1))(s2:gD lt S2 (A2++B2)): gD lt (S1++S2) (A1++A2++(B1++B2)):=by
 refine⟨?_,fun z=>?_⟩
 ·unfold BB at hA hB ⊢
  rw[iW] at hA hB ⊢
  refine⟨s1.Oj,s2.Oj,fun x hx y hy=>?_⟩
  rw[s1.mem h,bz] at hx
  rw[s2.mem h,bz] at hy
  rcases hx with hx | hx<;>rcases hy with hy | hy
  ·exact hA.2.2 x hx y hy
  ·exact h12 x hx y hy
  ·exact h.Y9 _ _ (h21 y hy x hx)
  ·exact hB.2.2 x hx y hy
 ·rw[eu,s1.cls,s2.cls]
  simp only[eu,av]
  congr 1
  rw[<-av,<-av]
  congr 1
  by_cases h1:A2.filter (eqv lt z)=[]
  ·rw[h1,aL,cF]
  by_cases h2:B1.filter (eqv lt z)=[]
  ·rw[h2,aL,cF]
  exfalso
  obtain⟨a,ha⟩:=List.exists_mem_of_ne_nil _ h1
  obtain⟨b,hb⟩:=List.exists_mem_of_ne_nil _ h2
  obtain⟨ha,ea⟩:=jw.1 ha
  obtain⟨hb,eb⟩:=jw.1 hb
  obtain⟨e1,e2⟩:=vI.1 ea
  obtain⟨e3,e4⟩:=vI.1 eb
  have h5:=h.tr a z b e1 e4
  rw[h21 a ha b hb] at h5
  cases h5
theorem gD.two{s t u v w:List α}(h1:gD lt s u)(h2:gD lt t v)(h3:gD lt w (s++t)): gD lt w (u++v):=⟨h3.Oj,fun x=>by rw[h3.cls,eu,eu,h1.cls,h2.cls]⟩
end
end Go.Sy
namespace Go.Sy
open Go.Proofs
theorem xg(σ:al)(a b:List UInt8)(ao:Option Addr)(ac:Nat)(HA:bu σ ao a.length ac 1 (gM a))(bo:Option Addr)(bc:Nat)(HB:bu σ bo b.length bc 1 (gM b)):
  bZ Tryz.prog 122 [.a (.v (.slice ao a.length ac)),.a (.v (.slice bo b.length bc))] σ (fun v=>v=.int .i64 (Lib.compareBytes a b)):=by
 refine bW Tryz.func122 Z Z Zl fun w=>?_
 refine Za ?_
 refine I6 (f:=185) (fn:=Tryz.f185) Z Z Z Z Z Tryz.func185 Zk Zk Zk Zk HA HB (Zr ?_)
 refine Zb ?_
 refine aw TT rfl fun β w' _ _=>?_
 rfl
theorem vN: ∀ a b:List UInt8,Lib.compareBytes b a = - Lib.compareBytes a b
 | [],[]=>rfl
 | [],_::_=>rfl
 | _::_,[]=>rfl
 | x::a,y::b=>by
  unfold Lib.compareBytes
  have ih:=vN a b
  simp only[jN]
  split<;>split<;>first | omega | (split<;>omega) | exact ih
theorem Tt: ∀ x y z:List UInt8,0<=Lib.compareBytes y x->0<=Lib.compareBytes z y->0<=Lib.compareBytes z x
 | [],_,[],_,_=>by unfold Lib.compareBytes;omega
 | [],_,_::_,_,_=>by unfold Lib.compareBytes;omega
 | _::_,[],_,h,_=>by unfold Lib.compareBytes at h;omega
 | _::_,_::_,[],_,h=>by unfold Lib.compareBytes at h;omega
 | x::a,y::b,z::c,h1,h2=>by
  have ih:=Tt a b c
  unfold Lib.compareBytes at h1 h2 ⊢
  simp only[jN] at h1 h2 ⊢
  split at h1
  ·omega
  split at h2
  ·omega
  split
  ·omega
  split
  ·omega
  rw[ai Zo] at h1 h2
  exact ih h1 h2
structure Vd where
 zo:Option Addr
 zc:Nat
 z:List UInt8
 it:cq
def dJ (v:Vd):List AT:=.v (.slice v.zo v.z.length v.zc)::cm v.it
theorem df(n:Nat)(x:Vd): ∀ c∈dJ x,c.lt n:=by simp[dJ,cm,AT.lt]
def qV (σ:al) (v:Vd):Prop:=bu σ v.zo v.z.length v.zc 1 (gM v.z)
def fX (a b:Vd):Bool:=decide (Lib.compareBytes a.z b.z<0)
theorem mI: He fX:=by
 refine⟨fun x y h=>?_,fun x y z h1 h2=>?_⟩
 ·have h:=ae h
  unfold fX
  rw[vN,eD]
  omega
 ·have h1:=ab h1
  have h2:=ab h2
  unfold fX
  rw[eD]
  have:=Tt x.z y.z z.z Zo Zo
  omega
def BK (l:List Vd):List Value:=(l.map dJ).flatten.map AT.val
def lZ (ao:Option Addr) (n cap:Nat) (l:List Vd):AE:=⟨ao,n,cap,220,6,BK l⟩
theorem ql(x:Vd)(l:List Vd): BK (x::l)=(dJ x).map AT.val++BK l:=by simp[BK]
theorem iJ: ∀ {l:List Vd} {i:Nat} {x:Vd},l[i]?=some x->∀(j:Nat) c,(dJ x)[j]?=some c->(BK l)[i*6+j]?=some c.val
 | y::l,0,x,h,j,c,hc=>by
  simp only[bn,bf] at h
  subst h
  have hj:j<6:=by have:=(ah.1 hc).1;simpa[dJ,cm] using this
  rw[ql,Nat.zero_mul,cG,aV (by simpa[dJ,cm] using hj),aO,hc]
  rfl
 | y::l,i+1,x,h,j,c,hc=>by
  rw[ql,aW (by simp[dJ,cm];omega)]
  have:(i+1)*6+j - (List.map AT.val (dJ y)).length=i*6+j:=by simp[dJ,cm];omega
  rw[this]
  exact iJ (by simpa using h) j c hc
theorem nK: ∀ {l:List Vd} {i:Nat} (x:Vd),i<l.length->(BK l).take (i*6)++(dJ x).map AT.val++(BK l).drop (i*6+(dJ x).length)=BK (l.set i x)
 | y::l,0,x,h=>by
  rw[hX,ql,ql,Nat.zero_mul,cG,fv,cF]
  congr 1
 | y::l,i+1,x,h=>by
  have ih:=nK (l:=l) (i:=i) x (by simpa using h)
  rw[nf,ql,ql,<-ih]
  have e1:(i+1)*6=(List.map AT.val (dJ y)).length+i*6:=by simp[dJ,cm];omega
  rw[e1,j7,List.take_length_add_append,List.drop_length_add_append]
  simp only[av]
theorem Ib{α:Type}(U V:List α)(y x:α): ((U++y::x::V).set (U.length+1) y).set U.length x=U++x::y::V:=by
 rw[dY _ _ Zo,mP,nf,hX,dY _ _ (aq _),fM,hX]
theorem tH{α:Type}(U V:List α)(y:α): (U++y::V)[U.length]?=some y:=by
 rw[aW (aq _),fM]
 rfl
theorem Dg{α:Type}(U V:List α)(y x:α): (U++y::x::V)[U.length+1]?=some x:=by
 rw[aW Zo,mP]
 rfl
theorem A7(σ:al)(a b:Vd)(ha:qV σ a)(hb:qV σ b): bZ Tryz.prog 124 [.agg (dJ a),.agg (dJ b)] σ (fun v=>v=.int .i64 (Lib.compareBytes a.z b.z)):=by
 refine bW Tryz.func124 Z Z ⟨df 0 a,df 0 b,trivial⟩ fun w=>?_
 refine Za ?_
 refine aT Z Z Z Z Z Tryz.call122 Zl (xg σ a.z b.z _ _ ha _ _ hb) fun v hv=>⟨.a (.v (.int .i64 (Lib.compareBytes a.z b.z))),trivial,hv.symm,?_⟩
 refine gn ?_
 refine aw TT rfl fun β w' _ _=>?_
 rfl
end Go.Sy
namespace Go.Sy
theorem Xi: ∀ {a b:List UInt8},Lib.compareBytes a b=0->a=b
 | [],[],_=>rfl
 | [],_::_,h=>by unfold Lib.compareBytes at h;omega
 | _::_,[],h=>by unfold Lib.compareBytes at h;omega
 | x::a,y::b,h=>by
  unfold Lib.compareBytes at h
  simp only[jN] at h
  split at h
  ·omega
  split at h
  ·omega
  have e:x=y:=iM.1 Zo
  rw[e,Xi h]
theorem NS: ∀ a:List UInt8,Lib.compareBytes a a=0
 | []=>rfl
 | x::a=>by
  unfold Lib.compareBytes
  simp only[jN]
  rw[ai Zo,ai Zo]
  exact NS a
section
variable {α:Type} (κ:α->List UInt8)
def O0 (x y:α):Bool:=decide (Lib.compareBytes (κ x) (κ y)<0)
theorem ab8: He (O0 κ):=by
 refine⟨fun x y h=>?_,fun x y z h1 h2=>?_⟩
 ·have h:=ae h
  unfold O0
  rw[vN,eD]
  omega
 ·have h1:=ab h1
  have h2:=ab h2
  unfold O0
  rw[eD]
  have:=Tt (κ x) (κ y) (κ z) Zo Zo
  omega
theorem ai6{x y:α}: eqv (O0 κ) x y=true↔κ x=κ y:=by
 rw[vI]
 unfold O0
 rw[eD,eD]
 constructor
 ·intro ⟨h1,h2⟩
  refine Xi ?_
  rw[vN] at h2
  omega
 ·intro h
  rw[h,NS]
  omega
def P8 (p q:List UInt8) (z:List UInt8):Bool:=!z.isEmpty&&(decide (0<=Lib.compareBytes z p)&&decide (Lib.compareBytes z q<0))
theorem vE{p q z:List UInt8}: P8 p q z=true↔z≠[]/\0<=Lib.compareBytes z p/\Lib.compareBytes z q<0:=by
 unfold P8
 simp only[aQ,iE,aX,List.isEmpty_eq_false_iff]
end
end Go.Sy
namespace Go.Sy
open Go.Proofs
theorem IG{ds:List eh}(ho:ds.Pairwise fun x y=>x.id<y.id){p n:Nat}{d:eh}{r:aH}(hd:ds[p]?=some d)(hr:d.L[n]?=some r): recAt ds (dZ d.id r n)=some r:=by
 unfold recAt
 have hf:ds.find? (fun e=>decide (e.id=(dZ d.id r n).doc))=some d:=by
  obtain⟨px,he⟩:=ah.1 hd
  rw[List.find?_eq_some_iff_getElem]
  refine⟨bj (show d.id=d.id from rfl),p,px,he,fun j hj=>?_⟩
  have:=dE.1 ho j p Zo px hj
  rw[he] at this
  simp only[iE,eD]
  show ¬ ds[j].id=d.id
  omega
 rw[hf]
 show kG (dZ d.id r n) d=some r
 unfold kG
 have h0:¬ (dZ d.id r n).at_<0:=by show ¬ (n:Int)<0;omega
 have hn:(dZ d.id r n).at_.toNat=n:=by show((n:Int)).toNat=n;omega
 rw[ai h0,hn,hr]
 dsimp only
 rw[au rfl]
theorem Gr{q:Int->Bool}{ds:List eh}{x:cq}(h:x∈lX q ds): ∃(p n:Nat) (d:eh) (r:aH),ds[p]?=some d/\d.L[n]?=some r/\x=dZ d.id r n:=by
 unfold lX at h
 obtain⟨d,hd,h⟩:=List.mem_flatMap.1 h
 unfold WD at h
 obtain⟨y,hy,rfl⟩:=bL.1 h
 have hy:=(jw.1 hy).1
 obtain⟨p,hp⟩:=List.mem_iff_getElem?.1 hd
 have h1:=(List.of_mem_zip hy).1
 obtain⟨n,hn⟩:=List.mem_iff_getElem?.1 h1
 unfold tp at hn
 rw[aO,List.getElem?_zipIdx] at hn
 cases hL:d.L[n]? with
 | none=>rw[hL] at hn;cases hn
 | some r =>
  rw[hL] at hn
  have hn:some (dZ d.id r (0+n))=some y.1:=hn
  injection hn with hn
  rw[cG] at hn
  exact⟨p,n,d,r,hp,hL,hn.symm⟩
def Q1:List AT:=[.v (.int .i64 0),.v (.int .i64 0),.v (.int .i64 0),.v (.int .i64 0),.ff,.v (.string ⟨#[]⟩),.ff,.ff,.v (.string ⟨#[]⟩),.v (.int .i64 0),.v (.string ⟨#[]⟩)]
theorem IF(n:Nat): ∀ c∈Q1,c.lt n:=by simp[Q1,AT.lt]
theorem ET(σ:al)(X:kR)(IX:iS σ X)(hl:X.ds.length<=1000000)(ho:X.ds.Pairwise fun x y=>x.id<y.id)(p n:Nat)(d:eh)(r:aH)(hd:X.ds[p]?=some d)(hr:d.L[n]?=some r):
  bZ Tryz.prog 135 [.agg (aA X),.agg (cm (dZ d.id r n))] σ (fun v=>v=(SV.agg (di r)).den fy):=by
 have px:=(ah.1 hd).1
 have wk:=(ah.1 hr).1
 have An:=IX.doc d (aC hd)
 have ad3:=iQ hd
 have ad0:=dn hr
 refine bW Tryz.func135 Z Z ⟨az 0 X,b6 0 _,trivial⟩ fun w=>?_
 refine Zd ?_
 refine bX (fun(_:Nat)=>σ) (fun k=>[(2,.a (.p 0 0)),(3,.a (.p 1 0)),(4,.a (.p 2 0)),(5,.a (.v (.int .i64 k)))]) (fun _=>[(0,.loc 114,aA X),(1,.loc 122,cm (dZ d.id r n)),(2,.loc 131,Q1)]) (fun _=>[]) 3 (fun k=>k<=p) (fun k=>p+1 - k) 0 (ay _) rfl Zs Zs rfl
  ⟨by show 0<3;omega,by show 1<3;omega,by show 2<3;omega,trivial,trivial⟩ (by exact⟨⟨by omega,az 3 X⟩,⟨by omega,b6 3 _⟩,⟨by omega,IF 3⟩,trivial⟩) fun k hk=>?_
 have cz:k<X.ds.length:=by omega
 refine Za ?_
 refine aG rfl (fun h=>?_) (fun h=>absurd (ab h) Zo)
 have xj:=aa cz
 have bU:=iQ xj
 have jv:k<p->X.ds[k].id≠d.id:=fun Qd=>by
  obtain⟨_,he⟩:=ah.1 hd
  have:=dE.1 ho k p cz px Qd
  rw[he] at this
  omega
 have heq:k=p->X.ds[k].id=d.id:=fun Qd=>by
  subst Qd
  rw[xj] at hd
  injection hd with hd
  rw[hd]
 generalize X.ds[k]=e at *
 refine Zd ?_
 refine ck [(0,.pure),(1,.quiet),(2,.pure),(3,.pure),(4,.pure),(5,.quiet),(6,.pure),(7,.quiet),(8,.pure)] mixed Zk (aM TT rfl ?_)
 refine Zr ?_
 refine bk TT Z Z Z Z Z Z Z Z Z IX.lT Zo bU (Zr ?_)
 refine Za ?_
 refine aG rfl (fun h=>?_) (fun h=>?_)
 ·have h:e.id=d.id:=ae h
  have Qd:k=p:=jJ fun hc=>jv Zo h
  subst Qd
  refine Za ?_
  refine ck [(0,.pure),(1,.quiet),(2,.pure),(3,.pure),(4,.pure),(5,.quiet),(6,.pure),(7,.quiet),(8,.pure),(9,.quiet),(10,.sink)] mixed Zk (aM TT rfl ?_)
  refine Zr ?_
  refine bk TT Z Z Z Z Z Z Z Z Z IX.lT Zo ad3 (Zr ?_)
  refine bk TT Z Z Z Z Z Z Z Z Z An.1 (by have e:(dZ d.id r n).at_=n:=rfl;omega) ad0 (Zr ?_)
  refine Zb ?_
  refine aw TT rfl fun β w' _ _=>?_
  rfl
 ·have h:¬ e.id=d.id:=ab h
  have Qd:k<p:=jJ fun hc=>h (heq Zo)
  refine Zc ?_
  refine an (k+1) Zo Zo rfl Zs Zs rfl Zl Zl
theorem Wl(σ:al)(g:aJ)(la:Option Addr)(lc:Nat)(ma:Option Addr)(mc:Nat): bZ Tryz.prog 194 [.agg (dN g la lc ma mc)] σ (fun v=>v=.tuple #[.agg (lb (kD g).1),.bool (kD g).2]):=by
 refine bW Tryz.func194 Z Z ⟨dF 0 _ _ _ _ _,trivial⟩ fun w=>?_
 refine Zd ?_
 refine aG rfl (fun h=>?_) (fun h0=>?_)
 ·have h:g.kind=0:=ae h
  have e:kD g=(iK,true):=by unfold kD;rw[au h]
  rw[e]
  refine Zb ?_
  refine aw TT rfl fun β w' _ _=>?_
  rfl
 have h0:¬ g.kind=0:=ab h0
 refine Za ?_
 refine aG rfl (fun h=>?_) (fun h1=>?_)
 ·have h:g.kind=1:=ae h
  have e:kD g=(⟨1,g.b,fA,iz,0⟩,true):=by unfold kD;rw[ai h0,au h]
  rw[e]
  refine Zb ?_
  refine aw TT rfl fun β w' _ _=>?_
  rfl
 have h1:¬ g.kind=1:=ab h1
 refine Za ?_
 refine aG rfl (fun h=>?_) (fun h2=>?_)
 ·have h:g.kind=2:=ae h
  have e:kD g=(⟨2,false,g.n,iz,0⟩,true):=by unfold kD;rw[ai h0,ai h1,au h]
  rw[e]
  refine Zb ?_
  refine aw TT rfl fun β w' _ _=>?_
  rfl
 have h2:¬ g.kind=2:=ab h2
 refine Za ?_
 refine aG rfl (fun h=>?_) (fun h3=>?_)
 ·have h:g.kind=3:=ae h
  have e:kD g=(⟨3,false,fA,g.s,0⟩,true):=by unfold kD;rw[ai h0,ai h1,ai h2,au h]
  rw[e]
  refine Zb ?_
  refine aw TT rfl fun β w' _ _=>?_
  rfl
 have h3:¬ g.kind=3:=ab h3
 have e:kD g=(iK,false):=by unfold kD;rw[ai h0,ai h1,ai h2,ai h3]
 rw[e]
 refine Zg ?_
 refine aw TT rfl fun β w' _ _=>?_
 rfl
end Go.Sy
