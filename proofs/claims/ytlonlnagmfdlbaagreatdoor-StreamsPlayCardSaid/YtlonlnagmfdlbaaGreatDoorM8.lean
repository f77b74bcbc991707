/- Parts of the proof of CStreamsPlay: K4, K5, K6, H3, H4, H7, F34, Lj, Lk, F44, F49, H9, Ll, Lm, Ln, F57, H13, S1, S2, S3, Je, S5. No conditions. -/
import Derived.Test.YtlonlnagmfdlbaaGreatDoorM7
set_option maxRecDepth 100000
set_option maxHeartbeats 16000000
namespace Go.Sy
open Go.Proofs
theorem xu{ao:Option Addr}{cap:Nat}{a b:List UInt8}{n:Nat}(hn:n=(a++b).length): (⟨ao,n,cap,5,1,kA a++kA b⟩:AE)=rI ao cap (a++b):=by
 subst hn
 unfold rI
 rw[kh]
theorem EI(l:List UInt8): (gM l).flatten.map AT.val=kA l:=(yB l).symm
theorem GY: ∀(l:List UInt8),(mL l).length<=2*l.length
 | []=>aq _
 | c::l=>by
  have:=GY l
  unfold mL
  split<;>simp only[List.length_cons]<;>omega
theorem size_le{d:oh}(h:dv d=true)(h0:d.dg.size≠0): (fO d).length<=43:=by
 rw[Il]
 obtain⟨ng,dg,ex⟩:=d
 obtain⟨l,rfl⟩:=oS dg
 have jZ:=gB l
 dsimp only at h0 ⊢
 rw[jZ] at h0 ⊢
 rw[jV _ _ _ h0] at h
 simp only[aQ,aX] at h
 have:=h.1.1.1.1.1.1.1
 omega
theorem Z9(i:Int): tQ .i64 i 24=i / 16777216:=by
 show i.fdiv 16777216=_
 rw[Int.fdiv_eq_ediv_of_nonneg _ (by decide)]
theorem Z8(i:Int): tQ .i64 i 16=i / 65536:=by
 show i.fdiv 65536=_
 rw[Int.fdiv_eq_ediv_of_nonneg _ (by decide)]
theorem aa9(σ:al)(m:Int)(hm:σ.cell ⟨0,0,none⟩=some (.int .i64 m))(p:dz)(hp:Rt p)(ou:p.s.size<=1000000)(o:List UInt8)(ho:o.length<=100000000)(oo:Option Addr)(oc:Nat)(_:o.length<=oc):
  pV Tryz.prog 219 [.a (.v (.slice oo o.length oc)),.agg (cc p)] σ [rI oo oc o] (fun v _ A'=>∃ om nE,v=.slice om (o++iF p).length nE/\(o++iF p).length<=nE/\A'=[rI om nE (o++iF p)]):=by
 obtain⟨kd,b,n,s,i⟩:=p
 dsimp only at ou
 have LR:kd=2->dv n=true:=fun h=>by
  have hr:=(lE _).2 hp
  subst h
  have:(decide ((⟨0,b,fA,s,i⟩:dz)=iK)&&dv n)=true:=hr
  rw[aQ] at this
  exact this.2
 have iZ:∀(l:List UInt8) (e:iF ⟨kd,b,n,s,i⟩=l) {k:Nat} (hk:k=l.length) (om:Option Addr) (nE:Nat),o.length+k<=nE->∃ ao ac,Value.slice om (o.length+k) nE=.slice ao (o++iF ⟨kd,b,n,s,i⟩).length ac/\(o++iF ⟨kd,b,n,s,i⟩).length<=ac/\[(⟨om,o.length+k,nE,5,1,kA o++kA l⟩:AE)]=[rI ao ac (o++iF ⟨kd,b,n,s,i⟩)]:=by
  intro l e k hk om nE h
  have hl:o.length+k=(o++l).length:=by rw[af,hk]
  rw[e]
  rw[hl] at h ⊢
  exact⟨om,nE,rfl,h,aN (fun x=>[x]) (xu rfl)⟩
 refine fk Tryz.func219 Z Z ⟨trivial,bT 0 _,trivial⟩ fun w=>?_
 refine Zd ?_
 refine aG rfl (fun h=>?_) (fun h0=>?_)
 ·have h:=ae (show decide (kd=0)=true from h)
  refine Za ?_
  refine bl TT 0 Z Z Z Z Z Z Z Z Z Z Z Z Z Z Z Z Z Z Zl rfl Zo (by show(o.length+1)*1<=_;omega) fun om nE lS=>aM TT rfl ?_
  refine Zb ?_
  refine dq TT rfl fun β w' _ _=>?_
  have e:iF ⟨kd,b,n,s,i⟩=[16]:=by unfold iF;dsimp only;rw[au h]
  exact iZ _ e rfl om nE lS
 have h0:=ab (show decide (kd=0)=false from h0)
 refine Za ?_
 refine ax 16 rfl (fun h1=>?_) (fun h1=>?_)
 ·have h1:=ae (show decide (kd=1)=true from h1)
  refine gX ?_
  refine aG rfl (fun hb=>?_) (fun hb=>?_)
  ·have hb:b=true:=hb
   refine Za ?_
   refine bl TT 0 Z Z Z Z Z Z Z Z Z Z Z Z Z Z Z Z Z Z Zl rfl Zo (by show(o.length+1)*1<=_;omega) fun om nE lS=>aM TT rfl ?_
   refine Zb ?_
   refine dq TT rfl fun β w' _ _=>?_
   have e:iF ⟨kd,b,n,s,i⟩=[33]:=by unfold iF;dsimp only;rw[ai h0,au h1,hb];rfl
   exact iZ _ e rfl om nE lS
  ·have hb:b=false:=hb
   refine Za ?_
   refine aG rfl (fun _=>?_) (fun h=>absurd h1 (ab (show decide (kd=1)=false from h)))
   refine Za ?_
   refine bl TT 0 Z Z Z Z Z Z Z Z Z Z Z Z Z Z Z Z Z Z Zl rfl Zo (by show(o.length+1)*1<=_;omega) fun om nE lS=>aM TT rfl ?_
   refine Zb ?_
   refine dq TT rfl fun β w' _ _=>?_
   have e:iF ⟨kd,b,n,s,i⟩=[32]:=by unfold iF;dsimp only;rw[ai h0,au h1,hb];rfl
   exact iZ _ e rfl om nE lS
 have h1:=ab (show decide (kd=1)=false from h1)
 refine D2 ?_
 refine aG rfl (fun h=>absurd (ae (show decide (kd=1)=true from h)) h1) (fun _=>?_)
 refine Za ?_
 refine ax 34 rfl (fun h2=>?_) (fun h2=>?_)
 ·have h2:=ae (show decide (kd=2)=true from h2)
  have hs:=LR h2
  refine gX ?_
  refine aG rfl (fun hz=>?_) (fun hz=>?_)
  ·have hz:n.dg.size=0:=by have:=ae hz;rw[this];rfl
   refine Za ?_
   refine bl TT 0 Z Z Z Z Z Z Z Z Z Z Z Z Z Z Z Z Z Z Zl rfl Zo (by show(o.length+1)*1<=_;omega) fun om nE lS=>aM TT rfl ?_
   refine Zb ?_
   refine dq TT rfl fun β w' _ _=>?_
   have e:iF ⟨kd,b,n,s,i⟩=[49]:=by unfold iF;dsimp only;rw[ai h0,ai h1,au h2,au hz]
   exact iZ _ e rfl om nE lS
  have hz:n.dg.size≠0:=fun h=>by
   refine absurd ?_ (ab hz)
   obtain⟨l,hl⟩:=oS n.dg
   show n.dg=_
   rw[hl,gB] at h
   rw[hl,aY h]
   rfl
  have pv:=size_le hs hz
  refine Za ?_
  refine ax 47 rfl (fun _=>?_) (fun h=>absurd h2 (ab (show decide (kd=2)=false from h)))
  refine gX ?_
  refine aG rfl (fun hn=>?_) (fun hn=>?_)
  ·have hn:n.neg=true:=hn
   refine Za ?_
   refine ky 9 [0,3,8] [(0,.loc 99,cc ⟨kd,b,n,s,i⟩)] mixed Zk rfl (fT Zs) ?_
   refine bQ (i:=0) TT rfl Zk Zk Z Z Z Z Z ?_
   refine bQ (i:=3) TT rfl Zk Zk Z Z Z Z Z ?_
   refine bQ (i:=4) TT rfl Zk Zk Z Z Z Z Z ?_
   refine dp (i:=1) Zk ?_
   refine gG TT Z Z Z Z Z ?_
   refine dp (i:=2) Zk ?_
   refine wu TT 0 Z Z Z Z Z Z Z Z Z Z Z Z Z Z Z Z Z Z Zl rfl Zo (by show(o.length+1)*1<=_;omega) fun o1 c1 vV=>?_
   refine eS [(5,.dP),(6,.dP),(7,.sink),(8,.pure)] Z Z Zk ?_
   refine Zr ?_
   refine bN Z Z Z Z Z Tryz.call238 ⟨dw 0 n,trivial⟩ (QJ σ n hs hz) fun v s1 cP ⟨ao,ac,hv,HS⟩=>⟨.a (.v (.slice ao (fO n).length ac)),trivial,hv.symm,?_⟩
   refine Zr ?_
   refine bN Z Z Z Z Z Tryz.call237 ⟨trivial,trivial⟩ (Qx s1 (fO n) Zo ao ac HS) fun v s2 cw ⟨bo,bc,hv,HT⟩=>⟨.a (.v (.slice bo (fO n).length bc)),trivial,hv.symm,?_⟩
   refine Zr ?_
   refine dC TT 0 Z Z Z Z Z Z Z HT Z Z Z Z Z Z Z Z Z (fun r hr=>(qy _ r hr).2.2) Zo (by show(o.length+1+(fO n).length)*1<=_;omega) fun o2 c2 Bq=>aM TT rfl ?_
   refine Zb ?_
   refine dq TT rfl fun β w' _ _=>?_
   have e:iF ⟨kd,b,n,s,i⟩=48::fN (fO n):=by unfold iF;dsimp only;rw[ai h0,ai h1,au h2,ai hz,au hn]
   have hx:(kA o++[.int .u8 48])++(gM (fN (fO n))).flatten.map AT.val=kA o++kA (48::fN (fO n)):=by rw[EI,av];rfl
   have hf:=iZ _ e (k:=1+(fO n).length) (by rw[List.length_cons,kf];omega) o2 c2 Zo
   rw[<-hx,<-j7] at hf
   exact hf
  ·have hn:n.neg=false:=hn
   refine Za ?_
   refine aG rfl (fun _=>?_) (fun h=>absurd h2 (ab (show decide (kd=2)=false from h)))
   refine Za ?_
   refine ky 8 [0,3,7] [(0,.loc 99,cc ⟨kd,b,n,s,i⟩)] mixed Zk rfl (fT Zs) ?_
   refine bQ (i:=0) TT rfl Zk Zk Z Z Z Z Z ?_
   refine bQ (i:=3) TT rfl Zk Zk Z Z Z Z Z ?_
   refine bQ (i:=4) TT rfl Zk Zk Z Z Z Z Z ?_
   refine dp (i:=1) Zk ?_
   refine gG TT Z Z Z Z Z ?_
   refine dp (i:=2) Zk ?_
   refine wu TT 0 Z Z Z Z Z Z Z Z Z Z Z Z Z Z Z Z Z Z Zl rfl Zo (by show(o.length+1)*1<=_;omega) fun o1 c1 vV=>?_
   refine eS [(5,.dP),(6,.sink),(7,.pure)] Z Z Zk ?_
   refine Zr ?_
   refine bN Z Z Z Z Z Tryz.call238 ⟨dw 0 n,trivial⟩ (QJ σ n hs hz) fun v s1 cP ⟨ao,ac,hv,HS⟩=>⟨.a (.v (.slice ao (fO n).length ac)),trivial,hv.symm,?_⟩
   refine Zr ?_
   refine dC TT 0 Z Z Z Z Z Z Z HS Z Z Z Z Z Z Z Z Z (fun r hr=>(qy _ r hr).2.2) Zo (by show(o.length+1+(fO n).length)*1<=_;omega) fun o2 c2 Bq=>aM TT rfl ?_
   refine Zb ?_
   refine dq TT rfl fun β w' _ _=>?_
   have e:iF ⟨kd,b,n,s,i⟩=50::fO n:=by unfold iF;dsimp only;rw[ai h0,ai h1,au h2,ai hz,ai (by rw[hn];decide)]
   have hx:(kA o++[.int .u8 50])++(gM (fO n)).flatten.map AT.val=kA o++kA (50::fO n):=by rw[EI,av];rfl
   have hf:=iZ _ e (k:=1+(fO n).length) (by rw[List.length_cons];omega) o2 c2 Zo
   rw[<-hx,<-j7] at hf
   exact hf
 have h2:=ab (show decide (kd=2)=false from h2)
 refine D2 ?_
 refine ax 47 rfl (fun h=>absurd (ae (show decide (kd=2)=true from h)) h2) (fun _=>?_)
 refine D2 ?_
 refine aG rfl (fun h=>absurd (ae (show decide (kd=2)=true from h)) h2) (fun _=>?_)
 refine Za ?_
 refine aG rfl (fun h3=>?_) (fun h3=>?_)
 ·have h3:=ae (show decide (kd=3)=true from h3)
  refine Za ?_
  have Ub:=GY s.data.toList
  have pv:s.data.toList.length=s.size:=cZ
  rw[pv] at Ub
  refine bl TT 0 Z Z Z Z Z Z Z Z Z Z Z Z Z Z Z Z Z Z Zl rfl Zo (by show(o.length+1)*1<=_;omega) fun o1 c1 vV=>aM TT rfl ?_
  refine Za ?_
  refine aT Z Z Z Z Z Tryz.call239 Zl (Hf σ m hm s ou) fun v hv=>⟨.a (.v (.string (ju (mL s.data.toList)))),trivial,hv.symm,?_⟩
  have e:iF ⟨kd,b,n,s,i⟩=64::(mL s.data.toList++[0,0]):=by unfold iF;dsimp only;rw[ai h0,ai h1,ai h2,au h3]
  generalize mL s.data.toList=E at *
  have hE:=gB E
  refine Zr ?_
  refine Ee TT 0 Z Z Z Z Z Z Z Z Z Z Z Z Z Z Z Z Z (by rw[hE];omega) (by rw[hE];show(o.length+1+E.length)*1<=_;omega) fun o2 c2 Bq=>?_
  rw[hE] at Bq ⊢
  refine gX ?_
  refine bl TT 0 Z Z Z Z Z Z Z Z Z Z Z Z Z Z Z Z Z Z Zl rfl Zo (by show(o.length+1+E.length+2)*1<=_;omega) fun o3 c3 hc3=>aM TT rfl ?_
  refine Zb ?_
  refine dq TT rfl fun β w' _ _=>?_
  have hx:(kA o++[.int .u8 64])++kA (ju E).data.toList++[.int .u8 0,.int .u8 0]=kA o++kA (64::(E++[0,0])):=by
   rw[jr,show(64:UInt8)::(E++[0,0])=[64]++E++[0,0] by simp,kh,kh,av,av,av]
   rfl
  have hf:=iZ _ e (k:=1+E.length+2) (by rw[List.length_cons,af];show _=E.length+2+1;omega) o3 c3 Zo
  rw[<-hx,<-j7,<-j7] at hf
  exact hf
 have h3:=ab (show decide (kd=3)=false from h3)
 refine Zg ?_
 have e1:IntKind.u8.wrap (tQ .i64 i 24)=((byteOf (i / 16777216)).toNat:Int):=by rw[tX,Z9]
 have e2:IntKind.u8.wrap (tQ .i64 i 16)=((byteOf (i / 65536)).toNat:Int):=by rw[tX,Z8]
 have e3:IntKind.u8.wrap (tQ .i64 i 8)=((byteOf (i / 256)).toNat:Int):=by rw[tX,XC]
 have e4:IntKind.u8.wrap i=((byteOf i).toNat:Int):=tX i
 dsimp only
 rw[e1,e2,e3,e4]
 refine bl TT 0 Z Z Z Z Z Z Z Z Z Z Z Z Z Z Z Z Z Z Zl rfl Zo (by show(o.length+5)*1<=_;omega) fun o1 c1 vV=>aM TT rfl ?_
 refine Zb ?_
 refine dq TT rfl fun β w' _ _=>?_
 have e:iF ⟨kd,b,n,s,i⟩=[80,byteOf (i / 16777216),byteOf (i / 65536),byteOf (i / 256),byteOf i]:=by unfold iF;dsimp only;rw[ai h0,ai h1,ai h2,ai h3]
 exact iZ _ e rfl o1 c1 vV
end Go.Sy
namespace Go.Sy
open Go.Proofs
def paE (t:Nat) (ao:Option Addr) (cap:Nat) (l:List dz):AE:=⟨ao,l.length,cap,t,7,ai0 l⟩
theorem qn{t:Nat}{σ:al}{ao:Option Addr}{cap:Nat}{l:List dz}(hS:b9 σ (paE t ao cap l))(hc:l.length<=cap): bu σ ao l.length cap 7 (m6 l) :=
 hS.sl (E:=paE t ao cap l) rfl (fun r hr=>⟨(Cx l r hr).1,(Cx l r hr).2.1⟩) (by simp[m6]) rfl hc
def Pv (l:List dz):Bool:=decide (l.length<=40)&&l.all fun p=>decide (p.s.size<=300)&&decide (p.n.dg.size<=200)
theorem Bs{l:List dz}: Pv l=true↔l.length<=40/\∀ p∈l,p.s.size<=300/\p.n.dg.size<=200:=by simp[Pv]
theorem Zj(σ:al)(l:List dz)(hl:l.length<=140737488355328)(ao:Option Addr)(cap:Nat)(H:bu σ ao l.length cap 7 (m6 l)):
  bZ Tryz.prog 49 [.a (.v (.slice ao l.length cap))] σ (fun v=>v=.bool (Pv l)):=by
 refine bW Tryz.func49 Z Z Zl fun w=>?_
 refine Za ?_
 refine aG rfl (fun h=>?_) (fun h=>?_)
 ·have h:=ae h
  refine Zb ?_
  refine aw TT rfl fun β w' _ _=>?_
  show Value.bool false=.bool (decide (l.length<=40)&&_)
  rw[b7 Zo,dt]
 have h40:l.length<=40:=by have:=ab h;omega
 refine Zd ?_
 refine bX (fun(_:Nat)=>σ) (fun k=>[(0,.a (.v (.slice ao l.length cap))),(3,.a (.v (.int .i64 k)))]) (fun _=>[]) (fun _=>[]) 0 (fun k=>k<=l.length/\∀ p∈l.take k,p.s.size<=300/\p.n.dg.size<=200) (fun k=>l.length - k) 0 ⟨ay _,fun p h=>(by cases h)⟩ rfl Zs Zs rfl Zl Zl fun k ⟨hk,hw⟩=>?_
 refine Za ?_
 refine aG rfl (fun h=>?_) (fun h=>?_)
 rotate_left
 ·have fQ:k=l.length:=by have:=ab h;omega
  rw[fQ,aI] at hw
  refine Ze ?_
  refine aw TT rfl fun β w' _ _=>?_
  rw[Bs.2 ⟨h40,hw⟩]
  rfl
 have cz:k<l.length:=by have:=ae h;omega
 have bU:=wP (aa cz)
 have sm:=aP cz
 have mi:l.take (k+1)=l.take k++[l[k]]:=ak cz
 generalize l[k]=p at *
 have VP:¬(p.s.size<=300/\p.n.dg.size<=200)->Pv l=false:=fun hn=>by
  rw[Bool.eq_false_iff]
  intro h
  exact hn ((Bs.1 h).2 p sm)
 refine Zd ?_
 refine bk TT Z Z Z Z Z Z Z Z Z H Zo bU (Zr ?_)
 refine ax 20 rfl (fun h1=>?_) (fun h1=>?_)
 ·have h1:=ae (show decide ((300:Int)<p.s.size)=true from h1)
  refine gn ?_
  refine aw TT rfl fun β w' _ _=>?_
  rw[VP Zo]
  rfl
 have h1:=ab (show decide ((300:Int)<p.s.size)=false from h1)
 refine Zr ?_
 refine bk TT Z Z Z Z Z Z Z Z Z H Zo bU (Zr ?_)
 refine Za ?_
 refine aG rfl (fun h2=>?_) (fun h2=>?_)
 ·have h2:=ae (show decide ((200:Int)<p.n.dg.size)=true from h2)
  refine Zb ?_
  refine aw TT rfl fun β w' _ _=>?_
  rw[VP Zo]
  rfl
 have h2:=ab (show decide ((200:Int)<p.n.dg.size)=false from h2)
 refine Zc ?_
 refine an (k+1) ⟨cz,fun x hx=>?_⟩ Zo rfl Zs Zs rfl Zl Zl
 rw[mi] at hx
 rcases bz.1 hx with hx | hx
 ·exact hw x hx
 ·rw[aU] at hx
  subst hx
  omega
end Go.Sy
namespace Go.Sy
open Go.Proofs
theorem Gg{p:dz}(h:Rt p): (iF p).length<=2*p.s.size+60:=by
 cases h with
 | null=>show 1<=_;omega
 | bool b=>show 1<=_;omega
 | num n h =>
  unfold iF
  dsimp only
  rw[ai (by decide),ai (by decide),au rfl]
  by_cases h0:n.dg.size=0
  ·rw[au h0];show 1<=_;omega
  have:=size_le h h0
  rw[ai h0]
  split<;>rw[List.length_cons]
  ·rw[kf];omega
  ·omega
 | str s =>
  have:=GY s.data.toList
  have hs:s.data.toList.length=s.size:=cZ
  show(64::(mL s.data.toList++[0,0])).length<=_
  rw[List.length_cons,af]
  show(mL s.data.toList).length+2+1<=2*s.size+60
  omega
 | whole i h1 h2=>show 5<=_;omega
def Ey (l:List dz) (k:Nat):List UInt8:=(l.take k).flatMap iF
theorem J6{l:List dz}{k:Nat}{p:dz}(h:l[k]?=some p): Ey l (k+1)=Ey l k++iF p:=by
 obtain⟨hk,he⟩:=ah.1 h
 unfold Ey
 rw[ak hk,he,List.flatMap_append]
 simp
theorem IJ{l:List dz}(h:∀ p∈l,Rt p/\p.s.size<=1000000): (l.flatMap iF).length<=l.length*2000060:=by
 induction l with
 | nil=>exact aq _
 | cons p l ih =>
  have h1:=ih fun q hq=>h q (ba p hq)
  obtain⟨h2,h3⟩:=h p a8
  have h4:=Gg h2
  rw[List.flatMap_cons,af,List.length_cons,Nat.succ_mul]
  omega
structure EnS where
 k:Nat
 oo:Option Addr
 oc:Nat
theorem T2(σ:al)(m:Int)(hm:σ.cell ⟨0,0,none⟩=some (.int .i64 m))(l:List dz)(hl:l.length<=140737488355328)(hb:∀ p∈l,p.n.dg.size<=bJ/\p.s.size<=1000000)(lo:Option Addr)(lc:Nat)(H:bu σ lo l.length lc 7 (m6 l)):
  fa Tryz.prog 182 [.a (.v (.slice lo l.length lc))] σ (fun v bD=>∃ bo bc,v=.tuple #[.slice bo (qO l).1.length bc,.int .i64 (qO l).2]/\bu bD bo (qO l).1.length bc 1 (gM (qO l).1)):=by
 refine ek Tryz.func182 Z Z Zl fun w=>?_
 refine Za ?_
 refine aG rfl (fun h=>?_) (fun h=>?_)
 ·have h:=ae (show decide ((16:Int)<l.length)=true from h)
  have e:qO l=([],4):=by unfold qO;rw[au Zo]
  rw[e]
  refine Zb ?_
  refine aw TT rfl fun β w' _ _=>?_
  exact⟨none,0,rfl,bu.nil _ none 0 1⟩
 have h16:l.length<=16:=by have:=ab (show decide ((16:Int)<l.length)=false from h);omega
 refine Zd ?_
 refine dV 5 1 ?_
 refine gC (fun(s:al) (_:EnS)=>s) (fun _ t=>[(4,.a (.v (.slice t.oo (Ey l t.k).length t.oc))),(10,.a (.v (.slice lo l.length lc))),(11,.a (.v (.int .i64 l.length))),(12,.a (.v (.int .i64 (t.k:Nat))))]) (fun _ _=>[]) (fun _ t=>[rI t.oo t.oc (Ey l t.k)]) 0
  (fun s t=>σ.le s/\t.k<=l.length/\(Ey l t.k).length<=t.oc/\∀ p∈l.take t.k,Rt p) (fun _ t=>l.length - t.k) σ ⟨0,none,0⟩ ⟨al.le_refl _,ay _,aq _,fun _ h=>(by cases h)⟩ rfl Zs Zs rfl Zl Zl fun s ⟨k,oo,oc⟩ ⟨hle,hk,j6,hr⟩=>?_
 dsimp only at hk j6 hr ⊢
 have H:=H.mono hle
 have hm:=hle.cell hm
 refine Za ?_
 refine aG rfl (fun h=>?_) (fun h=>?_)
 rotate_left
 ·have fQ:k=l.length:=by have:=ab h;omega
  rw[fQ,aI] at hr
  have e:qO l=(Ey l k,0):=by
   unfold qO Ey
   rw[ai Zo,au (TH.2 hr),fQ,aI]
  rw[e]
  refine Ze ?_
  refine dD 0 Z Z fun s1 cP hS=>?_
  refine aw TT rfl fun β w' _ _=>?_
  exact⟨oo,oc,rfl,rW hS j6⟩
 have cz:k<l.length:=by have:=ae h;omega
 have hx:=aa cz
 have sm:=aP cz
 have bU:=wP hx
 have m1:=J6 hx
 have mi:l.take (k+1)=l.take k++[l[k]]:=ak cz
 have Ew:(Ey l k).length<=16*2000060:=by
  have h1:=IJ (l:=l.take k) fun p hp=>⟨hr p hp,(hb p (dr hp)).2⟩
  have h2:(l.take k).length<=16:=by rw[aE];omega
  exact ep h1 (cn _ h2)
 obtain⟨Ue,YO⟩:=hb l[k] sm
 generalize l[k]=p at *
 refine Zd ?_
 refine bk TT Z Z Z Z Z Z Z Z Z H Zo bU (Zr ?_)
 refine Za ?_
 refine aT Z Z Z Z Z Tryz.call218 Zl (US s p Ue) fun v hv=>⟨.a (.b (dm p)),trivial,hv.symm,?_⟩
 refine gX ?_
 refine aG rfl (fun hq=>?_) (fun hq=>?_)
 ·have hq:dm p=false:=by simpa using hq
  have e:qO l=([],1):=by
   unfold qO
   rw[ai Zo,ai]
   intro ha
   have:=dc.1 ha p sm
   rw[hq] at this
   cases this
  rw[e]
  refine Zb ?_
  refine aw TT rfl fun β w' _ _=>?_
  exact⟨none,0,rfl,bu.nil _ none 0 1⟩
 have hq:dm p=true:=by simpa using hq
 have WU:=(lE p).1 hq
 refine Zc ?_
 refine dT [0] (A0:=[rI oo oc (Ey l k)]) (Ar:=[]) Z Z Z Z Z Z Z Tryz.call219 ⟨trivial,bT 0 p,trivial⟩ (aa9 s m hm p WU YO (Ey l k) Zo oo oc j6) fun v s1 A' cP ⟨o1,c1,hv,vV,hA⟩=>⟨.a (.v (.slice o1 (Ey l k++iF p).length c1)),trivial,hv.symm,?_⟩
 subst hA
 rw[<-m1] at vV ⊢
 refine lP ?_
 refine an (s1,(⟨k+1,o1,c1⟩:EnS)) ⟨al.le_trans hle cP,cz,vV,fun q zk=>?_⟩ (by dsimp only;omega) rfl Zs Zs rfl Zl Zl
 rw[mi] at zk
 rcases bz.1 zk with zk | zk
 ·exact hr q zk
 ·rw[aU] at zk
  subst zk
  exact WU
def vZ (a b:Int):Int:=if a<b then -1 else if b<a then 1 else 0
theorem Av(σ:al)(a b:Int): bZ Tryz.prog 227 [.a (.v (.int .i64 a)),.a (.v (.int .i64 b))] σ (fun v=>v=.int .i64 (vZ a b)):=by
 refine bW Tryz.func227 Z Z Zl fun w=>?_
 refine Za ?_
 refine aG rfl (fun h=>?_) (fun h=>?_)
 ·have h:=ae h
  refine Zb ?_
  refine aw TT rfl fun β w' _ _=>?_
  show Value.int .i64 (-1)=_
  unfold vZ
  rw[au h]
 have h:=ab h
 refine Zd ?_
 refine aG rfl (fun h2=>?_) (fun h2=>?_)
 ·have h2:=ae h2
  refine Zb ?_
  refine aw TT rfl fun β w' _ _=>?_
  show Value.int .i64 1=_
  unfold vZ
  rw[ai h,au h2]
 ·have h2:=ab h2
  refine Zg ?_
  refine aw TT rfl fun β w' _ _=>?_
  show Value.int .i64 0=_
  unfold vZ
  rw[ai h,ai h2]
theorem wrap64(u:UInt8): IntKind.i64.wrap (u.toNat:Int)=(u.toNat:Int):=by
 have h:∀ n:Fin 256,IntKind.i64.wrap (n.val:Int)=(n.val:Int):=by decide +kernel
 exact h ⟨u.toNat,u.toNat_lt⟩
theorem Tl: ∀ {a b:List UInt8},(a=[]\/b=[])->ug a b=vZ a.length b.length
 | [],[],_=>rfl
 | [],y::b,_=>by
  show(-1:Int)=vZ 0 ((b.length+1:Nat):Int)
  unfold vZ
  rw[au Zo]
 | x::a,[],_=>by
  show(1:Int)=vZ ((a.length+1:Nat):Int) 0
  unfold vZ
  rw[ai Zo,au Zo]
 | _::_,_::_,h=>by rcases h with h | h<;>cases h
theorem V9{x y:UInt8}{a b:List UInt8}(h:x≠y): ug (x::a) (y::b)=vZ x.toNat y.toNat:=by
 have hn:x.toNat≠y.toNat:=fun e=>h (iM.1 e)
 unfold ug vZ
 by_cases h1:x<y
 ·have:=jN.1 h1
  rw[au h1,au Zo]
 ·have h2:¬ x.toNat<y.toNat:=fun e=>h1 (jN.2 e)
  have h3:y<x:=jN.2 Zo
  rw[ai h1,au h3,ai Zo,au Zo]
theorem Wa(x:UInt8)(a b:List UInt8): ug (x::a) (x::b)=ug a b:=FN [x] a b
theorem PI(σ:al)(a b:List UInt8)(ha:a.length<=140737488355328): bZ Tryz.prog 195 [.a (.v (.string (ju a))),.a (.v (.string (ju b)))] σ (fun v=>v=.int .i64 (ug a b)):=by
 have hza:=gB a
 have hzb:=gB b
 refine bW Tryz.func195 Z Z Zl fun w=>?_
 refine Zd ?_
 refine fm (fun _=>σ) (fun(k:Nat)=>[(0,.a (.v (.string (ju a)))),(1,.a (.v (.string (ju b))))]) (fun _=>[]) (fun _=>[]) 0 (fun k=>k<=a.length/\k<=b.length/\ug a b=ug (a.drop k) (b.drop k)/\(k=a.length\/k=b.length)) ?_ (fun k ⟨ZL,Su,hc,he⟩=>?_)
 rotate_left
 ·refine Za ?_
  rw[hza,hzb]
  refine aT Z Z Z Z Z Tryz.call227 Zl (Av σ a.length b.length) fun v hv=>⟨.a (.v (.int .i64 (vZ a.length b.length))),trivial,hv.symm,?_⟩
  refine gn ?_
  refine aw TT rfl fun β w' _ _=>?_
  rw[hc,Tl (by
   rcases he with he | he
   ·exact .inl (dO Zo)
   ·exact .inr (dO Zo)),bm,bm]
  show Value.int .i64 (vZ a.length b.length)=.int .i64 (vZ ((a.length - k:Nat):Int) ((b.length - k:Nat):Int))
  congr 1
  unfold vZ
  by_cases h1:a.length<b.length
  ·rw[au Zo,au Zo]
  ·rw[ai Zo,ai (show ¬ ((a.length - k:Nat):Int)<((b.length - k:Nat):Int) by omega)]
   by_cases h2:b.length<a.length
   ·rw[au Zo,au Zo]
   ·rw[ai Zo,ai Zo]
 refine bX (fun(_:Nat)=>σ) (fun k=>[(0,.a (.v (.string (ju a)))),(1,.a (.v (.string (ju b)))),(5,.a (.v (.int .i64 (k:Nat))))]) (fun _=>[]) (fun _=>[]) 0 (fun k=>k<=a.length/\k<=b.length/\ug a b=ug (a.drop k) (b.drop k)) (fun k=>a.length - k) 0 ⟨ay _,ay _,rfl⟩ rfl Zs Zs rfl Zl Zl fun k ⟨ZL,Su,hc⟩=>?_
 refine Za ?_
 rw[hza]
 refine ax 10 rfl (fun h1=>?_) (fun h1=>?_)
 rotate_left
 ·have h1:=ab (show decide ((k:Int)<a.length)=false from h1)
  refine D2 ?_
  refine an k ⟨ZL,Su,hc,.inl Zo⟩ aj rfl Zs Zs rfl Zl Zl
 have h1:=ae (show decide ((k:Int)<a.length)=true from h1)
 refine gX ?_
 rw[hzb]
 refine aG rfl (fun h2=>?_) (fun h2=>?_)
 rotate_left
 ·have h2:=ab (show decide ((k:Int)<b.length)=false from h2)
  refine Ze ?_
  refine an k ⟨ZL,Su,hc,.inr Zo⟩ aj rfl Zs Zs rfl Zl Zl
 have h2:=ae (show decide ((k:Int)<b.length)=true from h2)
 have Ss:k<a.length:=by omega
 have LW:k<b.length:=by omega
 have hxa:=aa Ss
 have hxb:=aa LW
 have hda:=aB Ss
 have hdb:=aB LW
 generalize a[k]=x at *
 generalize b[k]=y at *
 have hia:∀ z:Int,z=(k:Int)->(ju a).data.toList[z.toNat]?=some x:=fun z hz=>by rw[hz,jr];exact hxa
 have hib:∀ z:Int,z=(k:Int)->(ju b).data.toList[z.toNat]?=some y:=fun z hz=>by rw[hz,jr];exact hxb
 refine Zd ?_
 refine ck [(0,.pure),(1,.pure),(2,.pure),(3,.pure),(4,.pure),(5,.pure),(6,.pure)] mixed Zk (aM TT rfl ?_)
 refine fz (u:=x) TT Z Z Z Z Z Z Z Z Zo (hia _ rfl) (Zr ?_)
 refine fz (u:=y) TT Z Z Z Z Z Z Z Z Zo (hib _ rfl) (Zr ?_)
 refine Za ?_
 refine aG rfl (fun jv=>?_) (fun heq=>?_)
 ·have jv:x≠y:=by
   intro e
   have h:(!decide ((x.toNat:Int)=y.toNat))=true:=jv
   rw[e] at h
   simp at h
  refine Za ?_
  refine ck [(0,.pure),(1,.pure),(2,.pure),(3,.pure),(4,.pure),(5,.pure),(6,.pure),(7,.pure),(8,.dP),(9,.pure)] mixed Zk (aM TT rfl ?_)
  refine fz (u:=x) TT Z Z Z Z Z Z Z Z Zo (hia _ rfl) (Zr ?_)
  refine jY TT (x.toNat:Int) Z Z Z Z Z Z Z Z (wrap64 x) (Zr ?_)
  refine fz (u:=y) TT Z Z Z Z Z Z Z Z Zo (hib _ rfl) (Zr ?_)
  refine jY TT (y.toNat:Int) Z Z Z Z Z Z Z Z (wrap64 y) (Zr ?_)
  refine aT Z Z Z Z Z Tryz.call227 Zl (Av σ x.toNat y.toNat) fun v hv=>⟨.a (.v (.int .i64 (vZ x.toNat y.toNat))),trivial,hv.symm,?_⟩
  refine gn ?_
  refine aw TT rfl fun β w' _ _=>?_
  rw[hc,hda,hdb,V9 jv]
  rfl
 have heq:x=y:=by
  have h:(!decide ((x.toNat:Int)=y.toNat))=false:=heq
  simp only[Bool.not_eq_false',aX] at h
  exact iM.1 Zo
 refine Zc ?_
 refine an (k+1) ⟨Ss,LW,by rw[hc,hda,hdb,heq,Wa]⟩ Zo rfl Zs Zs rfl Zl Zl
theorem Hm(σ:al)(a b:List UInt8)(ha:a.length<=140737488355328)(ao:Option Addr)(ac:Nat)(HA:bu σ ao a.length ac 1 (gM a))(bo:Option Addr)(bc:Nat)(HB:bu σ bo b.length bc 1 (gM b)):
  bZ Tryz.prog 136 [.a (.v (.slice ao a.length ac)),.a (.v (.slice bo b.length bc))] σ (fun v=>v=.int .i64 (ug a b)):=by
 refine bW Tryz.func136 Z Z Zl fun w=>?_
 refine Za ?_
 refine sf TT Z Z Z Z Z Z Z Z Z Z Z Z HA (Zr ?_)
 refine sf TT Z Z Z Z Z Z Z Z Z Z Z Z HB (Zr ?_)
 refine aT Z Z Z Z Z Tryz.call195 Zl (PI σ a b ha) fun v hv=>⟨.a (.v (.int .i64 (ug a b))),trivial,hv.symm,?_⟩
 refine gn ?_
 refine aw TT rfl fun β w' _ _=>?_
 rfl
end Go.Sy
namespace Go.Sy
open Go.Proofs
theorem NH(f:FuncId)(g:Nat): (SV.a (.fn (.func f) [.val (.pointer (some ⟨g,0,none⟩))])).lt 0:=by
 intro p hp
 rw[aU] at hp
 subst hp
 trivial
end Go.Sy
namespace Go.Sy
open Go.Proofs
theorem Dz{σ:al}{g cap e:Nat}{v:Value}(hS:b9 σ ⟨some ⟨g,0,none⟩,1,cap,e,1,[v]⟩): σ.cell ⟨g,0,none⟩=some v:=by
 rcases hS with⟨h,_⟩ | ⟨g',h1,h2⟩
 ·cases h
 ·have h1:some (⟨g,0,none⟩:Addr)=some ⟨g',0,none⟩:=h1
  injection h1 with h1
  injection h1 with h1
  subst h1
  exact h2 0 v rfl
end Go.Sy
namespace Go.Sy
open Go.Proofs
theorem yj(q:Nat->cH->Bool): ∀(l:List cH) (k:Nat),(v7 q l k).length<=l.length
 | [],_=>aq _
 | x::l,k=>by
  have:=yj q l (k+1)
  unfold v7
  split
  ·rw[List.length_cons,List.length_cons];omega
  ·rw[List.length_cons];omega
theorem GA(σ:al)(d:eh)(H:bu σ d.o d.L.length d.cap 11 (cv d.L))(i:Nat)(r:aH)(hr:d.L[i]?=some r):
  bZ Tryz.prog 103 [.agg (gL d),.a (.v (.int .i64 i))] σ (fun v=>v=(SV.agg (cm (dZ d.id r i))).den fy):=by
 have bU:=dn hr
 refine bW Tryz.func103 Z Z ⟨eJ 0 d,trivial,trivial⟩ fun w=>?_
 refine Za ?_
 refine bk TT Z Z Z Z Z Z Z Z Z H Zo bU (Zr ?_)
 refine Zb ?_
 refine aw TT rfl fun β w' _ _=>?_
 rfl
def OF (q:Int->Bool) (d:eh) (j:Nat):List cq:=((((tp d.id d.L).zip d.ids).take j).filter fun x=>q x.2).map Prod.fst
theorem Gq(q:Int->Bool)(d:eh)(h:d.ids.length=d.L.length): OF q d d.ids.length=WD q d:=by
 unfold OF WD
 rw[bY (by rw[List.length_zip,CT];omega)]
theorem Cz{q:Int->Bool}{d:eh}{j:Nat}{k:Int}{r:aH}(hk:d.ids[j]?=some k)(hr:d.L[j]?=some r): OF q d (j+1)=OF q d j++if q k then [dZ d.id r j] else []:=by
 have h1:=LC (id:=d.id) hr
 have h2:((tp d.id d.L).zip d.ids)[j]?=some (dZ d.id r j,k):=by
  rw[List.getElem?_zip_eq_some]
  exact⟨h1,hk⟩
 obtain⟨hj,he⟩:=ah.1 h2
 unfold OF
 rw[ak hj,he,eu,aF]
 congr 1
 rw[dS]
 dsimp only
 split<;>rfl
theorem Gp(q:Int->Bool)(d:eh)(j:Nat): (OF q d j).length<=j:=by
 unfold OF
 rw[aR]
 refine ep (lx _ _) ?_
 rw[aE]
 omega
theorem CA{q:Int->Bool}{ds:List eh}{k:Nat}{d:eh}(h:ds[k]?=some d): lX q (ds.take (k+1))=lX q (ds.take k)++WD q d:=by
 obtain⟨hk,he⟩:=ah.1 h
 unfold lX
 rw[ak hk,he,List.flatMap_append]
 simp
structure Kr where
 k:Nat
 o:List cq
 oo:Option Addr
 oc:Nat
theorem ai2(σ:al)(X:kR)(IX:iS σ X)(hl:X.ds.length<=1000)(hd:∀ d∈X.ds,d.ids.length=d.L.length/\d.L.length<=100000)(f:FuncId)(iq:List PT)(mC:jj (iq.map lR))(gm:∀ args w,(callFunc f args).run Tryz.prog w=.ok (.enter f args) w)(dj:(SV.a (.fn (.func f) iq)).lt 0)(q:Int->Bool)(hq:∀ k:Int,bZ Tryz.prog f (.a (.v (.int .i64 k))::iq.map lR) σ (fun v=>v=.bool (q k))):
  fa Tryz.prog 83 [.agg (aA X),.a (.fn (.func f) iq)] σ (fun v bD=>∃ oo oc,v=.slice oo (lX q X.ds).length oc/\bu bD oo (lX q X.ds).length oc 5 (eP (lX q X.ds))):=by
 have Sl:=SV.eT (ay 1) dj
 have zl:=SV.eT (ay 3) dj
 refine ek Tryz.func83 Z Z ⟨az 0 X,dj,trivial⟩ fun w=>?_
 refine Za ?_
 refine Rz Z Z Z Z Z Z Z (Zr ?_)
 refine eN TT X.ds.length Z Z Z Z Z Z Z Z Z (by show(if (X.ds.length:Int)<X.ds.length then _ else _)=_;split<;>rfl) IX.lT.pn IX.lT.pn (Zr ?_)
 refine iu ?_
 refine dV 71 5 ?_
 refine Zd ?_
 refine bX (fun(_:Kr)=>σ) (fun t=>[(1,.a (.fn (.func f) iq)),(2,.a (.p 0 0)),(5,.a (.v (.slice t.oo t.o.length t.oc))),(19,.a (.v (.slice X.o X.ds.length X.c))),(20,.a (.v (.int .i64 X.ds.length))),(21,.a (.v (.int .i64 (t.k:Nat))))])
  (fun _=>[(0,.loc 60,aA X)]) (fun t=>[Hq t.oo t.oc t.o]) 1 (fun t=>t.k<=X.ds.length/\t.o=lX q (X.ds.take t.k)/\t.o.length<=t.oc/\t.o.length<=t.k*100000) (fun t=>X.ds.length - t.k) ⟨0,[],none,0⟩
  ⟨ay _,rfl,aq _,ay _⟩ rfl Zs Zs rfl ⟨Sl,aj,trivial,trivial,trivial,trivial,trivial⟩ (by exact⟨⟨aj,az 1 X⟩,trivial⟩) fun⟨k,o,oo,oc⟩ ⟨hk,ho,j6,Hs⟩=>?_
 dsimp only at hk ho j6 Hs ⊢
 refine Za ?_
 refine aG rfl (fun h=>?_) (fun h=>?_)
 rotate_left
 ·have fQ:k=X.ds.length:=by have:=ab h;omega
  rw[fQ,aI] at ho
  subst ho
  refine Ze ?_
  refine dD 0 Z Z fun bD nY hS=>?_
  refine aw TT rfl fun β w' _ _=>?_
  exact⟨oo,oc,rfl,ny hS j6⟩
 have cz:k<X.ds.length:=by have:=ae h;omega
 have xj:=aa cz
 have bU:=iQ xj
 have pU:=qI xj
 have L4:=hd X.ds[k] (aP cz)
 have An:=IX.doc X.ds[k] (aP cz)
 have l8:=CA (q:=q) xj
 rw[<-ho] at l8
 generalize X.ds[k]=d at *
 obtain⟨VI,DW⟩:=L4
 refine Zd ?_
 refine bk TT Z Z Z Z Z Z Z Z Z IX.lT Zo bU (Zr ?_)
 refine Za ?_
 refine bk TT Z Z Z Z Z Z Z Z Z IX.lines Zo pU (Zr ?_)
 refine Zd ?_
 refine bX (fun(_:Kr)=>σ) (fun t=>[(1,.a (.fn (.func f) iq)),(2,.a (.p 0 0)),(5,.a (.v (.slice t.oo t.o.length t.oc))),(7,.a (.p 2 0)),(19,.a (.v (.slice X.o X.ds.length X.c))),(20,.a (.v (.int .i64 X.ds.length))),(21,.a (.v (.int .i64 k))),(30,.a (.v (.slice d.lo d.ids.length d.zg))),(31,.a (.v (.int .i64 d.ids.length))),(32,.a (.v (.int .i64 (t.k:Nat))))])
  (fun _=>[(0,.loc 60,aA X),(2,.loc 90,gL d)]) (fun t=>[Hq t.oo t.oc t.o]) 3 (fun t=>t.k<=d.ids.length/\t.o=o++OF q d t.k/\t.o.length<=t.oc) (fun t=>d.ids.length - t.k) ⟨0,o,oo,oc⟩
  ⟨ay _,(aL o).symm,j6⟩ rfl Zs Zs rfl ⟨zl,by show 0<3;omega,trivial,by show 2<3;omega,trivial,trivial,trivial,trivial,trivial,trivial,trivial⟩ (by exact⟨⟨by omega,az 3 X⟩,⟨by omega,eJ 3 d⟩,trivial⟩) fun⟨j,o1,oo,oc⟩ ⟨hj,GI,j6⟩=>?_
 dsimp only at hj GI j6 ⊢
 have px:=Gp q d j
 have Nq:o1.length=o.length+(OF q d j).length:=by rw[GI,af]
 refine Za ?_
 refine aG rfl (fun h=>?_) (fun h=>?_)
 rotate_left
 ·have LZ:j=d.ids.length:=by have:=ab h;omega
  subst LZ
  rw[Gq q d VI] at GI
  refine Zg ?_
  refine an (⟨k+1,o1,oo,oc⟩:Kr) ⟨cz,by dsimp only;rw[l8,GI],j6,by dsimp only;rw[Nat.succ_mul];omega⟩ (by dsimp only;omega) rfl Zs Zs rfl ⟨Sl,aj,trivial,trivial,trivial,trivial,trivial⟩ (by exact⟨⟨aj,az 1 X⟩,trivial⟩)
 have m2:j<d.ids.length:=by have:=ae h;omega
 have O8:=aa m2
 have hrj:d.L[j]?=some (d.L[j]'Zo):=aa Zo
 have JA:=lg O8
 have hit:=GA σ d An.1 j _ hrj
 have qL:=Cz (q:=q) O8 hrj
 generalize d.ids[j]=x at *
 generalize d.L[j]'Zo=r at *
 refine Zd ?_
 refine bk TT Z Z Z Z Z Z Z Z Z An.2 Zo JA (Zr ?_)
 refine Za ?_
 refine ax 42 rfl (fun _=>?_) (fun h=>absurd (ab (show decide ((j:Int)<d.L.length)=false from h)) Zo)
 refine Zr ?_
 refine aT (ys:=.a (.v (.int .i64 x))::iq.map lR) Z Z Z Z Z gm ⟨trivial,mC⟩ (hq x) fun v hv=>⟨.a (.b (q x)),trivial,hv.symm,?_⟩
 refine gX ?_
 refine aG rfl (fun h=>?_) (fun h=>?_)
 ·have h:q x=true:=h
  rw[h,au rfl] at qL
  refine Za ?_
  refine cr 48 (.agg (gL d)) rfl (eJ _ _) (fun _=>rfl) ?_
  refine aT (ys:=[.agg (gL d),.a (.v (.int .i64 j))]) Z Z Z Z Z Tryz.call103 ⟨eJ 0 d,trivial,trivial⟩ hit fun v hv=>⟨.agg (cm (dZ d.id r j)),b6 _ _,hv.symm,?_⟩
  refine Zr ?_
  refine bl TT 0 Z Z Z Z Z Z Z Z Z Z Z Z Z Z Z Z Z Z (b6 0 _) rfl Zo (by show(o1.length+1)*40<=_;omega) fun om nE lS=>aM TT rfl ?_
  refine Zc ?_
  have lJ:(o1++[dZ d.id r j]).length=o1.length+1:=by simp
  refine an (⟨j+1,o1++[dZ d.id r j],om,nE⟩:Kr) ⟨m2,by dsimp only;rw[qL,GI,av],by dsimp only;omega⟩ (by dsimp only;omega) rfl ?_ Zs ?_ ⟨zl,by show 0<3;omega,trivial,by show 2<3;omega,trivial,trivial,trivial,trivial,trivial,trivial,trivial⟩ (by exact⟨⟨by omega,az 3 X⟩,⟨by omega,eJ 3 d⟩,trivial⟩)
  ·dsimp only
   rw[lJ]
   (repeat first | exact trivial | refine⟨rfl,?_⟩)
  ·show [_]=[_]
   dsimp only
   unfold Hq
   rw[lJ,<-sj]
   rfl
 ·have h:q x=false:=h
  rw[h,ai (by decide),aL] at qL
  refine Zc ?_
  refine an (⟨j+1,o1,oo,oc⟩:Kr) ⟨m2,by dsimp only;rw[qL];exact GI,j6⟩ (by dsimp only;omega) rfl Zs Zs rfl ⟨zl,by show 0<3;omega,trivial,by show 2<3;omega,trivial,trivial,trivial,trivial,trivial,trivial,trivial⟩ (by exact⟨⟨by omega,az 3 X⟩,⟨by omega,eJ 3 d⟩,trivial⟩)
theorem M5{κ:Type}[DecidableEq κ]: ∀(l:List (κ×Value)) (k:κ) (i j:Nat),(mix l k i).map (·.2)=(mix l k j).map (·.2)
 | [],_,_,_=>rfl
 | p::l,k,i,j=>by
  unfold mix
  split
  ·rfl
  ·exact M5 l k _ _
theorem qF{κ:Type}[DecidableEq κ](p:κ×Value)(l:List (κ×Value))(k:κ): rp (p::l) k=if p.1=k then some p.2 else rp l k:=by
 have e:mix (p::l) k 0=if p.1=k then some (0,p.2) else mix l k 1:=rfl
 unfold rp
 rw[e]
 split
 ·rfl
 ·exact M5 l k 1 0
theorem CL{κ:Type}[DecidableEq κ](k k':κ)(v:Value): ∀ l:List (κ×Value),rp (xO l k v) k'=if k=k' then some v else rp l k'
 | []=>by
  unfold xO
  rw[qF]
 | p::l=>by
  unfold xO
  split
  ·rename_i h
   rw[qF,qF]
   dsimp only
   split
   ·rfl
   ·rename_i h2
    rw[ai (by rw[h];exact h2)]
  ·rename_i h
   rw[qF,qF,CL k k' v l]
   split
   ·rename_i h2
    rw[ai (by intro e;exact h (by rw[h2,e]))]
   ·rfl
def wM (l:List Int):List (Int×Value):=l.foldl (fun m k=>xO m k (.bool true)) []
theorem zY(l:List Int)(k:Int): wM (l++[k])=xO (wM l) k (.bool true):=by
 unfold wM
 rw[List.foldl_append]
 rfl
theorem OR(k:Int)(l:List Int): rp (wM l) k=if k∈l then some (.bool true) else none:=by
 induction l using UF with
 | nil=>rfl
 | snoc l x ih =>
  rw[zY,CL,ih]
  by_cases h:x=k
  ·rw[au h,au (by simp[h])]
  ·rw[ai h]
   by_cases h2:k∈l
   ·rw[au h2,au (eW _ h2)]
   ·rw[ai h2,ai (by simp[h2,eq_comm (a:=k),h])]
theorem Qw: Tryz.prog.underlying 162=some (.map 3 4):=by kernel_rfl
theorem TW(σ:al)(g b:Nat)(ids:List Int)(hg:σ.cell ⟨g,0,none⟩=some (.map (some b)))(hM:rH (Value.int .i64) σ b (wM ids))(k:Int):
  bZ Tryz.prog 84 [.a (.v (.int .i64 k)),.a (.v (.pointer (some ⟨g,0,none⟩)))] σ (fun v=>v=.bool (decide (k∈ids))):=by
 refine bW Tryz.func84 Z Z Zl fun w=>?_
 refine Za ?_
 refine oR (c:=.v (.map (some b))) TT Z Z Z Z Z Z Z Z hg trivial (Zr ?_)
 refine Fa (y:=.a (.b (decide (k∈ids)))) (kk:=k) (z:=.bool false) (Ng .i64 rfl) Qw pF Wx Z Z Z Z Z Z ⟨_,rfl,fun _=>rfl⟩ hM trivial ?_ (Zr ?_)
 ·rw[OR]
  by_cases h:k∈ids
  ·rw[au h,bj h]
   rfl
  ·rw[ai h,b7 h]
   rfl
 refine Zb ?_
 refine aw TT rfl fun β w' _ _=>?_
 rfl
theorem iS.k6{σ bD:al}{X:kR}(h:iS σ X)(hle:σ.Bw bD): iS bD X :=
 ⟨h.lT.k6 hle,h.lines.k6 hle,h.gl.k6 hle,fun x hx=>⟨(h.ok x hx).1,(h.ok x hx).2.k6 hle⟩,fun d hd=>⟨(h.doc d hd).1.k6 hle,(h.doc d hd).2.k6 hle⟩⟩
theorem FU(σ:al)(X:kR)(IX:iS σ X)(hl:X.ds.length<=1000)(hd:∀ d∈X.ds,d.ids.length=d.L.length/\d.L.length<=100000)(pa:X.xs.length<=1000000)(ps:List gY)(px:ps.length<=1000000)(po:Option Addr)(pc:Nat)(P:bu σ po ps.length pc 2 (iN ps)):
  fa Tryz.prog 30 [.agg (aA X),.a (.v (.slice po ps.length pc))] σ (fun v bD=>∃ oo oc,v=.slice oo (lX (fun k=>decide (k∈dU X.xs ps)) X.ds).length oc/\bu bD oo (lX (fun k=>decide (k∈dU X.xs ps)) X.ds).length oc 5 (eP (lX (fun k=>decide (k∈dU X.xs ps)) X.ds))):=by
 refine ek Tryz.func30 Z Z ⟨az 0 X,trivial,trivial⟩ fun w=>?_
 refine Za ?_
 refine CE (Value.int .i64) Z Z Z Z Z fun b lQ hb hle hM=>aM TT rfl ?_
 refine Za ?_
 refine bN Z Z Z Z Z Tryz.call82 Zl (Wp lQ X.xs pa X.go X.gc X.next (IX.gl.mono hle) (fun x hx=>(IX.ok x hx).mono hle) ps px po pc (P.mono hle)) fun v nC cw ⟨mo,mc,hv,HI⟩=>⟨.a (.v (.slice mo (dU X.xs ps).length mc)),trivial,hv.symm,?_⟩
 have hM:=rH.mono (Value.int .i64) hM cw
 have IX:=IX.mono (al.le_trans hle cw)
 have LU:(dU X.xs ps).length<=1000000:=ep (yj _ X.xs 0) pa
 generalize dU X.xs ps=ids at *
 refine Hz ?_
 refine fm (fun(s:al)=>s) (fun _=>[(2,.a (.p 0 0)),(5,.a (.p 1 0))]) (fun _=>[(0,.loc 60,aA X),(1,.loc 162,[.v (.map (some b))])]) (fun _=>[]) 2 (fun s=>nC.Bw s/\rH (Value.int .i64) s b (wM ids)) ?_ (fun s ⟨hs,hM⟩=>?_)
 ·refine gC (fun(s:al) (_:Nat)=>s) (fun _ (k:Nat)=>[(2,.a (.p 0 0)),(5,.a (.p 1 0)),(12,.a (.v (.slice mo ids.length mc))),(13,.a (.v (.int .i64 ids.length))),(14,.a (.v (.int .i64 k)))]) (fun _ _=>[(0,.loc 60,aA X),(1,.loc 162,[.v (.map (some b))])]) (fun _ _=>[]) 2
   (fun s k=>k<=ids.length/\nC.Bw s/\rH (Value.int .i64) s b (wM (ids.take k))) (fun _ k=>ids.length - k) nC 0 ⟨ay _,al.Tn _,hM⟩ rfl Zs Zs rfl Zl Zl fun s k ⟨hk,hs,hM⟩=>?_
  refine Za ?_
  refine aG rfl (fun h=>?_) (fun h=>?_)
  rotate_left
  ·have fQ:k=ids.length:=by have:=ab h;omega
   rw[fQ,aI] at hM
   refine Ze ?_
   refine an s ⟨hs,hM⟩ aj rfl Zs Zs rfl Zl Zl
  have cz:k<ids.length:=by have:=ae h;omega
  have bU:=lg (aa cz)
  have ac5:ids.take (k+1)=ids.take k++[ids[k]]:=ak cz
  generalize ids[k]=x at *
  refine Zd ?_
  refine bk TT Z Z Z Z Z Z Z Z Z (HI.k6 hs) Zo bU (Zr ?_)
  refine Za ?_
  refine xL (kk:=x) (vv:=.bool true) (Ng .i64 rfl) Qw pF Z Z Z Z Z ⟨_,rfl,fun _=>rfl⟩ ⟨_,rfl,fun _=>rfl⟩ hM (al.l7 (al.le_refl _) hb) fun s' Vt _ YT=>aM TT rfl ?_
  refine Zc ?_
  rw[<-zY,<-ac5] at YT
  refine an (s',k+1) ⟨cz,al.FO hs Vt,YT⟩ (by dsimp only;omega) rfl Zs Zs rfl Zl Zl
 have IX:=IX.k6 hs
 refine zM 1 1 1 rfl Zl rfl (by decide) fun g=>?_
 refine vL 0 Z Z fun s1 cP hS=>?_
 have hg:=Dz hS
 have hM:=rH.mono (Value.int .i64) hM cP
 have IX:=IX.mono cP
 refine Za ?_
 refine cr 21 (.agg (aA X)) rfl (az _ _) (fun _=>rfl) ?_
 refine bN Z Z Z Z Z Tryz.call83 ⟨az 0 X,NH 84 g,trivial⟩ (ai2 s1 X IX hl hd 84 [.val (.pointer (some ⟨g,0,none⟩))] ⟨trivial,trivial⟩ Tryz.call84 (NH 84 g) (fun k=>decide (k∈ids)) fun k=>TW s1 g b ids hg hM k) fun v s2 cw ⟨oo,oc,hv,HO⟩=>⟨.a (.v (.slice oo (lX (fun k=>decide (k∈ids)) X.ds).length oc)),trivial,hv.symm,?_⟩
 refine gn ?_
 refine aw TT rfl fun β w' _ _=>?_
 exact⟨oo,oc,rfl,HO⟩
end Go.Sy
namespace Go.Sy
open Go.Proofs
theorem Im{σ:al}{g:aJ}{r:List AT}(hr:eQ σ g r){aK:Int}(hg:1<=aK)(sQ:aK<=1000)(hw:g.weight<=4000)(hs:kU g=0){L:List aH}(hL:L=(bG aK g 0 false bF 0).1):
  L.length=nG g/\L.length<=g.weight/\0<L.length/\eG L=true/\rT L/\lK L=(g,0):=by
 subst hL
 have af6:=ta aK g 0 false bF 0 hr.wf
 obtain⟨Nq,ae5⟩:=jQ aK g 0 false bF 0
 have lj:=wF aK g _ 0 false bF 0 hr (by decide)
 have mT:=uY g
 have ar1:=(qA (aK:=aK) g 0 false bF 0 Zo sQ).2
 have qu:lK (bG aK g 0 false bF 0).1=(g,0):=by
  have:=G8 (φ:=fun x=>x) (fun a b _ h=>h) (aK:=aK) Zo Zo g hr.wf hs Zo Zo
  rw[QC,List.map_id] at this
  exact this
 have hBG:fB (bG aK g 0 false bF 0).1=(g,[]):=by
  have:=u3 (fun x=>x) aK g false bF 0 hr.wf
  rw[QC,List.map_id] at this
  exact this
 have Yg:eG (bG aK g 0 false bF 0).1=true:=by
  unfold eG
  rw[qu]
  rfl
 exact⟨af6,Nq,by omega,Yg,⟨by simp only[bJ];omega,lj,fun _=>by rw[hBG];show g.weight<=_;omega⟩,qu⟩
end Go.Sy
namespace Go.Sy
mutual
inductive jf:aJ->Int->Bool->ByteArray->Int->List aH->Int->Prop
 | mk {g:aJ} {lv:Int} {nm:Bool} {name:ByteArray} {lo st en m hi:Int} {K:List aH} (h1:lo<st) (h2:nH (jt g) (lv+1) st K m) (h3:m<en) (h4:en<=hi):jf g lv nm name lo (⟨st,en,lv,g.kind,nm,name,g.b,g.n,g.s⟩::K) hi
inductive nH:List mg->Int->Int->List aH->Int->Prop
 | nil {lv lo hi:Int} (h:lo<=hi):nH [] lv lo [] hi
 | cons {x:mg} {xs:List mg} {lv lo mid hi:Int} {A B:List aH} (h1:jf x.v lv x.nm x.name lo A mid) (h2:nH xs lv mid B hi):nH (x::xs) lv lo (A++B) hi
end
mutual
theorem jf.le: ∀ {g:aJ} {lv:Int} {nm:Bool} {name:ByteArray} {lo hi:Int} {L:List aH},jf g lv nm name lo L hi->lo+2<=hi
 | _,_,_,_,_,_,_,.mk h1 h2 h3 h4=>by have:=h2.le;omega
theorem nH.le: ∀ {xs:List mg} {lv lo hi:Int} {L:List aH},nH xs lv lo L hi->lo<=hi
 | _,_,_,_,_,.nil h=>h
 | _,_,_,_,_,.cons h1 h2=>by have:=h1.le;have:=h2.le;omega
end
mutual
theorem jf.bd: ∀ {g:aJ} {lv:Int} {nm:Bool} {name:ByteArray} {lo hi:Int} {L:List aH},jf g lv nm name lo L hi->∀ r∈L,lo<r.st/\r.st<r.en/\r.en<=hi
 | _,_,_,_,_,_,_,.mk h1 h2 h3 h4=>by
  intro r hr
  have hl:=h2.le
  rcases bM.1 hr with rfl | hr
  ·dsimp only
   omega
  ·have:=h2.bd r hr
   omega
theorem nH.bd: ∀ {xs:List mg} {lv lo hi:Int} {L:List aH},nH xs lv lo L hi->∀ r∈L,lo<r.st/\r.st<r.en/\r.en<=hi
 | _,_,_,_,_,.nil h=>by intro r hr;cases hr
 | _,_,_,_,_,.cons h1 h2=>by
  intro r hr
  have:=h1.le
  have:=h2.le
  rcases bz.1 hr with hr | hr
  ·have:=h1.bd r hr;omega
  ·have:=h2.bd r hr;omega
end
mutual
theorem jf.len: ∀ {g:aJ} {lv:Int} {nm:Bool} {name:ByteArray} {lo hi:Int} {L:List aH},jf g lv nm name lo L hi->g.wf->L.length=nG g
 | _,_,_,_,_,_,_,.mk h1 h2 h3 h4,hw=>by
  rw[List.length_cons,h2.len (sS hw),yb hw]
  omega
theorem nH.len: ∀ {xs:List mg} {lv lo hi:Int} {L:List aH},nH xs lv lo L hi->aJ.pS (gk xs)->L.length=lk xs
 | _,_,_,_,_,.nil h,_=>rfl
 | _,_,_,_,_,.cons h1 h2,hw=>by
  simp only[gk,bx,aJ.pS] at hw
  rw[af,h1.len hw.1,h2.len hw.2]
  rfl
end
mutual
theorem BW{aK:Int}(hg:0<aK): ∀(n:Nat) (g:aJ),nG g<=n->g.wf->∀(lv:Int) (nm:Bool) (name:ByteArray) (now:Int),jf g lv nm name now (bG aK g lv nm name now).1 (now+wV aK g)
 | 0,g,hn,_,_,_,_,_=>by have:=uY g;omega
 | n+1,g,hn,hw,lv,nm,name,now=>by
  rw[oL aK g lv nm name now hw]
  have hc:=yb hw
  have hl:=B5 hg n (jt g) Zo (sS hw) (lv+1) (now+aK)
  have hwe:=Qm (aK:=aK) hw
  exact .mk Zo hl Zo Zo
termination_by n=>(n,0)
theorem B5{aK:Int}(hg:0<aK): ∀(n:Nat) (xs:List mg),lk xs<=n->aJ.pS (gk xs)->∀(lv now:Int),nH xs lv now (gZ aK xs lv now).1 (now+wI aK xs)
 | _,[],_,_,_,now=>.nil (by unfold wI;simp[gk,wL])
 | n,x::xs,hn,hw,lv,now=>by
  simp only[gk,bx,aJ.pS] at hw
  have hc:lk (x::xs)=nG x.v+lk xs:=rfl
  have he:wI aK (x::xs)=wV aK x.v+wI aK xs:=rfl
  have hs:=(oK aK x.v lv x.nm x.name now hw.1).2
  have h1:=BW hg n x.v Zo hw.1 lv x.nm x.name now
  have h2:=B5 hg n xs Zo hw.2 lv (now+wV aK x.v)
  unfold gZ
  dsimp only
  rw[hs,he,<-Int.add_assoc]
  exact .cons h1 h2
termination_by n xs=>(n,xs.length+1)
end
theorem EL{aK:Int}(hg:0<aK){g:aJ}(hw:g.wf)(lv:Int)(nm:Bool)(name:ByteArray)(now:Int): jf g lv nm name now (bG aK g lv nm name now).1 (now+wV aK g):=BW hg _ g (aq _) hw lv nm name now
mutual
theorem jf.map{φ:Int->Int}(KC:Ws φ): ∀ {g:aJ} {lv:Int} {nm:Bool} {name:ByteArray} {lo hi:Int} {L:List aH},jf g lv nm name lo L hi->0<=lo->jf g lv nm name (φ lo) (L.map (rY φ)) (φ hi)
 | _,_,_,_,lo,hi,_,.mk (st:=st) (en:=en) (m:=m) h1 h2 h3 h4,h0=>by
  have hl:=h2.le
  have a1:=KC lo st h0 h1
  have a2:=KC m en Zo h3
  have a3:φ en<=φ hi:=by
   by_cases he:en=hi
   ·rw[he];exact dB _
   ·have:=KC en hi Zo Zo;omega
  exact .mk a1 (h2.map KC Zo) a2 a3
theorem nH.map{φ:Int->Int}(KC:Ws φ): ∀ {xs:List mg} {lv lo hi:Int} {L:List aH},nH xs lv lo L hi->0<=lo->nH xs lv (φ lo) (L.map (rY φ)) (φ hi)
 | _,_,lo,hi,_,.nil h,h0=>by
  refine .nil ?_
  by_cases he:lo=hi
  ·rw[he];exact dB _
  ·have:=KC lo hi h0 Zo;omega
 | _,_,_,_,_,.cons h1 h2,h0=>by
  have:=h1.le
  rw[aF]
  exact .cons (h1.map KC h0) (h2.map KC Zo)
end
mutual
theorem jf.nest: ∀ {g:aJ} {lv:Int} {nm:Bool} {name:ByteArray} {lo hi:Int} {L:List aH},jf g lv nm name lo L hi->∀(k:Nat) (vQ ro:List aH) (jH last:Int) (rest:List aH),Uo lv vQ jH ro last->0<=lv->decide (lv=0)=decide ((k:Int)=0)->last<=lo ->
  ∃ ra iw oA,Uo lv ra iw ro oA/\oA<=hi/\eL k vQ jH (L++rest)=eL (k+L.length) ra iw rest
 | g,lv,nm,name,lo,hi,_,.mk (st:=st) (en:=en) (m:=m) (K:=K) h1 h2 h3 h4,k,vQ,ro,jH,last,rest,hA,h0,hk,hl=>by
  have hlen:=hA.len
  have hle:=hA.le
  simp only[aZ,eL]
  rw[ai (by rw[hk];simp;omega),hA.cl]
  dsimp only
  rw[ai Zo]
  generalize Es:(⟨st,en,lv,g.kind,nm,name,g.b,g.n,g.s⟩:aH)=r0
  have JH:r0.en=en:=by rw[<-Es]
  obtain⟨ra,iw,oA,Ma,Hw,VG⟩:=h2.nest (k+1) (r0::ro) (r0::ro) st st rest
   ⟨mG _ (by simp only[List.length_cons];omega),by simp only[List.length_cons];omega,by simp only[List.length_cons];omega⟩ Zo (Nat.succ_pos k) (dB _)
  refine⟨ra,iw,en,⟨?_,hlen,by have:=Ma.le;omega⟩,h4,?_⟩
  ·obtain⟨x,hx⟩:=qR _ _ _ _ Ma.cl
   have hx:ra=x++(r0::ro):=hx
   have DU:(((r0::ro).length:Nat):Int)=lv+1:=Ma.len
   have nZ:=Ma.cl
   rw[<-DU,hx] at nZ
   rw[hx,rQ x (r0::ro) iw oA nZ lv Zo,gy,au Zo,ai Zo,JH]
   exact mG _ hlen
  ·rw[VG,List.length_cons]
   congr 1
   omega
theorem nH.nest: ∀ {xs:List mg} {lv lo hi:Int} {L:List aH},nH xs lv lo L hi->∀(k:Nat) (vQ ro:List aH) (jH last:Int) (rest:List aH),Uo lv vQ jH ro last->1<=lv->0<k->last<=lo ->
  ∃ ra iw oA,Uo lv ra iw ro oA/\oA<=hi/\eL k vQ jH (L++rest)=eL (k+L.length) ra iw rest
 | _,_,_,_,_,.nil h,k,vQ,ro,jH,last,rest,hA,h0,hk,hl=>⟨vQ,jH,last,hA,by omega,rfl⟩
 | _,lv,_,_,_,.cons (A:=A) (B:=B) h1 h2,k,vQ,ro,jH,last,rest,hA,h0,hk,hl=>by
  rw[av,af]
  obtain⟨ra,iw,oA,Ma,Hw,VG⟩:=h1.nest k vQ ro jH last (B++rest) hA Zo (by rw[b7 Zo,b7 Zo]) hl
  obtain⟨xC,Aj,CQ,Uf,ZI,YK⟩:=h2.nest (k+A.length) ra ro iw oA rest Ma h0 Zo Hw
  exact⟨xC,Aj,CQ,Uf,ZI,by rw[VG,YK,j7]⟩
end
theorem jf.nested{g:aJ}{nm:Bool}{name:ByteArray}{lo hi:Int}{L:List aH}(h:jf g 0 nm name lo L hi)(h0:-1<=lo): gK L=true:=by
 unfold gK
 obtain⟨ra,iw,oA,hA,-,he⟩:=h.nest 0 [] [] (-1) (-1) [] ⟨rfl,rfl,dB _⟩ (dB _) rfl h0
 rw[aL] at he
 rw[he,eL,uZ ra iw _ hA.cl,cp]
 cases h
 rw[List.length_cons]
 exact bj Zo
def er (r:aH):aH:=rY (fun _=>0) r
mutual
theorem jf.At: ∀ {g:aJ} {lv:Int} {nm:Bool} {name:ByteArray} {lo hi:Int} {L:List aH},jf g lv nm name lo L hi->g.wf->∀(aK now:Int),L.map er=(bG aK g lv nm name now).1.map er
 | _,lv,nm,name,_,_,_,.mk h1 h2 h3 h4,hw,aK,now=>by
  rw[oL aK _ lv nm name now hw,bx,bx,h2.At (sS hw) aK (now+aK)]
  rfl
theorem nH.At: ∀ {xs:List mg} {lv lo hi:Int} {L:List aH},nH xs lv lo L hi->aJ.pS (gk xs)->∀(aK now:Int),L.map er=(gZ aK xs lv now).1.map er
 | _,_,_,_,_,.nil h,_,_,_=>rfl
 | x::xs,lv,_,_,_,.cons h1 h2,hw,aK,now=>by
  simp only[gk,bx,aJ.pS] at hw
  unfold gZ
  rw[aF,aF,h1.At hw.1 aK now,h2.At hw.2 aK (bG aK x.v lv x.nm x.name now).2]
end
theorem xN: ∀(L:List aH) (op:List Int),eU op (L.map er)=eU op L
 | [],_=>rfl
 | r::l,op=>by
  have ih:=xN l (op.take r.lv.toNat++[r.kd])
  rw[bx,eU,eU]
  show(if _ then false else eU (op.take r.lv.toNat++[r.kd]) (l.map er))=_
  rw[ih]
  rfl
mutual
theorem FP: ∀(n:Nat) (L:List aH),eY n (L.map er)=((eY n L).1,(eY n L).2.map er)
 | 0,_=>rfl
 | _+1,[]=>rfl
 | n+1,r::l=>by
  rw[bx,eY,eY,show(er r).lv=r.lv from rfl,Jn n r.lv l]
  rfl
theorem Jn: ∀(n:Nat) (lv:Int) (L:List aH),dQ n lv (L.map er)=⟨(dQ n lv L).ls,(dQ n lv L).ks,(dQ n lv L).vs,(dQ n lv L).rest.map er⟩
 | 0,_,_=>rfl
 | _+1,_,[]=>rfl
 | n+1,lv,k::l=>by
  have h1:=FP n (k::l)
  rw[bx] at h1
  rw[bx,dQ,dQ,h1]
  dsimp only
  rw[Jn n lv (eY n (k::l)).2]
  show(if lv<k.lv then if k.nm=true then _ else _ else _)=_
  by_cases ha:lv<k.lv
  ·rw[au ha,au ha]
   by_cases hb:k.nm=true
   ·rw[au hb,au hb];rfl
   ·rw[ai hb,ai hb]
  ·rw[ai ha,ai ha]
   rfl
end
theorem jf.named{g:aJ}{lo hi:Int}{L:List aH}(h:jf g 0 false bF lo L hi)(hw:g.wf)(hk:kindOk g): m7 L=true:=by
 have h1:=Ab (fun _=>0) 1 g hk
 have h2:=h.At hw 1 0
 unfold m7 at h1 ⊢
 rw[<-xN,h2]
 exact h1
theorem jf.built{g:aJ}{nm:Bool}{name:ByteArray}{lo hi:Int}{L:List aH}(h:jf g 0 nm name lo L hi)(hw:g.wf): fB L=(g,[]):=by
 have h1:=u3 (fun _=>0) 1 g nm name 0 hw
 have h2:=h.At hw 1 0
 have hl:=aN List.length h2
 rw[aR,aR] at hl
 unfold fB at h1 ⊢
 have h3:=FP (jb L) L
 rw[h2] at h3
 have he:jb ((bG 1 g 0 nm name 0).1.map (rY fun _=>0))=jb L:=by unfold jb;rw[aR,hl]
 rw[he] at h1
 have h4:(((eY (jb L) L).1,(eY (jb L) L).2.map er):aJ×List aH)=(g,[]):=by rw[<-h3];exact h1
 have h5:=aN Prod.fst h4
 have h6:=aN Prod.snd h4
 dsimp only at h5 h6
 rw[List.map_eq_nil_iff] at h6
 rw[<-h5,<-h6]
theorem jf.lK{g:aJ}{lo hi:Int}{L:List aH}(h:jf g 0 false bF lo L hi)(h0:-1<=lo)(hw:g.wf)(hs:kU g=0)(hl:L.length<=4096)(JH:hi<=1099511627776): Go.Sy.lK L=(g,0):=by
 have h1:=h.nested h0
 have h2:=h.named hw (yI g 0 0 hw hs)
 have h3:=h.built hw
 unfold Go.Sy.lK
 rw[ai,ai,h3]
 ·rw[h3];simp[hs]
 ·rw[h1,h2]
  have h4:(L.head?.map aH.en).getD 0<=1099511627776:=by
   cases h with
   | mk a b c d=>show _<=_;dsimp only[List.head?_cons,Option.map_some,Option.getD_some];omega
  rintro(h | h | h | h)
  ·omega
  ·cases h
  ·cases h
  ·omega
end Go.Sy
namespace Go.Sy
def xR (L:List aH) (i:Nat):Int:=(L[i]?.map aH.lv).getD 0
def D9 (r:aH):Nat:=1+r.s.size+r.n.dg.size+r.name.size
def gJ:List aH->Nat
 | []=>0
 | r::l=>D9 r+gJ l
theorem pX: ∀ a b:List aH,gJ (a++b)=gJ a+gJ b
 | [],b=>by simp[gJ]
 | r::a,b=>by simp only[aZ,gJ,pX a b];omega
theorem yN: ∀ L:List aH,L.length<=gJ L
 | []=>aq _
 | r::l=>by have:=yN l;simp only[List.length_cons,gJ,D9];omega
theorem YZ{L M:List aH}(h:L.map er=M.map er)(k:Nat): (L[k]?.map er)=(M[k]?.map er):=by
 have:=aN (fun l:List aH=>l[k]?) h
 simpa using this
theorem S8{L M:List aH}(h:L.map er=M.map er)(k:Nat): xR L k=xR M k:=by
 have:=aN (fun o:Option aH=>(o.map aH.lv).getD 0) (YZ h k)
 have h0:∀ o:Option aH,((o.map er).map aH.lv).getD 0=(o.map aH.lv).getD 0:=fun o=>by cases o<;>rfl
 unfold xR
 rw[<-h0,this,h0]
end Go.Sy
namespace Go.Sy
open Go.Proofs
mutual
theorem jf.XX: ∀ {g:aJ} {lv:Int} {nm:Bool} {name:ByteArray} {lo hi:Int} {L:List aH},jf g lv nm name lo L hi->∀ r∈L,lv<=r.lv/\r.lv<lv+L.length
 | _,_,_,_,_,_,_,.mk h1 h2 h3 h4=>by
  intro r hr
  rw[List.length_cons]
  rcases bM.1 hr with rfl | hr
  ·dsimp only
   omega
  ·have:=h2.XX r hr
   omega
theorem nH.XX: ∀ {xs:List mg} {lv lo hi:Int} {L:List aH},nH xs lv lo L hi->∀ r∈L,lv<=r.lv/\r.lv<lv+L.length
 | _,_,_,_,_,.nil h=>by intro r hr;cases hr
 | _,_,_,_,_,.cons h1 h2=>by
  intro r hr
  rw[af]
  rcases bz.1 hr with hr | hr
  ·have:=h1.XX r hr;omega
  ·have:=h2.XX r hr;omega
end
end Go.Sy
namespace Go.Sy
open Go.Proofs
theorem r9{L:List aH}(h:eG L=true): L.length<=4096/\gK L=true/\m7 L=true/\((L.head?.map aH.en).getD 0)<=1099511627776/\kU (fB L).1=0:=by
 unfold eG at h
 have h:=ae h
 unfold lK at h
 split at h
 ·exact absurd h (by decide)
 ·rename_i h1
  split at h
  ·exact absurd h (by decide)
  ·rename_i h2
   refine⟨?_,?_,?_,?_,?_⟩
   ·exact Nat.not_lt.1 fun hc=>h1 (.inl Zo)
   ·cases hn:gK L with
    | true=>rfl
    | false=>exact absurd (.inr (.inl hn)) h1
   ·cases hn:m7 L with
    | true=>rfl
    | false=>exact absurd (.inr (.inr (.inl hn))) h1
   ·exact Int.not_lt.1 fun hc=>h1 (.inr (.inr (.inr Zo)))
   ·simpa using h2
theorem Fk: ∀(L:List aH) (m:Nat),kr m L->∀ r∈L,0<=r.lv/\r.lv<=m+L.length
 | [],_,_,r,hr=>by cases hr
 | x::l,m,⟨h1,h2,h3⟩,r,hr=>by
  rw[List.length_cons]
  rcases bM.1 hr with rfl | hr
  ·exact⟨h1,by omega⟩
  ·have:=Fk l _ h3 r hr
   omega
theorem Ga{L:List aH}(h:eG L=true): ∀ r∈L,0<=r.lv/\r.lv<=L.length:=by
 have h1:=(r9 h).2.1
 unfold gK at h1
 rw[aQ] at h1
 have:=Fk L 0 (rn L 0 [] (-1) h1.1)
 intro r hr
 have:=this r hr
 omega
mutual
theorem Gf(aK:Int): ∀(g:aJ) (lv:Int) (nm:Bool) (name:ByteArray) (now:Int),gJ (bG aK g lv nm name now).1<=g.weight+name.size
 | .mk k b n s l ks vs,lv,nm,name,now=>by
  have h1:=MP aK l (lv+1) (now+aK)
  have h2:=MO aK vs ks (lv+1) (cN aK l (lv+1) (now+aK)).2
  simp only[bG,gJ,pX,D9,aJ.weight]
  omega
theorem MP(aK:Int): ∀(gs:List aJ) (lv now:Int),gJ (cN aK gs lv now).1<=aJ.weights gs
 | [],_,_=>by simp[cN,gJ,aJ.weights]
 | g::gs,lv,now=>by
  have h1:=Gf aK g lv false ⟨#[]⟩ now
  have h2:=MP aK gs lv (bG aK g lv false ⟨#[]⟩ now).2
  have h3:(⟨#[]⟩:ByteArray).size=0:=rfl
  simp only[cN,pX,aJ.weights]
  omega
theorem MO(aK:Int): ∀(gs:List aJ) (ks:List ByteArray) (lv now:Int),gJ (cU aK gs ks lv now).1<=aJ.weights gs+mQ ks
 | [],_,_,_=>by simp[cU,gJ]
 | _::_,[],_,_=>by simp[cU,gJ]
 | g::gs,k::ks,lv,now=>by
  have h1:=Gf aK g lv true k now
  have h2:=MO aK gs ks lv (bG aK g lv true k now).2
  simp only[cU,pX,aJ.weights,mQ]
  omega
end
end Go.Sy
namespace Go.Sy
open Go.Proofs
theorem V8{σ:al}{g:Nat}{xs:List Value}(hx:xs=(iN [kx]).flatten.map AT.val)(hS:b9 σ ⟨some ⟨g,0,none⟩,1,1,65,2,xs⟩): bu σ (some ⟨g,0,none⟩) 1 1 2 (iN [kx]) :=
 hS.sl hx (fun r hr=>by
  simp only[iN,bx,gi,aU] at hr
  subst hr
  exact⟨rfl,by simp[mz,AT.lt]⟩) Z Z (aq _)
end Go.Sy
namespace Go.Sy
theorem xV{aK:Int}(hg:0<aK){L:List aH}{h:aJ}{p:Nat}{now:Int}{pre:List GStep}(hl:Loc aK L h p now pre): (lN L p).length=(jt h).length/\∀(m:Nat) (x:mg),(jt h)[m]?=some x->(lN L p)[m]?=some (p+1+lk ((jt h).take m)):=by
 have hk:=hl.kids hg
 have hv:=nL hl.wf
 have hlen:(jt h).length=(h.l++h.vs).length:=by rw[<-hv];simp[gk]
 have px:∀(gs:List aJ) (p:Nat),(pos gs p).length=gs.length:=by
  intro gs
  induction gs with
  | nil=>intro _;rfl
  | cons g gs ih=>intro p;rw[pos,List.length_cons,List.length_cons,ih]
 rw[hk]
 refine⟨by rw[px,hlen],fun m x hx=>?_⟩
 have hm:=(ah.1 hx).1
 rw[xF _ _ _ Zo]
 congr 2
 rw[<-hv]
 unfold lk gk
 rw[dG]
end Go.Sy
namespace Go.Sy
theorem LB{g:aJ}{x:mg}(hx:x∈jt g): x.name.size<=g.weight:=by
 rcases bz.1 hx with hm | hm
 ·obtain⟨y,_,rfl⟩:=bL.1 hm
  exact ay _
 ·obtain⟨m,hm'⟩:=List.mem_iff_getElem?.1 hm
  have h1:=QI (aC (CS _ _ _ _ hm').2.1)
  rw[g.mq]
  omega
mutual
theorem jf.SU: ∀ {g:aJ} {lv:Int} {nm:Bool} {name:ByteArray} {lo hi:Int} {L:List aH},jf g lv nm name lo L hi->∀ {c:Nat},g.wf->g.weight<=c->name.size<=c->∀ r∈L,r.n.dg.size<=c/\r.s.size<=c/\r.name.size<=c
 | g,_,_,_,_,_,_,.mk h1 h2 h3 h4,c,hw,hg,hn=>by
  intro r hr
  have he:=g.mq
  rcases bM.1 hr with rfl | hr
  ·exact⟨by dsimp only;omega,by dsimp only;omega,hn⟩
  ·exact h2.SU (fun x hx=>⟨LA hw hx,by have:=vD (Bl hw hx);omega,by have:=LB hx;omega⟩) r hr
theorem nH.SU: ∀ {xs:List mg} {lv lo hi:Int} {L:List aH},nH xs lv lo L hi->∀ {c:Nat},(∀ x∈xs,x.v.wf/\x.v.weight<=c/\x.name.size<=c)->∀ r∈L,r.n.dg.size<=c/\r.s.size<=c/\r.name.size<=c
 | _,_,_,_,_,.nil h,_,_=>fun r hr=>by cases hr
 | x::xs,_,_,_,_,.cons h1 h2,c,hx=>by
  intro r hr
  have h0:=hx x a8
  rcases bz.1 hr with hr | hr
  ·exact h1.SU h0.1 h0.2.1 h0.2.2 r hr
  ·exact h2.SU (fun y hy=>hx y (ba _ hy)) r hr
end
theorem jf.fit{g:aJ}{lo hi:Int}{L:List aH}(h:jf g 0 false bF lo L hi)(hw:g.wf)(hg:g.weight<=bJ): qj L:=h.SU hw hg (ay _)
theorem OY{g:aJ}{lo hi:Int}{L:List aH}(h:jf g 0 false bF lo L hi)(h0:-1<=lo)(hw:g.wf)(hs:kU g=0)(hl:L.length<=4096)(JH:hi<=1099511627776): eG L=true:=by
 unfold eG
 rw[h.lK h0 hw hs hl JH]
 rfl
end Go.Sy
namespace Go.Sy
mutual
def rl:aJ->Int->Prop
 | .mk k b n s l ks vs,deep=>fU (.mk k b n s l ks vs)=true/\pG ks=false/\¬ (4<=k/\64<=deep)/\rm l (deep+1)/\rm vs (deep+1)
def rm:List aJ->Int->Prop
 | [],_=>True
 | g::gs,deep=>rl g deep/\rm gs deep
end
theorem Rw(g:aJ)(deep:Int): rl g deep↔fU g=true/\pG g.ks=false/\¬ (4<=g.kind/\64<=deep)/\rm g.l (deep+1)/\rm g.vs (deep+1):=by
 cases g
 simp only[rl,aJ.ks,aJ.kind,aJ.l,aJ.vs]
theorem E9: ∀ {gs:List aJ} {deep:Int},rm gs deep↔∀ g∈gs,rl g deep
 | [],_=>⟨fun _ g h=>(by cases h),fun _=>trivial⟩
 | g::gs,deep=>by
  simp only[rm,bM,forall_eq_or_imp,E9 (gs:=gs)]
mutual
theorem MK: ∀(g:aJ) (deep c:Int),(fW g deep c).1=0->rl g deep/\(fW g deep c).2=c+nG g/\c+nG g<=4096
 | .mk k b n s l ks vs,deep,c,h=>by
  simp only[fW] at h ⊢
  split at h
  ·simp at h
  rename_i h1
  split at h
  ·simp at h
  rename_i h2
  split at h
  ·simp at h
  rename_i h3
  split at h
  ·simp at h
  rename_i h4
  rw[ai h1,ai h2,ai h3,ai h4]
  have hl:(gI l deep (c+1)).1=0:=by
   by_cases h0:(gI l deep (c+1)).1=0
   ·exact h0
   ·rw[au h0] at h;exact h
  rw[ai (by simp[hl])] at h ⊢
  obtain⟨a1,a2,a3⟩:=B6 l deep (c+1) Zo hl
  rw[a2] at h ⊢
  obtain⟨b1,b2,b3⟩:=B6 vs deep _ a3 h
  simp only[rl,nG]
  refine⟨⟨by simpa using h1,by simpa using h2,h3,a1,b1⟩,by rw[b2];omega,by omega⟩
theorem B6: ∀(gs:List aJ) (deep c:Int),c<=4096->(gI gs deep c).1=0->rm gs (deep+1)/\(gI gs deep c).2=c+lD gs/\c+lD gs<=4096
 | [],_,c,hc,_=>⟨trivial,by simp[gI,lD],by simp[lD];omega⟩
 | g::gs,deep,c,hc,h=>by
  simp only[gI] at h ⊢
  have hg:(fW g (deep+1) c).1=0:=by
   by_cases h0:(fW g (deep+1) c).1=0
   ·exact h0
   ·rw[au h0] at h;exact h
  rw[ai (by simp[hg])] at h ⊢
  obtain⟨a1,a2,a3⟩:=MK g (deep+1) c hg
  rw[a2] at h ⊢
  obtain⟨b1,b2,b3⟩:=B6 gs deep _ a3 h
  simp only[rm,lD]
  exact⟨⟨a1,b1⟩,by rw[b2];omega,by omega⟩
end
mutual
theorem MU: ∀(g:aJ) (deep c:Int),rl g deep->c+nG g<=4096->fW g deep c=(0,c+nG g)
 | .mk k b n s l ks vs,deep,c,h,hc=>by
  simp only[rl,nG] at h hc
  obtain⟨h1,h2,h3,h4,h5⟩:=h
  simp only[fW]
  rw[ai (by rw[h1];decide),ai (by rw[h2];decide),ai h3,ai Zo,CC l deep (c+1) h4 Zo]
  rw[ai (fun h=>h rfl),CC vs deep _ h5 Zo]
  simp only[nG]
  congr 1
  omega
theorem CC: ∀(gs:List aJ) (deep c:Int),rm gs (deep+1)->c+lD gs<=4096->gI gs deep c=(0,c+lD gs)
 | [],_,c,_,_=>by simp[gI,lD]
 | g::gs,deep,c,h,hc=>by
  simp only[rm,lD] at h hc
  rw[gI,MU g (deep+1) c h.1 Zo,ai (fun h=>h rfl),CC gs deep _ h.2 Zo]
  simp only[lD]
  congr 1
  omega
end
theorem Iu{g:aJ}: kU g=0↔rl g 0/\nG g<=4096:=by
 unfold kU
 constructor
 ·intro h
  obtain⟨h1,-,h3⟩:=MK g 0 0 h
  exact⟨h1,by omega⟩
 ·intro ⟨h1,h2⟩
  rw[MU g 0 0 h1 Zo]
end Go.Sy
namespace Go.Sy
open Go.Proofs
theorem Ou{P:Program}{w:World}{t:TypeId}{xs:Array Value}{o n:Nat}{d:TypeDesc}(hu:P.underlying t=some d)(hd:AY d=true)(hn:P.cellsOf t=n): (part t xs o).run P w=.ok (.agg (xs.extract o (o+n))) w:=by
 simp only[part,Sem.run_bind,jK hu,hd,Result.andThen_ok,if_true,oO hn hu,Sem.run_pure]
def km (r:aH):Array Value:=#[.int .i64 r.st,.int .i64 r.en,.int .i64 r.lv,.int .i64 r.kd,.bool r.nm,.string r.name,.bool r.b,.bool r.n.neg,.string r.n.dg,.int .i64 r.n.ex,.string r.s]
section
variable {cf:Cf} {Q:Exit->Act->World->Prop} {σ:al} {env:Env} {hp:HP} {A:List AE} {nh:Nat} {it:Item} {rest:List Item}
end
end Go.Sy
namespace Go.Sy
open Go.Proofs
def jE (x:cq):Array Value:=#[.int .i64 x.doc,.int .i64 x.at_,.int .i64 x.st,.int .i64 x.en,.int .i64 x.lv]
theorem Z5: Tryz.prog.underlying 71=some (.struct (Tryz.prog.fieldsOf 71)):=by kernel_rfl
theorem PA(m:Nat)(a b:cq)(w:World): (Op.equalIn (m+1+1) 71 (.agg (jE a)) (.agg (jE b))).run Tryz.prog w=.ok (decide (a=b)) w:=by
 rw[run_equalIn_agg w (m+1) 71 _ _ Z5 Zk]
 have h:mF (Tryz.prog.fieldsOf 71).toList [(3,0),(3,1),(3,2),(3,3),(3,4)]=true:=by kernel_rfl
 generalize (Tryz.prog.fieldsOf 71).toList=fl at h
 obtain⟨f0,fl,rfl,n0,t0,o0,h⟩:=cA h
 obtain⟨f1,fl,rfl,n1,t1,o1,h⟩:=cA h
 obtain⟨f2,fl,rfl,n2,t2,o2,h⟩:=cA h
 obtain⟨f3,fl,rfl,n3,t3,o3,h⟩:=cA h
 obtain⟨f4,fl,rfl,n4,t4,o4,h⟩:=cA h
 cases fl with
 | cons _ _=>cases h
 | nil =>
  have ii:∀(f:Field) (o:Nat) (r:cq) (x:Int),f.type=3->f.offset=o->(jE r)[o]?=some (.int .i64 x)->(part f.type (jE r) f.offset).run Tryz.prog w=.ok (.int .i64 x) w:=fun f o r x ht ho hx=>jg (by rw[ht];exact pF) rfl (by rw[ho];exact hx)
  rw[cW (r:=a.doc == b.doc) n0 (ii f0 0 a _ t0 o0 rfl) (ii f0 0 b _ t0 o0 rfl) (run_equalIn_int w m f0.type .i64 .i64 a.doc b.doc (by rw[t0];exact pF))]
  rw[cW (r:=a.at_ == b.at_) n1 (ii f1 1 a _ t1 o1 rfl) (ii f1 1 b _ t1 o1 rfl) (run_equalIn_int w m f1.type .i64 .i64 a.at_ b.at_ (by rw[t1];exact pF))]
  rw[cW (r:=a.st == b.st) n2 (ii f2 2 a _ t2 o2 rfl) (ii f2 2 b _ t2 o2 rfl) (run_equalIn_int w m f2.type .i64 .i64 a.st b.st (by rw[t2];exact pF))]
  rw[cW (r:=a.en == b.en) n3 (ii f3 3 a _ t3 o3 rfl) (ii f3 3 b _ t3 o3 rfl) (run_equalIn_int w m f3.type .i64 .i64 a.en b.en (by rw[t3];exact pF))]
  rw[cW (r:=a.lv == b.lv) n4 (ii f4 4 a _ t4 o4 rfl) (ii f4 4 b _ t4 o4 rfl) (run_equalIn_int w m f4.type .i64 .i64 a.lv b.lv (by rw[t4];exact pF))]
  simp only[Op.eqFields,Sem.run_pure]
  have:(decide (a=b))=(a.doc == b.doc&&(a.at_ == b.at_&&(a.st == b.st&&(a.en == b.en&&(a.lv == b.lv))))):=by
   rw[cg]
   cases a;cases b
   simp
  rw[this]
  cases (a.doc == b.doc)<;>cases (a.at_ == b.at_)<;>cases (a.st == b.st)<;>cases (a.en == b.en)<;>cases (a.lv == b.lv)<;>rfl
section
variable {cf:Cf} {Q:Exit->Act->World->Prop} {σ:al} {env:Env} {hp:HP} {A:List AE} {nh:Nat} {it:Item} {rest:List Item}
theorem OL{d:Nat}{x y:Operand}{yt:TypeId}(a b:cq)(hP:cf.P=Tryz.prog)(fL:it.o.op=.binOp .neq 71 x y yt)(hd:it.o.dst=some d)(hg:bt it.guard env=some true)(hN:Nat.blt d cf.N=true)(hx:bP env x=some (.agg (cm a)))(hy:bP env y=some (.agg (cm b)))(hk:OJ cf rest Q σ ((d,.a (.b (!decide (a=b))))::env) hp A nh): OJ cf (it::rest) Q σ env hp A nh:=by
 refine jB (.a (.b (!decide (a=b)))) hd hg hN trivial (fun _ ac β ha w=>?_) hk
 have h1:ac.eval x=.agg (jE a):=aD ha hx
 have h2:ac.eval y=.agg (jE b):=aD ha hy
 rw[hP]
 have hG:(eqGuard .neq 71 x y (.agg (jE a)) (.agg (jE b))).run Tryz.prog w=.ok () w:=run_eqGuard_agg w _ _ _ _ _ _ Zk
 have hE:(Op.equalIn 10000 71 (.agg (jE a)) (.agg (jE b))).run Tryz.prog w=.ok (decide (a=b)) w:=PA 9998 a b w
 have hB:(binOp .neq 71 (.agg (jE a)) (.agg (jE b))).run Tryz.prog w=.ok (.bool (!decide (a=b))) w:=by
  rw[run_neq_struct,hE]
  rfl
 simp only[execOp,fL,h1,h2,Sem.run_bind,hG,hB,Result.andThen_ok,Sem.run_pure]
 rfl
end
end Go.Sy
namespace Go.Sy
open Go.Proofs
def yO:aH:=⟨0,0,0,0,false,iz,false,fA,iz⟩
def kG (it:cq) (d:eh):Option aH :=
 if it.at_<0 then none else
 match d.L[it.at_.toNat]? with
 | none=>none
 | some r=>if dZ d.id r it.at_.toNat=it then some r else none
def recAt (ds:List eh) (it:cq):Option aH:=(ds.find? fun d=>decide (d.id=it.doc)).bind (kG it)
theorem tJ{ds:List eh}{id:Int}{p:Nat}(ho:ds.Pairwise fun x y=>x.id<y.id)(hp:iC ds id p): (ds.find? fun d=>decide (d.id=id))=if lf ds id p then ds[p]? else none:=by
 unfold lf
 cases hd:ds[p]? with
 | none =>
  have hn:=List.getElem?_eq_none_iff.1 hd
  rw[ai (by simp),List.find?_eq_none]
  intro d VK
  obtain⟨k,hk,rfl⟩:=gg.1 VK
  have:=hp.lo k _ Zo (aa hk)
  rw[aX]
  omega
 | some d =>
  obtain⟨px,he⟩:=ah.1 hd
  dsimp only
  split
  ·rename_i h
   have h:d.id=id:=by simpa using h
   rw[List.find?_eq_some_iff_getElem]
   refine⟨by rw[aX];exact h,p,px,he,fun j hj=>?_⟩
   have:=hp.lo j _ hj (aa Zo)
   simp only[iE,eD]
   omega
  ·rename_i h
   have h:d.id≠id:=by simpa using h
   rw[List.find?_eq_none]
   intro x hx
   obtain⟨k,hk,rfl⟩:=gg.1 hx
   rw[aX]
   intro hid
   have hg:=aa hk
   have h0:=hp.hi p d (aq _) hd
   rcases Nat.lt_trichotomy k p with Qd | Qd | Qd
   ·have:=hp.lo k _ Qd hg
    omega
   ·subst Qd
    rw[he] at hid
    exact h hid
   ·have:=dE.1 ho p k px hk Qd
    rw[he] at this
    omega
theorem Cm{ds:List eh}{it:cq}{p:Nat}(ho:ds.Pairwise fun x y=>x.id<y.id)(hp:iC ds it.doc p)(h:lf ds it.doc p=false): recAt ds it=none:=by
 unfold recAt
 rw[tJ ho hp,h]
 rfl
theorem Cl{ds:List eh}{it:cq}{p:Nat}(ho:ds.Pairwise fun x y=>x.id<y.id)(hp:iC ds it.doc p)(h:lf ds it.doc p=true): ∃ d,ds[p]?=some d/\d.id=it.doc/\recAt ds it=kG it d:=by
 unfold recAt
 rw[tJ ho hp,h,au rfl]
 unfold lf at h
 cases hd:ds[p]? with
 | none=>rw[hd] at h;cases h
 | some d =>
  rw[hd] at h
  exact⟨d,rfl,by simpa using h,rfl⟩
def ah9 (o:Option aH):Value:=.tuple #[(SV.agg (di (o.getD yO))).den fy,.bool o.isSome]
theorem IE(σ:al)(X:kR)(IX:iS σ X)(hl:X.ds.length<=1000000)(ho:X.ds.Pairwise fun x y=>x.id<y.id)(it:cq):
  bZ Tryz.prog 101 [.agg (aA X),.agg (cm it)] σ (fun v=>v=ah9 (recAt X.ds it)):=by
 refine bW Tryz.func101 Z Z ⟨az 0 X,b6 0 it,trivial⟩ fun w=>?_
 refine Za ?_
 refine cr 9 (.agg (aA X)) rfl (az _ _) (fun _=>rfl) ?_
 refine aT (ys:=[.agg (aA X),.a (.v (.int .i64 it.doc))]) Z Z Z Z Z Tryz.call102 ⟨az 0 X,trivial,trivial⟩ (xG σ X IX.lT hl ho it.doc) fun v ⟨p,hv,hp⟩=>⟨.ik [.a (.v (.int .i64 p)),.a (.b (lf X.ds it.doc p))],Zl,hv.symm,?_⟩
 refine gX ?_
 refine ck [(0,.pure),(1,.pure),(2,.pure),(3,.pure),(4,.quiet),(5,.pure),(6,.pure),(7,.pure),(8,.pure),(9,.quiet),(10,.pure),(11,.quiet),(12,.pure),(13,.pure),(14,.pure),(15,.quiet),(16,.pure),(17,.pure),(18,.pure),(19,.pure),(20,.pure),(21,.quiet),(22,.pure),(23,.pure),(24,.quiet),(25,.pure),(26,.quiet),(28,.quiet),(27,.dP),(29,.pure),(30,.pure)] mixed Zk (aM TT rfl ?_)
 refine ax 17 rfl (fun h=>?_) (fun h=>?_)
 ·have h:lf X.ds it.doc p=false:=by simpa using h
  rw[Cm ho hp h]
  refine gn ?_
  refine aw TT rfl fun β w' _ _=>?_
  rfl
 have h:lf X.ds it.doc p=true:=by simpa using h
 obtain⟨d,hd,hid,Er⟩:=Cl ho hp h
 rw[Er]
 have An:=IX.doc d (aC hd)
 have px:=(ah.1 hd).1
 have bU:=iQ hd
 obtain⟨GD,iat,Vo,Vr,Vq⟩:=it
 dsimp only at hid
 refine Zr ?_
 refine ax 22 rfl (fun h0=>?_) (fun h0=>?_)
 ·have h0:iat<0:=ae h0
  have e:kG ⟨GD,iat,Vo,Vr,Vq⟩ d=none:=by unfold kG;dsimp only;rw[au h0]
  rw[e]
  refine gn ?_
  refine aw TT rfl fun β w' _ _=>?_
  rfl
 have h0:¬ iat<0:=ab h0
 obtain⟨n,rfl⟩:∃ n:Nat,iat=n:=⟨iat.toNat,by omega⟩
 refine Zr ?_
 refine bk TT Z Z Z Z Z Z Z Z Z IX.lT Zo bU (Zr ?_)
 refine ax 34 rfl (fun h1=>?_) (fun h1=>?_)
 ·have h1:(d.L.length:Int)<=n:=ae h1
  have e:kG ⟨GD,n,Vo,Vr,Vq⟩ d=none:=by unfold kG;dsimp only;rw[ai h0,cd,jO Zo]
  rw[e]
  refine gn ?_
  refine aw TT rfl fun β w' _ _=>?_
  rfl
 have h1:¬ (d.L.length:Int)<=n:=ab h1
 have wk:n<d.L.length:=by omega
 have hx:=aa wk
 have e:kG ⟨GD,n,Vo,Vr,Vq⟩ d=if dZ d.id d.L[n] n=⟨GD,n,Vo,Vr,Vq⟩ then some d.L[n] else none:=by
  unfold kG
  dsimp only
  rw[ai h0,cd,hx]
 rw[e]
 have pU:=dn hx
 have hit:=GA σ d An.1 n _ hx
 generalize d.L[n]=r at *
 refine Zr ?_
 refine bk TT Z Z Z Z Z Z Z Z Z IX.lT Zo bU (Zr ?_)
 refine aT (ys:=[.agg (gL d),.a (.v (.int .i64 n))]) Z Z Z Z Z Tryz.call103 ⟨eJ 0 d,trivial,trivial⟩ hit fun v hv=>⟨.agg (cm (dZ d.id r n)),b6 _ _,hv.symm,?_⟩
 refine Zr ?_
 refine OL (dZ d.id r n) ⟨GD,n,Vo,Vr,Vq⟩ Z Z Z Z Z Z Z (Zr ?_)
 refine Za ?_
 refine aG rfl (fun h2=>?_) (fun h2=>?_)
 ·have h2:dZ d.id r n≠⟨GD,n,Vo,Vr,Vq⟩:=by
   have h:(!decide (dZ d.id r n=⟨GD,n,Vo,Vr,Vq⟩))=true:=h2
   simpa using h
  rw[ai h2]
  refine Zb ?_
  refine aw TT rfl fun β w' _ _=>?_
  rfl
 have h2:dZ d.id r n=⟨GD,n,Vo,Vr,Vq⟩:=by
  have h:(!decide (dZ d.id r n=⟨GD,n,Vo,Vr,Vq⟩))=false:=h2
  simpa using h
 rw[au h2]
 refine Zc ?_
 refine ck [(0,.pure),(1,.quiet),(2,.pure),(3,.pure),(4,.pure),(5,.quiet),(6,.pure),(7,.quiet),(8,.pure),(9,.quiet),(10,.sink),(11,.pure)] mixed Zk (aM TT rfl ?_)
 refine bk TT Z Z Z Z Z Z Z Z Z IX.lT Zo bU (Zr ?_)
 refine bk TT Z Z Z Z Z Z Z Z Z An.1 (by dsimp only;omega) pU (Zr ?_)
 refine Zb ?_
 refine aw TT rfl fun β w' _ _=>?_
 rfl
def kD (g:aJ):dz×Bool :=
 if g.kind=0 then (iK,true)
 else if g.kind=1 then (⟨1,g.b,fA,iz,0⟩,true)
 else if g.kind=2 then (⟨2,false,g.n,iz,0⟩,true)
 else if g.kind=3 then (⟨3,false,fA,g.s,0⟩,true)
 else (iK,false)
theorem TJ(σ:al)(g:aJ)(la:Option Addr)(lc:Nat)(ma:Option Addr)(mc:Nat): bZ Tryz.prog 184 [.agg (dN g la lc ma mc)] σ (fun v=>v=.tuple #[.agg (lb (kD g).1),.bool (kD g).2]):=by
 refine bW Tryz.func184 Z Z ⟨dF 0 _ _ _ _ _,trivial⟩ fun w=>?_
 refine Zd ?_
 refine aG rfl (fun h=>?_) (fun h0=>?_)
 ·have h:g.kind=0:=ae h
  have e:kD g=(iK,true):=by unfold kD;rw[au h]
  rw[e]
  refine Zb ?_
  refine aw TT rfl fun β w' _ _=>?_
  rfl
 have h0:¬ g.kind=0:=ab h0
 refine Za ?_
 refine aG rfl (fun h=>?_) (fun h1=>?_)
 ·have h:g.kind=1:=ae h
  have e:kD g=(⟨1,g.b,fA,iz,0⟩,true):=by unfold kD;rw[ai h0,au h]
  rw[e]
  refine Zb ?_
  refine aw TT rfl fun β w' _ _=>?_
  rfl
 have h1:¬ g.kind=1:=ab h1
 refine Za ?_
 refine aG rfl (fun h=>?_) (fun h2=>?_)
 ·have h:g.kind=2:=ae h
  have e:kD g=(⟨2,false,g.n,iz,0⟩,true):=by unfold kD;rw[ai h0,ai h1,au h]
  rw[e]
  refine Zb ?_
  refine aw TT rfl fun β w' _ _=>?_
  rfl
 have h2:¬ g.kind=2:=ab h2
 refine Za ?_
 refine aG rfl (fun h=>?_) (fun h3=>?_)
 ·have h:g.kind=3:=ae h
  have e:kD g=(⟨3,false,fA,g.s,0⟩,true):=by unfold kD;rw[ai h0,ai h1,ai h2,au h]
  rw[e]
  refine Zb ?_
  refine aw TT rfl fun β w' _ _=>?_
  rfl
 have h3:¬ g.kind=3:=ab h3
 have e:kD g=(iK,false):=by unfold kD;rw[ai h0,ai h1,ai h2,ai h3]
 rw[e]
 refine Zg ?_
 refine aw TT rfl fun β w' _ _=>?_
 rfl
def cj (p:dz):List UInt8:=if dm p then iF p else []
def ah1 (σ:al) (l:List UInt8) (v:Value):Prop:=∃ ao cap,v=.slice ao l.length cap/\bu σ ao l.length cap 1 (gM l)/\(l=[]->ao=none)
theorem qm{p:dz}(h:dm p=true): cj p≠[]:=by
 unfold cj
 rw[au h]
 exact Rc ((lE p).1 h)
theorem qC{p:dz}: cj p=[]↔dm p=false:=by
 constructor
 ·intro h
  cases e:dm p with
  | false=>rfl
  | true=>exact absurd h (qm e)
 ·intro h
  unfold cj
  rw[h]
  rfl
theorem J5(p:dz): qO [p]=if dm p then (iF p,0) else ([],1):=by
 unfold qO
 rw[ai (by show ¬ 16<1;omega)]
 simp
theorem Gh(σ:al)(m:Int)(hm:σ.cell ⟨0,0,none⟩=some (.int .i64 m))(p:dz)(hp:p.n.dg.size<=bJ/\p.s.size<=1000000):
  fa Tryz.prog 117 [.agg (cc p)] σ (fun v bD=>ah1 bD (cj p) v):=by
 refine ek Tryz.func117 Z Z ⟨bT 0 p,trivial⟩ fun w=>?_
 refine Za ?_
 refine gP 1 1 7 rfl (bT 0 _) rfl (by decide) fun g5=>?_
 refine iI 0 Z Z Z fun s1 cP hS=>?_
 have HP:bu s1 (some ⟨g5,0,none⟩) ([p]:List dz).length 1 7 (m6 [p]):=qn (t:=99) (l:=[p]) hS (aq _)
 have hE:=T2 s1 m (cP.cell hm) [p] (by show 1<=_;omega) (fun q hq=>by rw[aU] at hq;subst hq;exact hp) _ _ HP
 rw[J5] at hE
 by_cases h:dm p=true
 ·rw[au h] at hE
  have e:cj p=iF p:=by unfold cj;rw[au h]
  rw[e]
  have jv:=Rc ((lE p).1 h)
  refine bN Z Z Z Z Z Tryz.call182 ⟨trivial,trivial⟩ hE fun v s2 cw ⟨bo,bc,hv,HE⟩=>⟨.ik [.a (.v (.slice bo (iF p).length bc)),.a (.v (.int .i64 0))],Zl,hv.symm,?_⟩
  refine gX ?_
  refine aG rfl (fun h=>absurd h (by decide)) (fun _=>?_)
  refine Zg ?_
  refine aw TT rfl fun β w' _ _=>?_
  exact⟨bo,bc,rfl,HE,fun h=>absurd h jv⟩
 ·have h:dm p=false:=by simpa using h
  rw[h,ai (by decide)] at hE
  rw[qC.2 h]
  refine bN Z Z Z Z Z Tryz.call182 ⟨trivial,trivial⟩ hE fun v s2 cw ⟨bo,bc,hv,HE⟩=>⟨.ik [.a (.v (.slice bo 0 bc)),.a (.v (.int .i64 1))],Zl,hv.symm,?_⟩
  refine gX ?_
  refine aG rfl (fun _=>?_) (fun h=>absurd h (by decide))
  refine Zb ?_
  refine aw TT rfl fun β w' _ _=>?_
  exact⟨none,0,rfl,bu.nil _ none 0 1,fun _=>rfl⟩
def iT (r:aH):dz×Bool:=kD (aJ.mk r.kd r.b r.n r.s [] [] [])
def qZ (ds:List eh) (it:cq):List UInt8 :=
 match recAt ds it with
 | none=>[]
 | some r=>if (iT r).2 then cj (iT r).1 else []
theorem QM(g:aJ)(h1:g.n.dg.size<=bJ)(h2:g.s.size<=1000000): (kD g).1.n.dg.size<=bJ/\(kD g).1.s.size<=1000000:=by
 unfold kD
 by_cases k0:g.kind=0
 ·rw[au k0];exact⟨ay _,ay _⟩
 rw[ai k0]
 by_cases k1:g.kind=1
 ·rw[au k1];exact⟨ay _,ay _⟩
 rw[ai k1]
 by_cases k2:g.kind=2
 ·rw[au k2];exact⟨h1,ay _⟩
 rw[ai k2]
 by_cases k3:g.kind=3
 ·rw[au k3];exact⟨ay _,h2⟩
 rw[ai k3]
 exact⟨ay _,ay _⟩
theorem yT(r:aH)(h1:r.n.dg.size<=bJ)(h2:r.s.size<=1000000): (iT r).1.n.dg.size<=bJ/\(iT r).1.s.size<=1000000:=QM _ h1 h2
def yn (X:kR):Prop:=∀ d∈X.ds,∀ r∈d.L,r.n.dg.size<=bJ/\r.s.size<=1000000
theorem EZ{ds:List eh}{it:cq}{r:aH}(h:recAt ds it=some r): ∃ d∈ds,r∈d.L:=by
 unfold recAt at h
 cases hf:ds.find? fun d=>decide (d.id=it.doc) with
 | none=>rw[hf] at h;cases h
 | some d =>
  rw[hf] at h
  have h:kG it d=some r:=h
  refine⟨d,List.mem_of_find?_eq_some hf,?_⟩
  unfold kG at h
  split at h
  ·cases h
  split at h
  ·cases h
  ·rename_i x hx
   split at h
   ·injection h with h
    subst h
    exact aC hx
   ·cases h
theorem Fs(σ:al)(m:Int)(hm:σ.cell ⟨0,0,none⟩=some (.int .i64 m))(X:kR)(IX:iS σ X)(hl:X.ds.length<=1000000)(ho:X.ds.Pairwise fun x y=>x.id<y.id)(hF:yn X)(it:cq):
  fa Tryz.prog 121 [.agg (aA X),.agg (cm it)] σ (fun v bD=>ah1 bD (qZ X.ds it) v):=by
 have hR:=IE σ X IX hl ho it
 have sm:=fun r=>EZ (ds:=X.ds) (it:=it) (r:=r)
 unfold qZ
 generalize recAt X.ds it=o at *
 refine ek Tryz.func121 Z Z ⟨az 0 X,b6 0 it,trivial⟩ fun w=>?_
 refine Za ?_
 refine cr 10 (.agg (aA X)) rfl (az _ _) (fun _=>rfl) ?_
 refine cr 11 (.agg (cm it)) rfl (b6 _ _) (fun _=>rfl) ?_
 refine aT (ys:=[.agg (aA X),.agg (cm it)]) Z Z Z Z Z Tryz.call101 ⟨az 0 X,b6 0 it,trivial⟩ hR fun v hv=>⟨.ik [.agg (di (o.getD yO)),.a (.b o.isSome)],(by intro x hx;simp only[bM,dA,or_false] at hx;rcases hx with rfl | rfl;exact fP 0 _;trivial),hv.symm,?_⟩
 refine gX ?_
 refine aT (ys:=[.agg (dN (aJ.mk (o.getD yO).kd (o.getD yO).b (o.getD yO).n (o.getD yO).s [] [] []) none 0 none 0)]) Z Z Z Z Z Tryz.call184 ⟨dF 0 _ _ _ _ _,trivial⟩ (TJ σ (aJ.mk (o.getD yO).kd (o.getD yO).b (o.getD yO).n (o.getD yO).s [] [] []) none 0 none 0) fun v hv=>⟨.ik [.agg (cc (iT (o.getD yO)).1),.a (.b (iT (o.getD yO)).2)],(by intro x hx;simp only[bM,dA,or_false] at hx;rcases hx with rfl | rfl;exact bT 0 _;trivial),hv.symm,?_⟩
 refine gX ?_
 cases o with
 | none =>
  refine ax 30 rfl (fun _=>?_) (fun h=>absurd h (by simp))
  refine gn ?_
  refine aw TT rfl fun β w' _ _=>?_
  exact⟨none,0,rfl,bu.nil _ none 0 1,fun _=>rfl⟩
 | some r =>
  obtain⟨d,hd,hr⟩:=sm r rfl
  obtain⟨f1,f2⟩:=hF d hd r hr
  refine ax 30 rfl (fun h=>absurd h (by simp)) (fun _=>?_)
  refine gX ?_
  have lj:=yT r f1 f2
  dsimp only[Option.getD_some]
  generalize iT r=z at *
  obtain⟨p,ok⟩:=z
  refine aG rfl (fun h=>?_) (fun h=>?_)
  ·have h:ok=false:=by simpa using h
   subst h
   refine Zb ?_
   refine aw TT rfl fun β w' _ _=>?_
   exact⟨none,0,rfl,bu.nil _ none 0 1,fun _=>rfl⟩
  have h:ok=true:=by simpa using h
  subst h
  refine Zc ?_
  refine cr 34 (.agg (cc p)) rfl (bT _ _) (fun _=>rfl) ?_
  refine bN (ys:=[.agg (cc p)]) Z Z Z Z Z Tryz.call117 ⟨bT 0 p,trivial⟩ (Gh σ m hm p lj) fun v s1 cP ⟨ao,cap,hv,HP,hn⟩=>⟨.a (.v (.slice ao (cj p).length cap)),trivial,hv.symm,?_⟩
  refine gn ?_
  refine aw TT rfl fun β w' _ _=>?_
  exact⟨ao,cap,rfl,HP,hn⟩
end Go.Sy
namespace Go.Sy
open Go.Proofs
theorem ai1(σ:al)(X:kR)(IX:iS σ X)(hl:X.ds.length<=1000)(hd:∀ d∈X.ds,d.ids.length=d.L.length/\d.L.length<=100000)(f:FuncId)(iq:List PT)(mC:jj (iq.map lR))(gm:∀ args w,(callFunc f args).run Tryz.prog w=.ok (.enter f args) w)(dj:(SV.a (.fn (.func f) iq)).lt 0)(q:Int->Bool)(hq:∀ k:Int,bZ Tryz.prog f (.a (.v (.int .i64 k))::iq.map lR) σ (fun v=>v=.bool (q k))):
  pV Tryz.prog 83 [.agg (aA X),.a (.fn (.func f) iq)] σ [] (fun v _ A'=>∃ oo oc,v=.slice oo (lX q X.ds).length oc/\(lX q X.ds).length<=oc/\A'=[Hq oo oc (lX q X.ds)]):=by
 have Sl:=SV.eT (ay 1) dj
 have zl:=SV.eT (ay 3) dj
 refine fk Tryz.func83 Z Z ⟨az 0 X,dj,trivial⟩ fun w=>?_
 refine Za ?_
 refine Rz Z Z Z Z Z Z Z (Zr ?_)
 refine eN TT X.ds.length Z Z Z Z Z Z Z Z Z (by show(if (X.ds.length:Int)<X.ds.length then _ else _)=_;split<;>rfl) IX.lT.pn IX.lT.pn (Zr ?_)
 refine iu ?_
 refine dV 71 5 ?_
 refine Zd ?_
 refine bX (fun(_:Kr)=>σ) (fun t=>[(1,.a (.fn (.func f) iq)),(2,.a (.p 0 0)),(5,.a (.v (.slice t.oo t.o.length t.oc))),(19,.a (.v (.slice X.o X.ds.length X.c))),(20,.a (.v (.int .i64 X.ds.length))),(21,.a (.v (.int .i64 (t.k:Nat))))])
  (fun _=>[(0,.loc 60,aA X)]) (fun t=>[Hq t.oo t.oc t.o]) 1 (fun t=>t.k<=X.ds.length/\t.o=lX q (X.ds.take t.k)/\t.o.length<=t.oc/\t.o.length<=t.k*100000) (fun t=>X.ds.length - t.k) ⟨0,[],none,0⟩
  ⟨ay _,rfl,aq _,ay _⟩ rfl Zs Zs rfl ⟨Sl,aj,trivial,trivial,trivial,trivial,trivial⟩ (by exact⟨⟨aj,az 1 X⟩,trivial⟩) fun⟨k,o,oo,oc⟩ ⟨hk,ho,j6,Hs⟩=>?_
 dsimp only at hk ho j6 Hs ⊢
 refine Za ?_
 refine aG rfl (fun h=>?_) (fun h=>?_)
 rotate_left
 ·have fQ:k=X.ds.length:=by have:=ab h;omega
  rw[fQ,aI] at ho
  subst ho
  refine Ze ?_
  refine dq TT rfl fun β w' _ _=>?_
  exact⟨oo,oc,rfl,j6,rfl⟩
 have cz:k<X.ds.length:=by have:=ae h;omega
 have xj:=aa cz
 have bU:=iQ xj
 have pU:=qI xj
 have L4:=hd X.ds[k] (aP cz)
 have An:=IX.doc X.ds[k] (aP cz)
 have l8:=CA (q:=q) xj
 rw[<-ho] at l8
 generalize X.ds[k]=d at *
 obtain⟨VI,DW⟩:=L4
 refine Zd ?_
 refine bk TT Z Z Z Z Z Z Z Z Z IX.lT Zo bU (Zr ?_)
 refine Za ?_
 refine bk TT Z Z Z Z Z Z Z Z Z IX.lines Zo pU (Zr ?_)
 refine Zd ?_
 refine bX (fun(_:Kr)=>σ) (fun t=>[(1,.a (.fn (.func f) iq)),(2,.a (.p 0 0)),(5,.a (.v (.slice t.oo t.o.length t.oc))),(7,.a (.p 2 0)),(19,.a (.v (.slice X.o X.ds.length X.c))),(20,.a (.v (.int .i64 X.ds.length))),(21,.a (.v (.int .i64 k))),(30,.a (.v (.slice d.lo d.ids.length d.zg))),(31,.a (.v (.int .i64 d.ids.length))),(32,.a (.v (.int .i64 (t.k:Nat))))])
  (fun _=>[(0,.loc 60,aA X),(2,.loc 90,gL d)]) (fun t=>[Hq t.oo t.oc t.o]) 3 (fun t=>t.k<=d.ids.length/\t.o=o++OF q d t.k/\t.o.length<=t.oc) (fun t=>d.ids.length - t.k) ⟨0,o,oo,oc⟩
  ⟨ay _,(aL o).symm,j6⟩ rfl Zs Zs rfl ⟨zl,by show 0<3;omega,trivial,by show 2<3;omega,trivial,trivial,trivial,trivial,trivial,trivial,trivial⟩ (by exact⟨⟨by omega,az 3 X⟩,⟨by omega,eJ 3 d⟩,trivial⟩) fun⟨j,o1,oo,oc⟩ ⟨hj,GI,j6⟩=>?_
 dsimp only at hj GI j6 ⊢
 have px:=Gp q d j
 have Nq:o1.length=o.length+(OF q d j).length:=by rw[GI,af]
 refine Za ?_
 refine aG rfl (fun h=>?_) (fun h=>?_)
 rotate_left
 ·have LZ:j=d.ids.length:=by have:=ab h;omega
  subst LZ
  rw[Gq q d VI] at GI
  refine Zg ?_
  refine an (⟨k+1,o1,oo,oc⟩:Kr) ⟨cz,by dsimp only;rw[l8,GI],j6,by dsimp only;rw[Nat.succ_mul];omega⟩ (by dsimp only;omega) rfl Zs Zs rfl ⟨Sl,aj,trivial,trivial,trivial,trivial,trivial⟩ (by exact⟨⟨aj,az 1 X⟩,trivial⟩)
 have m2:j<d.ids.length:=by have:=ae h;omega
 have O8:=aa m2
 have hrj:d.L[j]?=some (d.L[j]'Zo):=aa Zo
 have JA:=lg O8
 have hit:=GA σ d An.1 j _ hrj
 have qL:=Cz (q:=q) O8 hrj
 generalize d.ids[j]=x at *
 generalize d.L[j]'Zo=r at *
 refine Zd ?_
 refine bk TT Z Z Z Z Z Z Z Z Z An.2 Zo JA (Zr ?_)
 refine Za ?_
 refine ax 42 rfl (fun _=>?_) (fun h=>absurd (ab (show decide ((j:Int)<d.L.length)=false from h)) Zo)
 refine Zr ?_
 refine aT (ys:=.a (.v (.int .i64 x))::iq.map lR) Z Z Z Z Z gm ⟨trivial,mC⟩ (hq x) fun v hv=>⟨.a (.b (q x)),trivial,hv.symm,?_⟩
 refine gX ?_
 refine aG rfl (fun h=>?_) (fun h=>?_)
 ·have h:q x=true:=h
  rw[h,au rfl] at qL
  refine Za ?_
  refine cr 48 (.agg (gL d)) rfl (eJ _ _) (fun _=>rfl) ?_
  refine aT (ys:=[.agg (gL d),.a (.v (.int .i64 j))]) Z Z Z Z Z Tryz.call103 ⟨eJ 0 d,trivial,trivial⟩ hit fun v hv=>⟨.agg (cm (dZ d.id r j)),b6 _ _,hv.symm,?_⟩
  refine Zr ?_
  refine bl TT 0 Z Z Z Z Z Z Z Z Z Z Z Z Z Z Z Z Z Z (b6 0 _) rfl Zo (by show(o1.length+1)*40<=_;omega) fun om nE lS=>aM TT rfl ?_
  refine Zc ?_
  have lJ:(o1++[dZ d.id r j]).length=o1.length+1:=by simp
  refine an (⟨j+1,o1++[dZ d.id r j],om,nE⟩:Kr) ⟨m2,by dsimp only;rw[qL,GI,av],by dsimp only;omega⟩ (by dsimp only;omega) rfl ?_ Zs ?_ ⟨zl,by show 0<3;omega,trivial,by show 2<3;omega,trivial,trivial,trivial,trivial,trivial,trivial,trivial⟩ (by exact⟨⟨by omega,az 3 X⟩,⟨by omega,eJ 3 d⟩,trivial⟩)
  ·dsimp only
   rw[lJ]
   (repeat first | exact trivial | refine⟨rfl,?_⟩)
  ·show [_]=[_]
   dsimp only
   unfold Hq
   rw[lJ,<-sj]
   rfl
 ·have h:q x=false:=h
  rw[h,ai (by decide),aL] at qL
  refine Zc ?_
  refine an (⟨j+1,o1,oo,oc⟩:Kr) ⟨m2,by dsimp only;rw[qL];exact GI,j6⟩ (by dsimp only;omega) rfl Zs Zs rfl ⟨zl,by show 0<3;omega,trivial,by show 2<3;omega,trivial,trivial,trivial,trivial,trivial,trivial,trivial⟩ (by exact⟨⟨by omega,az 3 X⟩,⟨by omega,eJ 3 d⟩,trivial⟩)
theorem ah2(σ:al)(g:Nat)(line:Int)(hg:σ.cell ⟨g,0,none⟩=some (.int .i64 line))(k:Int):
  bZ Tryz.prog 165 [.a (.v (.int .i64 k)),.a (.v (.pointer (some ⟨g,0,none⟩)))] σ (fun v=>v=.bool (decide (k=line))):=by
 refine bW Tryz.func165 Z Z Zl fun w=>?_
 refine Za ?_
 refine oR (c:=.v (.int .i64 line)) TT Z Z Z Z Z Z Z Z hg trivial (Zr ?_)
 refine Zb ?_
 refine aw TT rfl fun β w' _ _=>?_
 rfl
theorem Wo(σ:al)(X:kR)(IX:iS σ X)(hl:X.ds.length<=1000)(hd:∀ d∈X.ds,d.ids.length=d.L.length/\d.L.length<=100000)(line:Int):
  pV Tryz.prog 100 [.agg (aA X),.a (.v (.int .i64 line))] σ [] (fun v _ A'=>∃ oo oc,v=.slice oo (lX (fun k=>decide (k=line)) X.ds).length oc/\(lX (fun k=>decide (k=line)) X.ds).length<=oc/\A'=[Hq oo oc (lX (fun k=>decide (k=line)) X.ds)]):=by
 refine fk Tryz.func100 Z Z ⟨az 0 X,trivial,trivial⟩ fun w=>?_
 refine Za ?_
 refine gP 1 1 1 rfl Zl rfl (by decide) fun g=>?_
 refine iI 0 Z Z Z fun s1 cP hS=>?_
 have hg:=Dz hS
 have IX:=IX.mono cP
 refine cr 5 (.agg (aA X)) rfl (az _ _) (fun _=>rfl) ?_
 refine dT [] (A0:=[]) (Ar:=[]) (ys:=[.agg (aA X),.a (.fn (.func 165) [.val (.pointer (some ⟨g,0,none⟩))])]) Z Z Z Z Z Z Z Tryz.call83 ⟨az 0 X,NH 165 g,trivial⟩ (ai1 s1 X IX hl hd 165 [.val (.pointer (some ⟨g,0,none⟩))] ⟨trivial,trivial⟩ Tryz.call165 (NH 165 g) (fun k=>decide (k=line)) fun k=>ah2 s1 g line hg k) fun v s2 A' cw ⟨oo,oc,hv,j6,hA⟩=>⟨.a (.v (.slice oo (lX (fun k=>decide (k=line)) X.ds).length oc)),trivial,hv.symm,?_⟩
 subst hA
 refine gn ?_
 refine dq TT rfl fun β w' _ _=>?_
 exact⟨oo,oc,rfl,j6,rfl⟩
def Wt (q:cq->Bool) (l:List cq) (i:Int):Prop:=(i = -1/\∀ y∈l,q y=false)\/∃(n:Nat) (x:cq),i=n/\l[n]?=some x/\q x=true/\∀ y∈l.take n,q y=false
theorem EE(σ:al)(S:List cq)(hl:S.length<=100000000)(so:Option Addr)(sc:Nat)(H:bu σ so S.length sc 5 (eP S))(f:FuncId)(iq:List PT)(mC:jj (iq.map lR))(gm:∀ args w,(callFunc f args).run Tryz.prog w=.ok (.enter f args) w)(dj:(SV.a (.fn (.func f) iq)).lt 0)(q:cq->Bool)(hq:∀ z∈S,bZ Tryz.prog f (.agg (cm z)::iq.map lR) σ (fun v=>v=.bool (q z))):
  bZ Tryz.prog 183 [.a (.v (.slice so S.length sc)),.a (.fn (.func f) iq)] σ (fun v=>∃ i:Int,v=.int .i64 i/\Wt q S i):=by
 refine bW Tryz.func183 Z Z ⟨trivial,dj,trivial⟩ fun w=>?_
 refine Zd ?_
 refine bX (fun(_:Nat)=>σ) (fun k=>[(0,.a (.v (.slice so S.length sc))),(1,.a (.fn (.func f) iq)),(7,.a (.v (.int .i64 S.length))),(8,.a (.v (.int .i64 k)))]) (fun _=>[]) (fun _=>[]) 0 (fun k=>k<=S.length/\∀ y∈S.take k,q y=false) (fun k=>S.length - k) 0 ⟨ay _,fun y hy=>(by cases hy)⟩ rfl Zs Zs rfl ⟨trivial,dj,trivial,trivial,trivial⟩ trivial fun k ⟨hk,hp⟩=>?_
 refine Za ?_
 refine aG rfl (fun h=>?_) (fun h=>?_)
 rotate_left
 ·have fQ:k=S.length:=by have:=ab h;omega
  rw[fQ,aI] at hp
  refine Ze ?_
  refine aw TT rfl fun β w' _ _=>?_
  exact⟨-1,rfl,.inl ⟨rfl,hp⟩⟩
 have cz:k<S.length:=by have:=ae h;omega
 have hx:=aa cz
 have bU:=ld hx
 have hqz:=hq S[k] (aP cz)
 have mi:S.take (k+1)=S.take k++[S[k]]:=ak cz
 generalize S[k]=z at *
 refine Zd ?_
 refine bk TT Z Z Z Z Z Z Z Z Z H Zo bU (Zr ?_)
 refine aT (ys:=.agg (cm z)::iq.map lR) Z Z Z Z Z gm ⟨b6 0 z,mC⟩ hqz fun v hv=>⟨.a (.b (q z)),trivial,hv.symm,?_⟩
 refine gX ?_
 refine aG rfl (fun h=>?_) (fun h=>?_)
 ·have h:q z=true:=h
  refine Zb ?_
  refine aw TT rfl fun β w' _ _=>?_
  exact⟨(k:Int),rfl,.inr ⟨k,z,rfl,hx,h,hp⟩⟩
 ·have h:q z=false:=h
  refine Zc ?_
  refine an (k+1) ⟨cz,fun y hy=>?_⟩ Zo rfl Zs Zs rfl ⟨trivial,dj,trivial,trivial,trivial⟩ trivial
  rw[mi] at hy
  rcases bz.1 hy with hy | hy
  ·exact hp y hy
  ·rw[aU] at hy
   rw[hy]
   exact h
theorem vC(x:cq)(l:List cq): pK (x::l)=(cm x).map AT.val++pK l:=by simp[pK,eP]
theorem Jt: ∀ {l:List cq} {i:Nat} (x:cq),i<l.length->(pK l).take (i*5)++(cm x).map AT.val++(pK l).drop (i*5+5)=pK (l.set i x)
 | [],_,_,h=>by simp at h
 | y::l,0,x,_=>by
  rw[hX,vC,vC]
  rfl
 | y::l,i+1,x,h=>by
  have ih:=Jt (l:=l) (i:=i) x (by simpa using h)
  rw[nf,vC,vC,<-ih]
  have e1:(i+1)*5=(List.map AT.val (cm y)).length+i*5:=by simp[cm];omega
  rw[e1,j7,List.take_length_add_append,List.drop_length_add_append]
  simp only[av]
structure AZ (p:cq->Bool) (l cur:List cq) (i j:Nat):Prop where
 ij:i<j
 jl:j<=l.length
 len:cur.length=l.length
 kept:cur.take i=(l.take j).filter p
 rest:cur.drop j=l.drop j
theorem AZ.start{q:cq->Bool}{l:List cq}{n:Nat}{x:cq}(hx:l[n]?=some x)(hq:q x=true)(h:∀ y∈l.take n,q y=false): AZ (fun x=>!q x) l l n (n+1):=by
 obtain⟨hn,he⟩:=ah.1 hx
 refine⟨db n,hn,rfl,?_,rfl⟩
 rw[ak hn,he,eu,List.filter_eq_self.2 (fun y hy=>by simp[h y hy])]
 simp[hq]
theorem AZ.get{p:cq->Bool}{l cur:List cq}{i j:Nat}{x:cq}(h:AZ p l cur i j)(hx:l[j]?=some x): cur[j]?=some x:=by
 have:=aN (·[0]?) h.rest
 simpa[fF,hx] using this
theorem AZ.skip{p:cq->Bool}{l cur:List cq}{i j:Nat}{x:cq}(h:AZ p l cur i j)(hx:l[j]?=some x)(hp:p x=false): AZ p l cur i (j+1):=by
 obtain⟨hj,he⟩:=ah.1 hx
 refine⟨by have:=h.ij;omega,hj,h.len,?_,?_⟩
 ·rw[h.kept,ak hj,he,eu]
  simp[hp]
 ·have:=aN List.tail h.rest
  rwa [List.tail_drop,List.tail_drop] at this
theorem AZ.dP{p:cq->Bool}{l cur:List cq}{i j:Nat}{x:cq}(h:AZ p l cur i j)(hx:l[j]?=some x)(hp:p x=true): AZ p l (cur.set i x) (i+1) (j+1):=by
 obtain⟨hj,he⟩:=ah.1 hx
 have iP:=h.ij
 have hl:=h.len
 refine⟨by omega,hj,by rw[dh,hl],?_,?_⟩
 ·have hi:i<(cur.set i x).length:=by rw[dh];omega
  rw[ak hi,List.getElem_set_self,List.take_set_of_le (aq i),h.kept,ak hj,he,eu]
  simp[hp]
 ·rw[List.drop_set_of_lt Zo]
  have:=aN List.tail h.rest
  rwa [List.tail_drop,List.tail_drop] at this
structure DfS where
 i:Nat
 j:Nat
 cur:List cq
theorem Hj(σ:al)(l:List cq)(hl:l.length<=100000000)(so:Option Addr)(sc:Nat)(pb:l.length<=sc)(f:FuncId)(iq:List PT)(mC:jj (iq.map lR))(gm:∀ args w,(callFunc f args).run Tryz.prog w=.ok (.enter f args) w)(dj:(SV.a (.fn (.func f) iq)).lt 0)(q:cq->Bool)(hq:∀ s,σ.le s->∀ z,bZ Tryz.prog f (.agg (cm z)::iq.map lR) s (fun v=>v=.bool (q z))):
  pV Tryz.prog 118 [.a (.v (.slice so l.length sc)),.a (.fn (.func f) iq)] σ [Hq so sc l] (fun v _ A'=>∃ to tc,v=.slice to (l.filter fun x=>!q x).length tc/\(l.filter fun x=>!q x).length<=tc/\A'=[Hq to tc (l.filter fun x=>!q x)]):=by
 refine fk Tryz.func118 Z Z ⟨trivial,dj,trivial⟩ fun w=>?_
 refine Za ?_
 refine uB Z Z Z Z Z Tryz.call183 ⟨trivial,dj,trivial⟩ (fun bD hle hA=>EE bD l hl so sc (ny (hA 0 _ rfl) pb) f iq mC gm dj q fun z _=>hq bD hle z) fun v ⟨r,hv,hr⟩=>⟨.a (.v (.int .i64 r)),trivial,hv.symm,?_⟩
 refine gX ?_
 refine aG rfl (fun h=>?_) (fun h=>?_)
 ·have h:r = -1:=ae h
  have mD:∀ y∈l,q y=false:=by
   rcases hr with⟨-,h2⟩ | ⟨n,x,h2,-⟩
   ·exact h2
   ·omega
  rw[List.filter_eq_self.2 (fun y hy=>by simp[mD y hy])]
  refine Zb ?_
  refine dq TT rfl fun β w' _ _=>?_
  exact⟨so,sc,rfl,pb,rfl⟩
 have h:¬ r = -1:=ab h
 obtain⟨n,x,rfl,hx,hqx,hn⟩:∃(n:Nat) (x:cq),r=n/\l[n]?=some x/\q x=true/\∀ y∈l.take n,q y=false:=by
  rcases hr with⟨h2,-⟩ | h2
  ·exact absurd h2 h
  ·exact h2
 have D0:=AZ.start hx hqx hn
 have wk:=(ah.1 hx).1
 refine jd 0 (E:=Hq so sc l) rfl (show 0<l.length by omega) fun gb rV=>?_
 have rV:so=some ⟨gb,0,none⟩:=rV
 subst rV
 refine Zg ?_
 refine bX (fun(_:DfS)=>σ) (fun t=>[(0,.a (.v (.slice (some ⟨gb,0,none⟩) l.length sc))),(1,.a (.fn (.func f) iq)),(5,.a (.v (.int .i64 (t.i:Nat)))),(6,.a (.v (.int .i64 (t.j:Nat))))]) (fun _=>[]) (fun t=>[⟨some ⟨gb,0,none⟩,l.length,sc,71,5,pK t.cur⟩]) 0
  (fun t=>AZ (fun x=>!q x) l t.cur t.i t.j) (fun t=>l.length - t.j) ⟨n,n+1,l⟩ D0 rfl Zs Zs rfl ⟨trivial,dj,trivial,trivial,trivial⟩ trivial fun⟨i,j,cur⟩ D=>?_
 dsimp only at D ⊢
 have iP:=D.ij
 have m2:=D.jl
 have nZ:=D.len
 refine Za ?_
 refine aG rfl (fun h=>?_) (fun h=>?_)
 rotate_left
 ·have LZ:j=l.length:=by have:=ab h;omega
  have hk:=D.kept
  rw[LZ,aI] at hk
  have cz:(l.filter fun x=>!q x).length=i:=by rw[<-hk,aE];omega
  have L5:(⟨some ⟨gb,0,none⟩,l.length,sc,71,5,pK cur⟩:AE).cut i=Hq (some ⟨gb,0,none⟩) sc (l.filter fun x=>!q x):=by
   unfold AE.cut Hq
   dsimp only
   rw[O1,hk,cz]
  refine Ze ?_
  refine dL TT i l.length Z Z Z Z Z Z Z Z Z Z (.inr ⟨_,_,rfl,rfl⟩) (.inl ⟨rfl,rfl⟩) Zo pb pb (Zr ?_)
  refine vu 0 i Z Z (by show i<=l.length;omega) (aN (fun x=>[x]) L5) ?_
  refine o9 TT 0 (g:=gb) (q:=i) Z Z Z Z Z Z Z Z (Nat.le_of_eq cz) (by show i+(l.length - i)<=sc;omega) (by
   by_cases h0:l.length - i=0
   ·exact .inl h0
   ·right
    rw[ai Zo]
    show some (Addr.add ⟨gb,0,none⟩ (i*5))=_
    rw[jM]) Z Z Z Z Z Z (Zr ?_)
  refine Za ?_
  refine eN TT i Z Z Z Z Z Z Z Z Z Z Zo pb (Zr ?_)
  refine Zb ?_
  refine dq TT rfl fun β w' _ _=>?_
  exact⟨some ⟨gb,0,none⟩,sc,by rw[cz];rfl,by rw[cz];omega,rfl⟩
 have am2:j<l.length:=by have:=ae h;omega
 have hx:=aa am2
 have hgj:=D.get hx
 generalize l[j]=y at *
 have nz:∀ q:Nat,some (SV.a (AT.v (.pointer (some (Addr.add ⟨gb,0,none⟩ ((q:Int).toNat*5))))))=some (SV.a (AT.v (.pointer (some ⟨gb,q*5,none⟩)))):=fun q=>by
  rw[cd,jM]
 refine Zd ?_
 refine br TT Z Z Z Z Z Z Z Z Z ⟨by omega,by omega⟩ (Zr ?_)
 refine jD 0 (off:=j*5) TT (cm y) Z Z Z Z Z (nz j) Z Z Z Z Z (fun q c hc=>R3 hgj hc) (b6 0 y) (Zr ?_)
 refine Za ?_
 refine aT (ys:=.agg (cm y)::iq.map lR) Z Z Z Z Z gm ⟨b6 0 y,mC⟩ (hq σ (al.le_refl _) y) fun v hv=>⟨.a (.b (q y)),trivial,hv.symm,?_⟩
 refine gX ?_
 refine aG rfl (fun h=>?_) (fun h=>?_)
 ·have h:(!q y)=true:=h
  have D':=D.dP hx h
  refine Za ?_
  refine br TT Z Z Z Z Z Z Z Z Z ⟨by omega,by omega⟩ (Zr ?_)
  refine p6 0 (off:=i*5) (cs:=cm y) (A':=[⟨some ⟨gb,0,none⟩,l.length,sc,71,5,pK (cur.set i y)⟩]) TT Z Z Z Z (nz i) Z Z Z Z Z (by show i*5+5<=l.length*5;omega) (b6 0 y) rfl ?_ (Zr ?_)
  ·show [_]=[_]
   rw[<-Jt y Zo]
   rfl
  refine Zg ?_
  refine an (⟨i+1,j+1,cur.set i y⟩:DfS) D' (by dsimp only;omega) rfl Zs Zs rfl ⟨trivial,dj,trivial,trivial,trivial⟩ trivial
 ·have h:(!q y)=false:=h
  have D':=D.skip hx h
  refine Zc ?_
  refine an (⟨i,j+1,cur⟩:DfS) D' (by dsimp only;omega) rfl Zs Zs rfl ⟨trivial,dj,trivial,trivial,trivial⟩ trivial
end Go.Sy
namespace Go.Sy
open Go.Proofs
theorem bu.Wj{σ:al}{ao:Option Addr}{n cap sz:Nat}{rows:List (List AT)}(H:bu σ ao n cap sz rows)(h:0<n): ∃ ad,ao=some ad:=by
 rcases H.at_ with h0 | ⟨ad,h1,_⟩
 ·omega
 ·exact⟨ad,h1⟩
theorem G7(σ:al)(a b:List UInt8)(ao:Option Addr)(ac:Nat)(HA:bu σ ao a.length ac 1 (gM a))(bo:Option Addr)(bc:Nat)(HB:bu σ bo b.length bc 1 (gM b)):
  bZ Tryz.prog 120 [.a (.v (.slice ao a.length ac)),.a (.v (.slice bo b.length bc))] σ (fun v=>v=.bool (decide (a=b))):=by
 refine bW Tryz.func120 Z Z Zl fun w=>?_
 refine Za ?_
 refine sf TT Z Z Z Z Z Z Z Z Z Z Z Z HA (Zr ?_)
 refine sf TT Z Z Z Z Z Z Z Z Z Z Z Z HB (Zr ?_)
 refine Zb ?_
 refine aw TT rfl fun β w' _ _=>?_
 show Value.bool (decide ((⟨a.toArray⟩:ByteArray)=⟨b.toArray⟩))=.bool (decide (a=b))
 congr 1
 rw[cg,aX,aX]
 exact⟨fun h=>Bk h,fun h=>by rw[h]⟩
theorem T1(σ:al)(m:Int)(hm:σ.cell ⟨0,0,none⟩=some (.int .i64 m))(X:kR)(IX:iS σ X)(hl:X.ds.length<=1000000)(ho:X.ds.Pairwise fun x y=>x.id<y.id)(hF:yn X)(g1:Nat)(pN:∀(j:Nat) c,(aA X)[j]?=some c->σ.cell ((⟨g1,0,none⟩:Addr).add j)=some (c.den fy))(g2:Nat)(want:List UInt8)(wo:Option Addr)(wc:Nat)(sQ:σ.cell ⟨g2,0,none⟩=some (.slice wo want.length wc))(HW:bu σ wo want.length wc 1 (gM want))(it:cq):
  bZ Tryz.prog 119 [.agg (cm it),.a (.v (.pointer (some ⟨g1,0,none⟩))),.a (.v (.pointer (some ⟨g2,0,none⟩)))] σ (fun v=>v=.bool (!decide (qZ X.ds it=want))):=by
 have hB:=Fs σ m hm X IX hl ho hF it
 generalize qZ X.ds it=z at *
 refine bW Tryz.func119 Z Z ⟨b6 0 it,trivial,trivial,trivial⟩ fun w=>?_
 refine Za ?_
 refine ck [(0,.quiet),(1,.quiet),(3,.quiet),(2,.dP),(4,.dP),(5,.pure),(6,.pure)] mixed Zk (aM TT rfl ?_)
 refine Ry 1 (aA X) rfl (az 0 X) pN (Zr ?_)
 refine oR (c:=.v (.slice wo want.length wc)) TT Z Z Z Z Z Z Z Z sQ trivial (Zr ?_)
 refine cr 5 (.agg (aA X)) rfl (az _ _) (fun _=>rfl) ?_
 refine cr 6 (.agg (cm it)) rfl (b6 _ _) (fun _=>rfl) ?_
 refine bN (ys:=[.agg (aA X),.agg (cm it)]) Z Z Z Z Z Tryz.call121 ⟨az 0 X,b6 0 it,trivial⟩ hB fun v s1 cP ⟨ao,cap,hv,HZ,hn⟩=>⟨.a (.v (.slice ao z.length cap)),trivial,hv.symm,?_⟩
 refine Zr ?_
 refine aT Z Z Z Z Z Tryz.call120 Zl (G7 s1 z want ao cap HZ wo wc (HW.mono cP)) fun v hv=>⟨.a (.b (decide (z=want))),trivial,hv.symm,?_⟩
 refine gn ?_
 refine aw TT rfl fun β w' _ _=>?_
 rfl
def Dn (ds:List eh) (line:Int) (p:dz):List cq:=if dm p then (lX (fun k=>decide (k=line)) ds).filter fun x=>decide (qZ ds x=cj p) else []
theorem xJ{q:Int->Bool}{ds:List eh}{n k:Nat}(h:∀ d∈ds,d.L.length<=n)(hk:ds.length<=k): (lX q ds).length<=k*n:=by
 have:(lX q ds).length<=ds.length*n:=by
  clear hk
  induction ds with
  | nil=>exact ay _
  | cons d ds ih =>
   have h1:=ih fun x hx=>h x (ba d hx)
   have h2:=h d a8
   have h3:(WD q d).length<=d.L.length:=by
    unfold WD
    rw[aR]
    refine ep (lx _ _) ?_
    rw[List.length_zip,CT]
    omega
   have e:lX q (d::ds)=WD q d++lX q ds:=by unfold lX;rw[List.flatMap_cons]
   rw[e,af,List.length_cons,Nat.succ_mul]
   omega
 exact ep this (cn _ hk)
theorem XE{σ:al}{g e sz:Nat}{cs:List AT}(hlen:cs.length=sz)(dj:∀ c∈cs,c.lt 0)(hS:b9 σ ⟨some ⟨g,0,none⟩,1,1,e,sz,cs.map AT.val⟩): ∀(j:Nat) c,cs[j]?=some c->σ.cell ((⟨g,0,none⟩:Addr).add j)=some (c.den fy):=by
 have H:bu σ (some ⟨g,0,none⟩) 1 1 sz [cs]:=hS.sl (by simp) (fun r hr=>by rw[aU] at hr;subst hr;exact⟨hlen,dj⟩) Z Z (aq _)
 intro j c hc
 rcases H.at_ with h | ⟨ad,h1,h2⟩
 ·cases h
 ·injection h1 with h1
  subst h1
  have:=h2 0 cs j c rfl hc
  rw[Nat.zero_mul,cG] at this
  exact this
theorem FV(σ:al)(m:Int)(hm:σ.cell ⟨0,0,none⟩=some (.int .i64 m))(X:kR)(IX:iS σ X)(hl:X.ds.length<=1000)(hd:∀ d∈X.ds,d.ids.length=d.L.length/\d.L.length<=100000)(ho:X.ds.Pairwise fun x y=>x.id<y.id)(hF:yn X)(line:Int)(p:dz)(hp:p.n.dg.size<=bJ/\p.s.size<=1000000):
  fa Tryz.prog 46 [.agg (aA X),.a (.v (.int .i64 line)),.agg (cc p)] σ (fun v bD=>∃ oo oc,v=.slice oo (Dn X.ds line p).length oc/\bu bD oo (Dn X.ds line p).length oc 5 (eP (Dn X.ds line p))):=by
 refine ek Tryz.func46 Z Z ⟨az 0 X,trivial,bT 0 p,trivial⟩ fun w=>?_
 refine Za ?_
 refine cr 8 (.agg (cc p)) rfl (bT _ _) (fun _=>rfl) ?_
 refine bN (ys:=[.agg (cc p)]) Z Z Z Z Z Tryz.call117 ⟨bT 0 p,trivial⟩ (Gh σ m hm p hp) fun v s1 cP ⟨wo,wc,hv,HW,hn⟩=>⟨.a (.v (.slice wo (cj p).length wc)),trivial,hv.symm,?_⟩
 have IX:=IX.mono cP
 have hm:=cP.cell hm
 refine pC ?_
 by_cases h:dm p=true
 rotate_left
 ·have h:dm p=false:=by simpa using h
  have e:Dn X.ds line p=[]:=by unfold Dn;rw[h];rfl
  rw[e]
  rw[hn (qC.2 h)]
  refine aG rfl (fun _=>?_) (fun h=>absurd h (by simp))
  refine Zb ?_
  refine aw TT rfl fun β w' _ _=>?_
  exact⟨none,0,rfl,bu.nil _ none 0 5⟩
 have jv:=qm h
 have mT:0<(cj p).length:=List.length_pos_iff.2 jv
 have e:Dn X.ds line p=(lX (fun k=>decide (k=line)) X.ds).filter fun x=>decide (qZ X.ds x=cj p):=by unfold Dn;rw[au h]
 obtain⟨wa,rfl⟩:=HW.Wj mT
 have hlen:=xJ (q:=fun k=>decide (k=line)) (n:=100000) (k:=1000) (fun d h=>(hd d h).2) hl
 refine aG rfl (fun h=>absurd h (by simp)) (fun _=>?_)
 refine Zc ?_
 refine gP 0 1 4 rfl (az 0 X) rfl (by decide) fun g1=>?_
 refine gP 2 1 1 rfl Zl rfl (by decide) fun g2=>?_
 refine iI 0 Z Z Z fun s2 cw x4=>?_
 refine iI 0 Z Z Z fun s3 kV Fy=>?_
 have pN:=XE (sz:=4) rfl (az 0 X) x4
 have sQ:=Dz Fy
 have pN:∀(j:Nat) c,(aA X)[j]?=some c->s3.cell ((⟨g1,0,none⟩:Addr).add j)=some (c.den fy):=fun j c h=>kV.cell (pN j c h)
 have hle:=al.le_trans cw kV
 have IX:=IX.mono hle
 have hm:=hle.cell hm
 have HW:=HW.mono hle
 refine cr 12 (.agg (aA X)) rfl (az _ _) (fun _=>rfl) ?_
 refine dT [] (A0:=[]) (Ar:=[]) (ys:=[.agg (aA X),.a (.v (.int .i64 line))]) Z Z Z Z Z Z Z Tryz.call100 ⟨az 0 X,trivial,trivial⟩ (Wo s3 X IX hl hd line) fun v s4 A' pM ⟨oo,oc,hv,j6,hA⟩=>⟨.a (.v (.slice oo (lX (fun k=>decide (k=line)) X.ds).length oc)),trivial,hv.symm,?_⟩
 subst hA
 generalize lX (fun k=>decide (k=line)) X.ds=L at *
 have ef:(L.filter fun x=>!(!decide (qZ X.ds x=cj p)))=Dn X.ds line p:=by
  rw[e]
  simp only[Bool.not_not]
 have Nv:(SV.a (.fn (.func 119) [.val (.pointer (some ⟨g1,0,none⟩)),.val (.pointer (some ⟨g2,0,none⟩))])).lt 0:=fun x hx=>by
  simp only[bM,dA,or_false] at hx
  rcases hx with rfl | rfl<;>trivial
 refine Zr ?_
 refine dT [0] (A0:=[Hq oo oc L]) (Ar:=[]) (ys:=[.a (.v (.slice oo L.length oc)),.a (.fn (.func 119) [.val (.pointer (some ⟨g1,0,none⟩)),.val (.pointer (some ⟨g2,0,none⟩))])]) Z Z Z Z Z Z Z Tryz.call118 ⟨trivial,Nv,trivial⟩
  (Hj s4 L Zo oo oc j6 119 [.val (.pointer (some ⟨g1,0,none⟩)),.val (.pointer (some ⟨g2,0,none⟩))] ⟨trivial,trivial,trivial⟩ Tryz.call119 Nv (fun x=>!decide (qZ X.ds x=cj p)) fun s hs z=>T1 s m ((al.le_trans pM hs).cell hm) X (IX.mono (al.le_trans pM hs)) Zo ho hF g1 (fun j c h=>(al.le_trans pM hs).cell (pN j c h)) g2 (cj p) (some wa) wc ((al.le_trans pM hs).cell sQ) (HW.mono (al.le_trans pM hs)) z)
  fun v s5 A' wX ⟨to,tc,hv,DT,hA⟩=>⟨.a (.v (.slice to (L.filter fun x=>!(!decide (qZ X.ds x=cj p))).length tc)),trivial,hv.symm,?_⟩
 subst hA
 rw[ef] at DT ⊢
 refine gn ?_
 refine dD 0 Z Z fun s6 AR hS=>?_
 refine aw TT rfl fun β w' _ _=>?_
 exact⟨to,tc,rfl,ny hS DT⟩
def Ja (c:UInt8):aJ:=.mk 2 false ⟨false,ju [c],0⟩ bF [] [] []
def AX (c:UInt8):aJ:=.mk 5 false fA bF [] [⟨#[97]⟩] [Ja c]
theorem I9(σ:al)(c:UInt8): eQ σ (Ja c) (dN (Ja c) none 0 none 0):=by
 simp only[Ja,eQ]
 exact⟨none,0,[],none,0,[],rfl,bu.nil _ _ _ _,rfl,rfl,bu.nil _ _ _ _,rfl,(by rw[gB];show 1<=bJ;decide),by decide,by decide,by decide,fun k h=>(by cases h)⟩
def kP (c:UInt8):List aH:=[⟨1,4,0,5,false,bF,false,fA,bF⟩,⟨2,3,1,2,true,⟨#[97]⟩,false,⟨false,ju [c],0⟩,bF⟩]
theorem AD: gN (AX 49) 1=(kP 49,0):=by decide
theorem AB: gN (AX 50) 1=(kP 50,0):=by decide
theorem Km: eG (kP 49)=true:=by decide
theorem Kl: eG (kP 50)=true:=by decide
theorem TD: rT (kP 49):=⟨by decide,fun r hr=>by simp only[kP,bM,dA,or_false] at hr;rcases hr with rfl | rfl<;>exact⟨by decide,by decide,by decide⟩,fun _=>by decide⟩
theorem TC: rT (kP 50):=⟨by decide,fun r hr=>by simp only[kP,bM,dA,or_false] at hr;rcases hr with rfl | rfl<;>exact⟨by decide,by decide,by decide⟩,fun _=>by decide⟩
theorem AF(c:UInt8): kr 0 (kP c):=by
 refine⟨by decide,by decide,?_⟩
 exact⟨by show(0:Int)<=1;decide,by show(1:Int)<=(((0:Int).toNat+1:Nat):Int);decide,trivial⟩
theorem Ko: fq (kP 49)=[[],[aS]]:=by decide
theorem Kn: fq (kP 50)=[[],[aS]]:=by decide
theorem FT{ps:List fH}(h:ps.map fH.ss=[[],[aS]]): ∃ a0 c0 a1 c1,ps=[⟨a0,c0,[]⟩,⟨a1,c1,[aS]⟩]:=by
 match ps,h with
 | [⟨a0,c0,s0⟩,⟨a1,c1,s1⟩],h =>
  simp only[bx,gi,List.cons.injEq,and_true] at h
  obtain⟨rfl,rfl⟩:=h
  exact⟨a0,c0,a1,c1,rfl⟩
theorem PM(a0:Option Addr)(c0:Nat)(a1:Option Addr)(c1:Nat)(b0:Option Addr)(d0:Nat)(b1:Option Addr)(d1:Nat): bS ⟨[⟨0,a0,c0,[],1⟩,⟨1,a1,c1,[aS],1⟩],2,[]⟩ [⟨b0,d0,[]⟩,⟨b1,d1,[aS]⟩]=⟨[⟨0,a0,c0,[],2⟩,⟨1,a1,c1,[aS],2⟩],2,[0,1]⟩:=rfl
def H5:dz:=⟨2,false,⟨false,ju [50],0⟩,iz,0⟩
theorem NX(o1:Option Addr)(c1:Nat)(l1:Option Addr)(k1:Nat)(o2:Option Addr)(c2:Nat)(l2:Option Addr)(k2:Nat):
  lX (fun k=>decide (k=1)) [⟨1,o1,c1,kP 49,l1,k1,[0,1]⟩,⟨2,o2,c2,kP 50,l2,k2,[0,1]⟩]=[⟨1,1,2,3,1⟩,⟨2,1,2,3,1⟩]:=rfl
theorem Wh(o1:Option Addr)(c1:Nat)(l1:Option Addr)(k1:Nat)(o2:Option Addr)(c2:Nat)(l2:Option Addr)(k2:Nat):
  Dn [⟨1,o1,c1,kP 49,l1,k1,[0,1]⟩,⟨2,o2,c2,kP 50,l2,k2,[0,1]⟩] 1 H5=[⟨2,1,2,3,1⟩]:=by
 have h1:qZ [⟨1,o1,c1,kP 49,l1,k1,[0,1]⟩,⟨2,o2,c2,kP 50,l2,k2,[0,1]⟩] ⟨1,1,2,3,1⟩=cj ⟨2,false,⟨false,ju [49],0⟩,iz,0⟩:=rfl
 have h2:qZ [⟨1,o1,c1,kP 49,l1,k1,[0,1]⟩,⟨2,o2,c2,kP 50,l2,k2,[0,1]⟩] ⟨2,1,2,3,1⟩=cj H5:=rfl
 unfold Dn
 rw[NX,au (by decide),dS,h1,ai (by decide),dS,h2,au (by decide)]
 rfl
end Go.Sy
namespace Go.Sy
def lO (L:List aH) (k:Int):Nat->Nat
 | 0=>0
 | p+1=>if (L[p+1]?.map aH.lv).getD 0 > k then lO L k p else p+1
end Go.Sy
namespace Go.Sy
open Go.Proofs
def wA (it:cq) (k:Int) (d:eh):Option cq :=
 match kG it d with
 | none=>none
 | some _=>if k<0\/it.lv<k then none else (d.L[lO d.L k it.at_.toNat]?).map fun r=>dZ d.id r (lO d.L k it.at_.toNat)
def A8 (ds:List eh) (it:cq) (k:Int):Option cq:=(ds.find? fun d=>decide (d.id=it.doc)).bind (wA it k)
def Js:cq:=⟨0,0,0,0,0⟩
def upV (o:Option cq):Value:=.tuple #[(SV.agg (cm (o.getD Js))).den fy,.bool o.isSome]
theorem DG{L:List aH}{k:Int}{p:Nat}{r:aH}(hr:L[p+1]?=some r)(h:r.lv > k): lO L k (p+1)=lO L k p:=by
 rw[lO,hr]
 exact au h
theorem DF{L:List aH}{k:Int}{p:Nat}{r:aH}(hr:L[p]?=some r)(h:¬ r.lv > k): lO L k p=p:=by
 cases p with
 | zero=>rfl
 | succ p =>
  rw[lO,hr]
  exact ai h
theorem Oz{ds:List eh}{it:cq}{p:Nat}(ho:ds.Pairwise fun x y=>x.id<y.id)(hp:iC ds it.doc p){r:aH}(h:recAt ds it=some r):
  ∃ d,ds[p]?=some d/\d.id=it.doc/\kG it d=some r/\lf ds it.doc p=true/\∀ k,A8 ds it k=wA it k d:=by
 have hi:lf ds it.doc p=true:=by
  cases hb:lf ds it.doc p with
  | true=>rfl
  | false=>rw[Cm ho hp hb] at h;cases h
 obtain⟨d,h1,h2,h3⟩:=Cl ho hp hi
 refine⟨d,h1,h2,by rw[<-h3,h],hi,fun k=>?_⟩
 unfold A8
 rw[tJ ho hp,hi,au rfl,h1]
 rfl
theorem K7{it:cq}{d:eh}{r:aH}(h:kG it d=some r): ∃ n:Nat,it=dZ d.id r n/\d.L[n]?=some r:=by
 unfold kG at h
 split at h
 ·cases h
 rename_i h0
 split at h
 ·cases h
 ·rename_i x hx
  split at h
  ·rename_i he
   injection h with h
   subst h
   exact⟨it.at_.toNat,he.symm,hx⟩
  ·cases h
theorem Qp{ds:List eh}{it:cq}(h:recAt ds it=none)(k:Int): A8 ds it k=none:=by
 unfold recAt at h
 unfold A8
 cases hf:ds.find? fun d=>decide (d.id=it.doc) with
 | none=>rfl
 | some d =>
  rw[hf] at h
  have h:kG it d=none:=h
  show wA it k d=none
  unfold wA
  rw[h]
theorem ap2(σ:al)(X:kR)(IX:iS σ X)(hl:X.ds.length<=1000000)(ho:X.ds.Pairwise fun x y=>x.id<y.id)(Nk:∀ d∈X.ds,∀ r,d.L[0]?=some r->r.lv<=0)(DW:∀ d∈X.ds,d.L.length<=100000)(it:cq)(k:Int):
  bZ Tryz.prog 37 [.agg (aA X),.agg (cm it),.a (.v (.int .i64 k))] σ (fun v=>v=upV (A8 X.ds it k)):=by
 have hR:=IE σ X IX hl ho it
 refine bW Tryz.func37 Z Z ⟨az 0 X,b6 0 it,trivial,trivial⟩ fun w=>?_
 refine Za ?_
 refine cr 15 (.agg (aA X)) rfl (az _ _) (fun _=>rfl) ?_
 refine cr 16 (.agg (cm it)) rfl (b6 _ _) (fun _=>rfl) ?_
 refine aT (ys:=[.agg (aA X),.agg (cm it)]) Z Z Z Z Z Tryz.call101 ⟨az 0 X,b6 0 it,trivial⟩ hR fun v hv=>⟨.ik [.agg (di ((recAt X.ds it).getD yO)),.a (.b (recAt X.ds it).isSome)],(by intro x hx;simp only[bM,dA,or_false] at hx;rcases hx with rfl | rfl;exact fP 0 _;trivial),hv.symm,?_⟩
 refine gX ?_
 cases hr:recAt X.ds it with
 | none =>
  rw[Qp hr]
  refine ax 22 rfl (fun _=>?_) (fun h=>absurd h (by simp))
  refine gn ?_
  refine aw TT rfl fun β w' _ _=>?_
  rfl
 | some r =>
  refine ax 22 rfl (fun h=>absurd h (by simp)) (fun _=>?_)
  refine Zr ?_
  refine ax 26 rfl (fun h=>?_) (fun h=>?_)
  ·have h:k<0:=ae h
   have e:A8 X.ds it k=none:=by
    unfold A8
    cases hf:X.ds.find? fun d=>decide (d.id=it.doc) with
    | none=>rfl
    | some d =>
     show wA it k d=none
     unfold wA
     split
     ·rfl
     ·rw[au (.inl h)]
   rw[e]
   refine gn ?_
   refine aw TT rfl fun β w' _ _=>?_
   rfl
  have fQ:¬ k<0:=ab h
  refine gX ?_
  refine aG rfl (fun h=>?_) (fun h=>?_)
  ·have h:it.lv<k:=ae h
   have e:A8 X.ds it k=none:=by
    unfold A8
    cases hf:X.ds.find? fun d=>decide (d.id=it.doc) with
    | none=>rfl
    | some d =>
     show wA it k d=none
     unfold wA
     split
     ·rfl
     ·rw[au (.inr h)]
   rw[e]
   refine Zb ?_
   refine aw TT rfl fun β w' _ _=>?_
   rfl
  have zm:¬ it.lv<k:=ab h
  refine Zc ?_
  refine cr 34 (.agg (aA X)) rfl (az _ _) (fun _=>rfl) ?_
  refine aT (ys:=[.agg (aA X),.a (.v (.int .i64 it.doc))]) Z Z Z Z Z Tryz.call102 ⟨az 0 X,trivial,trivial⟩ (xG σ X IX.lT hl ho it.doc) fun v ⟨p,hv,hp⟩=>⟨.ik [.a (.v (.int .i64 p)),.a (.b (lf X.ds it.doc p))],Zl,hv.symm,?_⟩
  obtain⟨d,hd,hid,hri,hia,Ya⟩:=Oz ho hp hr
  have An:=IX.doc d (aC hd)
  have px:=(ah.1 hd).1
  have bU:=iQ hd
  have WU:=Nk d (aC hd)
  have DW:=DW d (aC hd)
  rw[Ya]
  have hui:wA it k d=(d.L[lO d.L k it.at_.toNat]?).map fun r=>dZ d.id r (lO d.L k it.at_.toNat):=by
   unfold wA
   rw[hri]
   dsimp only
   rw[ai Zo]
  rw[hui]
  obtain⟨n,hit,hLn⟩:=K7 hri
  have hat:it.at_=n:=by rw[hit];rfl
  rw[hat,cd]
  have wk:=(ah.1 hLn).1
  refine gX ?_
  refine bk TT Z Z Z Z Z Z Z Z Z IX.lT Zo bU (Zr ?_)
  refine Zd ?_
  refine bX (fun(_:Nat)=>σ) (fun(q:Nat)=>[(2,.a (.v (.int .i64 k))),(6,.a (.p 2 0)),(7,.a .ff),(12,.a (.p 5 0)),(13,.a (.v (.int .i64 (q:Nat))))]) (fun _=>[(2,.loc 71,cm Js),(5,.loc 90,gL d)]) (fun _=>[]) 6 (fun q=>q<d.L.length/\lO d.L k q=lO d.L k n) (fun q=>q) n ⟨wk,rfl⟩ rfl Zs Zs rfl Zl Zl fun q ⟨hql,Vw⟩=>?_
  have hx:=aa hql
  have pU:=dn hx
  have Yx:=GA σ d An.1 q _ hx
  generalize d.L[q]=y at *
  refine Za ?_
  refine bk TT Z Z Z Z Z Z Z Z Z An.1 Zo pU (Zr ?_)
  refine Za ?_
  refine aG rfl (fun h=>?_) (fun h=>?_)
  ·have h:y.lv > k:=ae h
   obtain⟨q',rfl⟩:∃ q',q=q'+1:=by
    cases q with
    | zero=>have:=WU y hx;omega
    | succ q'=>exact⟨q',rfl⟩
   rw[DG hx h] at Vw
   refine Zg ?_
   refine gu 13 (.a (.v (.int .i64 (q':Nat)))) rfl trivial (fun _=>aN (Value.int .i64) Zo) ?_
   refine an q' ⟨by omega,Vw⟩ (db q') rfl Zs Zs rfl Zl Zl
  have h:¬ y.lv > k:=ab h
  rw[DF hx h] at Vw
  rw[<-Vw,hx]
  refine Ze ?_
  refine cr 57 (.agg (gL d)) rfl (eJ _ _) (fun _=>rfl) ?_
  refine aT (ys:=[.agg (gL d),.a (.v (.int .i64 q))]) Z Z Z Z Z Tryz.call103 ⟨eJ 0 d,trivial,trivial⟩ Yx fun v hv=>⟨.agg (cm (dZ d.id y q)),b6 _ _,hv.symm,?_⟩
  refine gn ?_
  refine aw TT rfl fun β w' _ _=>?_
  rfl
end Go.Sy
