/- Parts of the proof of CStreamsPlay: Pw, P8, P9, P12, Pn, P13, P14, Pm, P10, P11, P15. No conditions. -/
import Derived.Test.YtlonlnagmfdlbaaGreatDoorM12
set_option maxRecDepth 100000
set_option maxHeartbeats 16000000
namespace Go.Sy
theorem uw{L:List aH}(h:eG L=true): (∀ r,L[0]?=some r->r.lv=0)/\∀(i:Nat) (r:aH),0<i->L[i]?=some r->1<=r.lv:=by
 obtain⟨hl,-,-⟩:=rZ h
 generalize (fB L).1=g at hl
 generalize (L.head?.map aH.en).getD 0=e at hl
 clear h
 cases hl with
 | mk h1 h2 h3 h4 =>
  have ud:=h2.XX
  refine⟨fun r hr=>?_,fun i r hi hr=>?_⟩
  ·rw[bn] at hr
   obtain rfl:=bI hr
   rfl
  ·obtain⟨j,rfl⟩:∃ j,i=j+1:=⟨i - 1,by omega⟩
   rw[bg] at hr
   have:=(ud r (aC hr)).1
   omega
theorem Ae{L:List aH}{lv:Int}: ∀ {k:Nat},kJ L lv k = -1->k<=L.length->∀(m:Nat) (z:aH),m<k->L[m]?=some z->lv<=z.lv
 | 0,_,_,m,z,hm,_=>by omega
 | k+1,h,hk,m,z,hm,hz=>by
  have hy:L[k]?=some (L[k]'Zo):=aa _
  rw[kJ,hy] at h
  dsimp only[Option.map_some,Option.getD_some] at h
  split at h
  ·rename_i hn
   by_cases e:m=k
   ·subst e
    rw[hy] at hz
    obtain rfl:=bI hz
    omega
   ·exact Ae h Zo m z Zo hz
  ·omega
theorem Rh{L:List aH}(hs:eG L=true){i:Nat}{r:aH}(hr:L[i]?=some r)(h0:0<r.lv):
  ∃(p:Nat) (x:aH),hH L i=p/\p<i/\L[p]?=some x/\x.lv=r.lv - 1/\∀(m:Nat) (z:aH),p<m->m<i->L[m]?=some z->r.lv<=z.lv:=by
 obtain⟨Nk,-⟩:=uw hs
 obtain⟨-,JB,-⟩:=uy hs
 have Eu:=(ah.1 hr).1
 have hi0:0<i:=by
  rcases nd i with e | e
  ·subst e
   have:=Nk r hr
   omega
  ·exact e
 have ud:xR L i=r.lv:=qG hr
 obtain⟨b1,b2⟩:=nt L i
 have jv:hH L i ≠ -1:=fun h=>by
  unfold hH at h
  have h0r:=aa (show 0<L.length by omega)
  have h1:=Ae h Zo 0 _ hi0 h0r
  have h2:=Nk _ h0r
  have h3:((L[i]?.map aH.lv).getD 0)=r.lv:=by rw[hr];rfl
  rw[h3] at h1
  omega
 obtain⟨p,hp⟩:∃ p:Nat,hH L i=p:=⟨(hH L i).toNat,by omega⟩
 have Sa:=hp
 unfold hH at Sa
 have h3:((L[i]?.map aH.lv).getD 0)=r.lv:=by rw[hr];rfl
 rw[h3] at Sa
 obtain⟨⟨x,hx,pa⟩,hb⟩:=uI Sa Zo
 refine⟨p,x,hp,by omega,hx,?_,hb⟩
 have ZA:p<i:=by omega
 have hy:=aa (show p+1<L.length by omega)
 have h4:=JB p x _ hx hy
 by_cases e:p+1=i
 ·rw[<-e,hy] at hr
  have hr:=bI hr
  rw[hr] at h4
  omega
 ·have:=hb (p+1) _ Zo Zo hy
  omega
theorem IQ{L:List aH}(hs:eG L=true){i:Nat}{r:aH}(hr:L[i]?=some r)(h0:r.lv<=0): i=0/\hH L i = -1:=by
 obtain⟨-,mT⟩:=uw hs
 have e:i=0:=by
  rcases nd i with e | e
  ·exact e
  ·have:=mT i r e hr
   omega
 subst e
 have:=nt L 0
 exact⟨rfl,by omega⟩
theorem ab1{L:List aH}(hs:eG L=true){i:Nat}(hi:i<L.length): U1 L i=hH L i:=by
 unfold U1 KH
 rw[hs,bj (show(0:Int)<=i by omega),bj (show(i:Int)<L.length by omega)]
 exact xB (uy hs).1 hi
theorem AA{L:List aH}{k:Int}{p:Nat}: ∀ {i:Nat},p<=i->(∀(m:Nat),p<m->m<=i->∃ z,L[m]?=some z/\z.lv > k)->lO L k i=lO L k p
 | 0,h,_=>by
  have:p=0:=by omega
  rw[this]
 | i+1,h,hb=>by
  by_cases e:p=i+1
  ·rw[e]
  ·obtain⟨z,hz,hzk⟩:=hb (i+1) Zo (aq _)
   rw[DG hz hzk]
   exact AA Zo fun m h1 h2=>hb m h1 Zo
theorem TA{L:List aH}{k:Int}{i p:Nat}{r:aH}(hr:L[i]?=some r)(hk:r.lv > k)(ZA:p<i)(hb:∀(m:Nat) (z:aH),p<m->m<i->L[m]?=some z->r.lv<=z.lv): lO L k i=lO L k p:=by
 have Eu:=(ah.1 hr).1
 refine AA Zo fun m h1 h2=>?_
 by_cases e:m=i
 ·subst e
  exact⟨r,hr,hk⟩
 ·have hz:=aa (show m<L.length by omega)
  have:=hb m _ h1 Zo hz
  exact⟨_,hz,by omega⟩
theorem SW{ds:List eh}(ho:ds.Pairwise fun x y=>x.id<y.id){p:Nat}{d:eh}(hd:ds[p]?=some d): ds.find? (fun e=>decide (e.id=d.id))=some d:=by
 obtain⟨px,he⟩:=ah.1 hd
 rw[List.find?_eq_some_iff_getElem]
 refine⟨bj rfl,p,px,he,fun j hj=>?_⟩
 have:=dE.1 ho j p Zo px hj
 rw[he] at this
 simp only[iE,eD]
 omega
theorem Xt{ds:List eh}(ho:ds.Pairwise fun x y=>x.id<y.id){p:Nat}{d:eh}(hd:ds[p]?=some d){it:cq}(hi:d.id=it.doc)(k:Int): A8 ds it k=wA it k d:=by
 unfold A8
 rw[<-hi,SW ho hd]
 rfl
theorem Oa{ds:List eh}{it:cq}{k:Int}(h:∀ d∈ds,d.id≠it.doc\/kG it d=none): A8 ds it k=none:=by
 unfold A8
 cases hf:ds.find? (fun d=>decide (d.id=it.doc)) with
 | none=>rfl
 | some d =>
  have h1:=List.mem_of_find?_eq_some hf
  have h2:=List.find?_some hf
  rcases h d h1 with h3 | h3
  ·exact absurd (ae h2) h3
  ·show wA it k d=none
   unfold wA
   rw[h3]
def q8 (s:GStep):ByteArray:=if s.named then zG++s.key else wv
theorem sY{L:List aH}(h:eG L=true): ∀ r,L[0]?=some r->r.lv=0/\r.nm=false:=by
 obtain⟨hl,-,-⟩:=rZ h
 generalize (fB L).1=g at hl
 generalize (L.head?.map aH.en).getD 0=e at hl
 clear h
 cases hl with
 | mk h1 h2 h3 h4 =>
  intro r hr
  rw[bn] at hr
  obtain rfl:=bI hr
  exact⟨rfl,rfl⟩
theorem rh: ∀(L:List aH) (uj:List ByteArray) (i:Nat) (p:List ByteArray) (r:aH),(l6 uj L)[i]?=some p->L[i+1]?=some r->(l6 uj L)[i+1]?=some (ph p r)
 | [],_,_,_,_,_,hr=>by simp at hr
 | x::l,uj,0,p,r,h,hr=>by
  rw[l6,bn] at h
  obtain rfl:=bI h
  rw[bg] at hr
  rw[l6,bg]
  cases l with
  | nil=>simp at hr
  | cons y l =>
   rw[bn] at hr
   obtain rfl:=bI hr
   rw[l6,bn]
 | x::l,uj,i+1,p,r,h,hr=>by
  rw[l6,bg] at h ⊢
  rw[bg] at hr
  exact rh l _ i p r h hr
def F8 (r:aH):ByteArray:=if r.nm then zG++r.name else wv
theorem tj{r:aH}(h:1<=r.lv)(p:List ByteArray): ph p r=p.take (r.lv - 1).toNat++[F8 r]:=by
 unfold ph F8
 split
 ·rfl
 ·rw[au Zo]
theorem wO{L:List aH}{i:Nat}(h:i<L.length): ∃ p,(fq L)[i]?=some p:=by
 unfold fq
 exact⟨_,aa (by rw[m5];exact h)⟩
theorem Ct{L:List aH}(hs:eG L=true){r:aH}(hr:L[0]?=some r): (fq L)[0]?=some [] :=
 OC hr (sY hs r hr).1 (sY hs r hr).2
theorem vp{L:List aH}(hs:eG L=true): ∀(i:Nat) (r:aH) (p:List ByteArray),L[i]?=some r->(fq L)[i]?=some p->(p.length:Int)=r.lv
 | 0,r,p,hr,hp=>by
  rw[Ct hs hr] at hp
  obtain rfl:=bI hp
  rw[(sY hs r hr).1]
  rfl
 | i+1,r,p,hr,hp=>by
  have Eu:=(ah.1 hr).1
  have Es:=aa (show i<L.length by omega)
  obtain⟨p0,Vy⟩:=wO (show i<L.length by omega)
  have ih:=vp hs i _ p0 Es Vy
  have h1:=(uw hs).2 (i+1) r (Nat.succ_pos i) hr
  have h2:=(uy hs).2.1 i _ r Es hr
  have hq:=rh L [] i p0 r Vy hr
  rw[show l6 [] L=fq L from rfl,hp] at hq
  obtain rfl:=bI hq
  rw[tj h1,af,aE]
  show((min (r.lv - 1).toNat p0.length+1:Nat):Int)=r.lv
  omega
theorem E6{L:List aH}(hs:eG L=true){q:Nat}{x:aH}{y:List ByteArray}(hx:L[q]?=some x)(hy:(fq L)[q]?=some y): ∀(i:Nat) (p:List ByteArray),q<=i->(fq L)[i]?=some p->i<L.length ->
  (∀(m:Nat) (z:aH),q<m->m<=i->L[m]?=some z->x.lv<z.lv)->p.take y.length=y
 | 0,p,hqi,hp,_,_=>by
  obtain rfl:q=0:=by omega
  rw[hy] at hp
  obtain rfl:=bI hp
  rw[aI]
 | i+1,p,hqi,hp,Eu,hb=>by
  by_cases e:q=i+1
  ·subst e
   rw[hy] at hp
   obtain rfl:=bI hp
   rw[aI]
  ·obtain⟨p0,Vy⟩:=wO (show i<L.length by omega)
   have ih:=E6 hs hx hy i p0 Zo Vy Zo fun m z a b=>hb m z a Zo
   have hr:=aa Eu
   have dj:=hb (i+1) _ Zo (aq _) hr
   have h1:=(uw hs).2 (i+1) _ (Nat.succ_pos i) hr
   have h2:=(uy hs).2.1 i _ _ (aa (show i<L.length by omega)) hr
   have ZG:=vp hs q x y hx hy
   have LX:=vp hs i _ p0 (aa (show i<L.length by omega)) Vy
   have hq:=rh L [] i p0 _ Vy hr
   rw[show l6 [] L=fq L from rfl,hp] at hq
   obtain rfl:=bI hq
   rw[tj h1,fY (by rw[aE];omega),kc,show min y.length (L[i+1].lv - 1).toNat=y.length by omega,ih]
theorem IP{L:List aH}(hs:eG L=true): ∀(n i:Nat),i<n->i<L.length->(fq L)[i]?=some ((jA L n i).map q8)
 | 0,i,h,_=>by omega
 | n+1,i,O9,Eu=>by
  have hr:=aa Eu
  rw[jA]
  generalize hrr:L[i]=r at hr
  clear hrr
  by_cases h0:0<r.lv
  ·obtain⟨p,x,hp,ZA,hx,pa,hb⟩:=Rh hs hr h0
   rw[hp,ai Zo,cd,aF]
   have ih:=IP hs n p Zo Zo
   generalize (jA L n p).map q8=y at ih ⊢
   obtain⟨j,rfl⟩:∃ j,i=j+1:=⟨i - 1,by omega⟩
   obtain⟨p0,Vy⟩:=wO (show j<L.length by omega)
   have al1:=E6 hs hx ih j p0 Zo Vy Zo fun m z a b c=>by
    have:=hb m z a Zo c
    omega
   have ZG:=vp hs p x y hx ih
   have hq:=rh L [] j p0 r Vy hr
   rw[show l6 [] L=fq L from rfl] at hq
   rw[hq,tj Zo,show(r.lv - 1).toNat=y.length by omega,al1]
   have e:q8 (oP L (j+1) p)=F8 r:=by
    unfold oP q8 F8
    rw[hr]
    dsimp only
    split
    ·rename_i h
     rw[au rfl]
    ·rfl
   rw[<-e]
   rfl
  ·obtain⟨rfl,hp⟩:=IQ hs hr Zo
   rw[hp,au Zo,Ct hs hr]
   rfl
theorem Ea{L:List aH}(hs:eG L=true){i:Nat}(hi:i<L.length): (fq L)[i]?=some ((jz L i).map q8):=IP hs (i+1) i (db i) hi
end Go.Sy
namespace Go.Sy
open Go.Proofs
def UX:List AT:=[.v (.int .i64 0),.v (.int .i64 0),.v (.int .i64 0),.v (.int .i64 0),.v (.int .i64 0)]
def ap3 (L:List aH) (k:Int) (n0:Nat) (l0:Int) (a:Int):Prop :=
 (∃(n:Nat) (r:aH),a=n/\L[n]?=some r/\lO L k n=lO L k n0/\(k<=r.lv\/n=n0)/\r.lv<=l0)\/(a = -1/\k<0)
def Z4 (a:Int):Nat:=(a+1).toNat
theorem aa8(σ:al)(X:kR)(IX:iS σ X)(hl:X.ds.length<=1000000)(ho:X.ds.Pairwise fun x y=>x.id<y.id)(hs:∀ d∈X.ds,eG d.L=true/\gJ d.L<=100000/\d.L.length<=4096)(it:cq)(lvl:Int):
  bZ Tryz.prog 53 [.agg (aA X),.agg (cm it),.a (.v (.int .i64 lvl))] σ (fun v=>v=upV (A8 X.ds it lvl)):=by
 refine bW Tryz.func53 Z Z ⟨az 0 X,b6 0 it,trivial,trivial⟩ fun w=>?_
 refine Zd ?_
 refine bX (fun(_:Nat)=>σ) (fun k=>[(2,.a (.v (.int .i64 lvl))),(3,.a (.p 0 0)),(4,.a (.p 1 0)),(6,.a (.p 2 0)),(8,.a (.v (.int .i64 k)))]) (fun _=>[(0,.loc 114,aA X),(1,.loc 122,cm it),(2,.loc 122,UX)]) (fun _=>[]) 3
  (fun k=>k<=X.ds.length/\∀ d∈X.ds.take k,d.id≠it.doc\/kG it d=none) (fun k=>X.ds.length - k) 0 ⟨ay _,fun d hd=>(by cases hd)⟩ rfl Zs Zs rfl
  ⟨trivial,by show 0<3;omega,by show 1<3;omega,by show 2<3;omega,trivial,trivial⟩ (by exact⟨⟨by omega,az 3 X⟩,⟨by omega,b6 3 _⟩,⟨by omega,by simp[UX,AT.lt]⟩,trivial⟩) fun k ⟨hk,uO⟩=>?_
 refine Za ?_
 refine aG rfl (fun h=>?_) (fun h=>?_)
 rotate_left
 ·have fQ:k=X.ds.length:=by have:=ab h;omega
  rw[fQ,aI] at uO
  rw[Oa uO]
  refine Ze ?_
  refine aw TT rfl fun β w' _ _=>?_
  rfl
 have cz:k<X.ds.length:=by have:=ae h;omega
 have xj:=aa cz
 have bU:=iQ xj
 have L4:=hs X.ds[k] (aP cz)
 have An:=IX.doc X.ds[k] (aP cz)
 have Ya:=fun h=>Xt ho xj (it:=it) h lvl
 have mi:X.ds.take (k+1)=X.ds.take k++[X.ds[k]]:=ak cz
 generalize X.ds[k]=d at *
 obtain⟨WT,Nz,hLd⟩:=L4
 have ua:(d.id≠it.doc\/kG it d=none)->k+1<=X.ds.length/\∀ e∈X.ds.take (k+1),e.id≠it.doc\/kG it e=none:=fun h=>⟨cz,fun e he=>by
  rw[mi] at he
  rcases bz.1 he with he | he
  ·exact uO e he
  ·rw[aU] at he
   subst he
   exact h⟩
 refine Zd ?_
 refine bk TT Z Z Z Z Z Z Z Z Z IX.lT Zo bU (Zr ?_)
 refine Za ?_
 refine ck [(0,.pure),(1,.quiet),(2,.pure),(3,.quiet),(4,.pure),(5,.pure),(6,.pure),(7,.quiet),(8,.pure),(9,.pure),(10,.pure),(11,.pure),(12,.quiet),(13,.pure),(14,.quiet),(15,.pure),(16,.pure),(17,.pure),(18,.pure),(19,.quiet),(20,.pure),(21,.quiet),(23,.quiet),(22,.dP),(24,.pure),(25,.pure)] mixed Zk (aM TT rfl ?_)
 refine ax 28 rfl (fun h=>?_) (fun h=>?_)
 ·have h:d.id≠it.doc:=by
   have h:(!decide (d.id=it.doc))=true:=h
   simpa using h
  refine pC ?_
  refine an (k+1) (ua (.inl h)) Zo rfl Zs Zs rfl Zl Zl
 have hid:d.id=it.doc:=by
  have h:(!decide (d.id=it.doc))=false:=h
  simpa using h
 have Ya:=Ya hid
 refine Zr ?_
 refine ax 33 rfl (fun h=>?_) (fun h=>?_)
 ·have h:it.at_<0:=ae h
  have e:kG it d=none:=by unfold kG;rw[au h]
  refine pC ?_
  refine an (k+1) (ua (.inr e)) Zo rfl Zs Zs rfl Zl Zl
 have h0:¬ it.at_<0:=ab h
 obtain⟨n0,Hu⟩:∃ n:Nat,it.at_=n:=⟨it.at_.toNat,by omega⟩
 refine Zr ?_
 refine ax 41 rfl (fun h=>?_) (fun h=>?_)
 ·have h:(d.L.length:Int)<=it.at_:=ae h
  have e:kG it d=none:=by unfold kG;rw[ai h0,jO Zo]
  refine pC ?_
  refine an (k+1) (ua (.inr e)) Zo rfl Zs Zs rfl Zl Zl
 have h1:¬ (d.L.length:Int)<=it.at_:=ab h
 have wk:n0<d.L.length:=by omega
 have Es:=aa wk
 have hit:=Ge σ d An.1 n0 _ Es
 have V1:kG it d=if dZ d.id d.L[n0] n0=it then some d.L[n0] else none:=by
  unfold kG
  rw[ai h0,show it.at_.toNat=n0 by omega,Es]
 generalize d.L[n0]=r0 at *
 refine Zr ?_
 refine cr 42 (.agg (gL d)) rfl (eJ _ _) (fun _=>rfl) ?_
 refine cr 44 (.a (.v (.int .i64 n0))) rfl trivial (fun _=>aN (Value.int .i64) Hu) ?_
 refine aT (ys:=[.agg (gL d),.a (.v (.int .i64 n0))]) Z Z Z Z Z Tryz.call131 ⟨eJ 0 d,trivial,trivial⟩ hit fun v hv=>⟨.agg (cm (dZ d.id r0 n0)),b6 _ _,hv.symm,?_⟩
 refine Zr ?_
 refine z7 (dZ d.id r0 n0) it Z Z Z Z Z Z Z (Zr ?_)
 refine Za ?_
 refine aG rfl (fun h=>?_) (fun h=>?_)
 ·have h:dZ d.id r0 n0≠it:=by
   have h:(!decide (dZ d.id r0 n0=it))=true:=h
   simpa using h
  rw[ai h] at V1
  refine Zg ?_
  refine an (k+1) (ua (.inr V1)) Zo rfl Zs Zs rfl Zl Zl
 have Pb:dZ d.id r0 n0=it:=by
  have h:(!decide (dZ d.id r0 n0=it))=false:=h
  simpa using h
 rw[au Pb] at V1
 have ae4:it.lv=r0.lv:=by rw[<-Pb];rfl
 have hui:wA it lvl d=if lvl<0\/r0.lv<lvl then none else (d.L[lO d.L lvl n0]?).map fun r=>dZ d.id r (lO d.L lvl n0):=by
  unfold wA
  rw[V1]
  dsimp only
  rw[ae4,show it.at_.toNat=n0 by omega]
 rw[Ya,hui]
 refine Zd ?_
 refine bX (fun(_:Int)=>σ) (fun a=>[(2,.a (.v (.int .i64 lvl))),(6,.a (.p 2 0)),(9,.a (.p 4 0)),(10,.a (.v (.int .i64 a)))]) (fun _=>[(2,.loc 122,UX),(4,.loc 227,gL d)]) (fun _=>[]) 5
  (fun a=>ap3 d.L lvl n0 r0.lv a) Z4 it.at_ (.inl ⟨n0,r0,Hu,Es,rfl,.inr rfl,dB _⟩) rfl Zs Zs rfl
  ⟨trivial,by show 2<5;omega,by show 4<5;omega,trivial,trivial⟩ (by exact⟨⟨by omega,by simp[UX,AT.lt]⟩,⟨by omega,eJ 5 d⟩,trivial⟩) fun a ha=>?_
 refine Za ?_
 refine ax 53 rfl (fun h=>?_) (fun h=>?_)
 rotate_left
 ·have h:¬ a≥0:=ab h
  have LX:lvl<0:=by
   rcases ha with⟨n,r,e,_⟩ | ⟨_,e⟩
   ·omega
   ·exact e
  rw[au (.inl LX)]
  refine D2 ?_
  refine ax 69 rfl (fun _=>?_) (fun h2=>absurd (ab h2) Zo)
  refine gn ?_
  refine aw TT rfl fun β w' _ _=>?_
  rfl
 have h:a≥0:=ae h
 obtain⟨n,r,rfl,hr,Ew,tA,yy⟩:∃(n:Nat) (r:aH),a=n/\d.L[n]?=some r/\lO d.L lvl n=lO d.L lvl n0/\(lvl<=r.lv\/n=n0)/\r.lv<=r0.lv:=by
  rcases ha with ha | ⟨e,_⟩
  ·exact ha
  ·omega
 have al6:=(ah.1 hr).1
 have pU:=dn hr
 have Yx:=Ge σ d An.1 n r hr
 have mT:=(uw WT)
 have aq8:0<=r.lv:=by
  rcases nd n with e | e
  ·subst e
   have:=mT.1 r hr
   omega
  ·have:=mT.2 n r e hr
   omega
 have ag2:=PS σ d.L Nz hLd d.o d.cap An.1 n
 rw[ab1 WT al6] at ag2
 refine Zr ?_
 refine bk TT Z Z Z Z Z Z Z Z Z An.1 Zo pU (Zr ?_)
 refine Za ?_
 refine aG rfl (fun h2=>?_) (fun h2=>?_)
 ·have h2:r.lv > lvl:=ae h2
  refine Zd ?_
  refine aT Z Z Z Z Z Tryz.call132 Zl ag2 fun v hv=>⟨.a (.v (.int .i64 (hH d.L n))),trivial,hv.symm,?_⟩
  refine lP ?_
  have dj:=nt d.L n
  refine an (hH d.L n) ?_ (by unfold Z4;omega) rfl Zs Zs rfl Zl Zl
  by_cases h0:0<r.lv
  ·obtain⟨p,x,hp,ZA,hx,pa,hb⟩:=Rh WT hr h0
   exact .inl ⟨p,x,hp,hx,by rw[<-Ew,TA hr h2 ZA hb],.inl Zo,by omega⟩
  ·exact .inr ⟨(IQ WT hr Zo).2,by omega⟩
 have h2:¬ r.lv > lvl:=ab h2
 have pL:=DF hr h2
 rw[pL] at Ew
 rw[<-Ew,hr]
 refine Ze ?_
 refine ax 69 rfl (fun h3=>absurd (ae h3) Zo) (fun _=>?_)
 refine Zr ?_
 refine bk TT Z Z Z Z Z Z Z Z Z An.1 Zo pU (Zr ?_)
 refine Za ?_
 refine aG rfl (fun h3=>?_) (fun h3=>?_)
 ·have h3:¬ r.lv=lvl:=by
   have h3:(!decide (r.lv=lvl))=true:=h3
   simpa using h3
  have e:n=n0:=by omega
  have e2:r=r0:=by
   rw[e,Es] at hr
   exact(bI hr).symm
  rw[au (.inr (by rw[<-e2];omega))]
  refine Zb ?_
  refine aw TT rfl fun β w' _ _=>?_
  rfl
 have h3:r.lv=lvl:=by
  have h3:(!decide (r.lv=lvl))=false:=h3
  simpa using h3
 rw[ai Zo]
 refine Zc ?_
 refine cr 80 (.agg (gL d)) rfl (eJ _ _) (fun _=>rfl) ?_
 refine aT (ys:=[.agg (gL d),.a (.v (.int .i64 n))]) Z Z Z Z Z Tryz.call131 ⟨eJ 0 d,trivial,trivial⟩ Yx fun v hv=>⟨.agg (cm (dZ d.id r n)),b6 _ _,hv.symm,?_⟩
 refine gn ?_
 refine aw TT rfl fun β w' _ _=>?_
 rfl
end Go.Sy
namespace Go.Sy
open Go.Proofs
theorem Cc{L:List aH}{m:Nat}(h:∀ r∈L,r.name.size<=m): ∀(n i:Nat),∀ s∈jA L n i,s.key.size<=m
 | 0,_,s,hs=>by cases hs
 | n+1,i,s,hs=>by
  rw[jA] at hs
  split at hs
  ·cases hs
  ·rcases bz.1 hs with hs | hs
   ·exact Cc h n _ s hs
   ·rw[aU] at hs
    subst hs
    unfold oP
    split
    ·rename_i r hr
     split
     ·exact h r (aC hr)
     ·exact ay _
    ·exact ay _
structure RpS where
 s:al
 k:Nat
 out:List fH
 oo:Option Addr
 oc:Nat
structure RqS where
 j:Nat
 p:List ByteArray
 wo:Option Addr
 wc:Nat
theorem KQ{S:List GStep}{j:Nat}{s:GStep}(h:S[j]?=some s): (S.take (j+1)).map q8=(S.take j).map q8++[q8 s]:=by
 obtain⟨hl,rfl⟩:=ah.1 h
 rw[ak hl,aF]
 rfl
theorem Q4(σ:al)(L:List aH)(hs:eG L=true)(hW:gJ L<=100000)(hL:L.length<=4096)(ao:Option Addr)(cap:Nat)(H:bu σ ao L.length cap 11 (cv L)):
  fa Tryz.prog 189 [.a (.v (.slice ao L.length cap))] σ (fun v bD=>∃ ps oo oc,v=.slice oo ps.length oc/\bu bD oo ps.length oc 1 (oH ps)/\(∀ p∈ps,uh bD p)/\ps.map fH.ss=fq L):=by
 have R:=Bb hW
 have qg:∀ r∈L,r.name.size<=bJ:=fun r hr=>(R.fit r hr).2.2
 have T8:kp L=true:=by rw[yQ hL];exact hs
 have px:(fq L).length=L.length:=m5 _ _
 refine ek Tryz.func189 Z Z Zl fun w=>?_
 refine Za ?_
 refine aT Z Z Z Z Z Tryz.call143 Zl (DP σ L hW ao cap H) fun v hv=>⟨.a .tt,trivial,by rw[hv,T8];rfl,?_⟩
 refine pC ?_
 refine dV 209 1 ?_
 refine bX (fun(t:RpS)=>t.s) (fun t=>[(0,.a (.v (.slice ao L.length cap))),(3,.a (.v (.slice t.oo t.out.length t.oc))),(4,.a (.v (.int .i64 (t.k:Nat))))]) (fun _=>[]) (fun t=>[QF t.oo t.oc t.out]) 0
  (fun t=>σ.le t.s/\t.k<=L.length/\t.out.map fH.ss=(fq L).take t.k/\t.out.length<=t.oc/\t.out.length=t.k/\∀ q∈t.out,uh t.s q) (fun t=>L.length - t.k) ⟨σ,0,[],none,0⟩
  ⟨al.le_refl _,ay _,rfl,aq _,rfl,fun _ h=>(by cases h)⟩ rfl Zs Zs rfl Zl Zl fun⟨s,k,out,oo,oc⟩ ⟨hle,hk,ho,j6,mK,LP⟩=>?_
 dsimp only at hle hk ho j6 mK LP ⊢
 refine Za ?_
 refine aG rfl (fun h=>?_) (fun h=>?_)
 rotate_left
 ·have fQ:k=L.length:=by have:=ab h;omega
  rw[fQ,<-px,aI] at ho
  refine Ze ?_
  refine dD 0 Z Z fun s2 cw hS=>?_
  refine aw TT rfl fun β w' _ _=>?_
  exact⟨out,oo,oc,rfl,EK hS j6,fun q hq=>(LP q hq).mono cw,ho⟩
 have cz:k<L.length:=by have:=ae h;omega
 have HL:=H.mono hle
 have ZB:vm L k=jz L k:=by
  unfold vm KH
  rw[hs,bj (show(0:Int)<=k by omega),bj (show(k:Int)<L.length by omega)]
  rfl
 have Ak:=Ea hs cz
 have St:=Cc qg (k+1) k
 have pv:=uA L (k+1) k
 have hP:=TS s L hW hL ao cap HL k
 rw[ZB] at hP
 rw[show jA L (k+1) k=jz L k from rfl] at St pv
 have qt:(fq L).take (k+1)=(fq L).take k++[(jz L k).map q8]:=by
  obtain⟨hl,he⟩:=ah.1 Ak
  rw[ak hl,he]
 clear Ak ZB
 generalize jz L k=S at *
 refine Zd ?_
 refine bN Z Z Z Z Z Tryz.call224 ⟨trivial,trivial,trivial⟩ hP fun v s1 cP ⟨po,pc,hv,HP⟩=>⟨.a (.v (.slice po S.length pc)),trivial,hv.symm,?_⟩
 refine Hz ?_
 refine dV 9 1 ?_
 refine bX (fun(_:RqS)=>s1) (fun t=>[(0,.a (.v (.slice ao L.length cap))),(3,.a (.v (.slice oo out.length oc))),(4,.a (.v (.int .i64 (k:Nat)))),(5,.a (.v (.slice po S.length pc))),(6,.a (.v (.slice t.wo t.p.length t.wc))),(7,.a (.v (.int .i64 (t.j:Nat))))]) (fun _=>[]) (fun t=>[QF oo oc out,uv t.wo t.wc t.p]) 0
  (fun t=>t.j<=S.length/\t.p=(S.take t.j).map q8/\t.p.length<=t.wc) (fun t=>S.length - t.j) ⟨0,[],none,0⟩ ⟨ay _,rfl,aq _⟩ rfl Zs Zs rfl Zl Zl fun⟨j,p,wo,wc⟩ ⟨hj,hp,hwc⟩=>?_
 dsimp only at hj hp hwc ⊢
 have hpj:p.length=j:=by rw[hp,aR,aE];omega
 refine Za ?_
 refine aG rfl (fun h=>?_) (fun h=>?_)
 rotate_left
 ·have LZ:j=S.length:=by have:=ab h;omega
  rw[LZ,aI] at hp
  refine Ze ?_
  refine iI 1 Z Z Z fun s2 cw hS=>?_
  have rP:uh s2 ⟨wo,wc,p⟩:=⟨by dsimp only;omega,wC hS hwc⟩
  have C7:=al.le_trans cP cw
  have lJ:(out++[(⟨wo,wc,p⟩:fH)]).length=out.length+1:=by simp
  refine bl TT 0 Z Z Z Z Z Z Z Z Z Z Z Z Z Z Z Z Z Z Zl rfl Zo (by show(out.length+1)*24<=_;omega) fun om nE lS=>aM TT rfl ?_
  refine Zc ?_
  refine an (⟨s2,k+1,out++[⟨wo,wc,p⟩],om,nE⟩:RpS) ⟨al.le_trans hle C7,cz,by dsimp only;rw[aF,ho,qt,<-hp];rfl,by dsimp only;omega,by dsimp only;omega,fun q hq=>?_⟩ (by dsimp only;omega) rfl ?_ Zs ?_ Zl Zl
  ·rcases bz.1 hq with hq | hq
   ·exact(LP q hq).mono C7
   ·rw[aU] at hq
    subst hq
    exact rP
  ·dsimp only
   rw[lJ]
   (repeat first | exact trivial | refine⟨rfl,?_⟩)
  ·show [_]=[_]
   dsimp only
   unfold QF
   rw[zT,lJ]
   rfl
 have m2:j<S.length:=by have:=ae h;omega
 have Fw:=aa m2
 have bU:=F7 Fw
 have mi:=KQ Fw
 have GO:=St S[j] (aP m2)
 simp only[bJ] at GO
 generalize S[j]=x at *
 refine Zd ?_
 refine bk TT Z Z Z Z Z Z Z Z Z HP Zo bU (Zr ?_)
 refine Za ?_
 refine aG rfl (fun h=>?_) (fun h=>?_)
 ·have h:x.named=true:=h
  have e:q8 x=zG++x.key:=by unfold q8;rw[au h]
  refine Za ?_
  refine bk TT Z Z Z Z Z Z Z Z Z HP Zo bU (Zr ?_)
  refine yX Z Z Z Z Z Z (by show 1+x.key.size<=_;omega) (Zr ?_)
  refine bl TT 1 Z Z Z Z Z Z Z Z Z Z Z Z Z Z Z Z Z Z Zl rfl Zo (by show(p.length+1)*16<=_;omega) fun T4 T5 R8=>aM TT rfl ?_
  refine Zc ?_
  have lJ:(p++[zG++x.key]).length=p.length+1:=by simp
  refine an (⟨j+1,p++[zG++x.key],T4,T5⟩:RqS) ⟨m2,by dsimp only;rw[mi,hp,e],by dsimp only;omega⟩ (by dsimp only;omega) rfl ?_ Zs ?_ Zl Zl
  ·dsimp only
   rw[lJ]
   (repeat first | exact trivial | refine⟨rfl,?_⟩)
  ·show [_,_]=[_,_]
   dsimp only
   unfold uv zS
   rw[aF,lJ]
   rfl
 ·have h:x.named=false:=h
  have e:q8 x=wv:=by unfold q8;rw[h];rfl
  refine Za ?_
  refine bl TT 1 Z Z Z Z Z Z Z Z Z Z Z Z Z Z Z Z Z Z Zl rfl Zo (by show(p.length+1)*16<=_;omega) fun T4 T5 R8=>aM TT rfl ?_
  refine Zc ?_
  have lJ:(p++[wv]).length=p.length+1:=by simp
  refine an (⟨j+1,p++[wv],T4,T5⟩:RqS) ⟨m2,by dsimp only;rw[mi,hp,e],by dsimp only;omega⟩ (by dsimp only;omega) rfl ?_ Zs ?_ Zl Zl
  ·dsimp only
   rw[lJ]
   (repeat first | exact trivial | refine⟨rfl,?_⟩)
  ·show [_,_]=[_,_]
   dsimp only
   unfold uv zS
   rw[aF,lJ]
   rfl
end Go.Sy
namespace Go.Sy
open Go.Proofs
def K9 (ao:Option Addr) (cap:Nat) (l:List eh):AE:=⟨ao,l.length,cap,227,2,uX l⟩
theorem Co{σ:al}{ao:Option Addr}{cap:Nat}{l:List eh}(hS:b9 σ (K9 ao cap l))(hc:l.length<=cap): bu σ ao l.length cap 2 (dK l) :=
 hS.sl rfl (fun r hr=>⟨(fR l r hr).1,(fR l r hr).2.1⟩) (by simp[dK]) rfl hc
theorem Au(l:List eh)(k:Nat): (dK l).take k=dK (l.take k):=dG.symm
theorem J9(l:List eh)(k:Nat): (dK l).drop k=dK (l.drop k):=dR.symm
theorem Ag(l:List eh)(k:Nat): (eo l).take k=eo (l.take k):=dG.symm
theorem Jl(l:List eh)(k:Nat): (eo l).drop k=eo (l.drop k):=dR.symm
theorem NO{σ:al}{ao:Option Addr}{cap:Nat}{l:List eh}(H:bu σ ao l.length cap 2 (dK l)){k:Nat}(hk:k<=l.length): bu σ ao k cap 2 (dK (l.take k)):=by
 have:=H.ag3 hk
 rwa [Au] at this
theorem NN{σ:al}{ao:Option Addr}{cap:Nat}{l:List eh}(H:bu σ ao l.length cap 2 (dK l)){k:Nat}(hk:k<=l.length): bu σ (if cap=k then ao else ao.map (·.add (k*2))) (l.length - k) (cap - k) 2 (dK (l.drop k)):=by
 have:=H.sub hk (aq _)
 rwa [Au,aI,J9] at this
theorem M7{σ:al}{ao:Option Addr}{cap:Nat}{l:List eh}(H:bu σ ao l.length cap 1 (eo l)){k:Nat}(hk:k<=l.length): bu σ ao k cap 1 (eo (l.take k)):=by
 have:=H.ag3 hk
 rwa [Ag] at this
theorem M6{σ:al}{ao:Option Addr}{cap:Nat}{l:List eh}(H:bu σ ao l.length cap 1 (eo l)){k:Nat}(hk:k<=l.length): bu σ (if cap=k then ao else ao.map (·.add (k*1))) (l.length - k) (cap - k) 1 (eo (l.drop k)):=by
 have:=H.sub hk (aq _)
 rwa [Ag,aI,Jl] at this
def P7:List AT:=[.v (.slice none 0 0),.v (.slice none 0 0),.v (.int .i64 0),.v (.slice none 0 0)]
theorem oU(n:Nat): ∀ c∈P7,c.lt n:=by simp[P7,AT.lt]
def zJ (id:Int) (ao:Option Addr) (n cap:Nat):List AT:=[.v (.int .i64 id),.v (.slice ao n cap)]
theorem vK(m:Nat)(id:Int)(ao:Option Addr)(n cap:Nat): ∀ c∈zJ id ao n cap,c.lt m:=by simp[zJ,AT.lt]
theorem Q8(σ:al)(X:kR)(IX:iS σ X)(ho:X.ds.Pairwise fun x y=>x.id<y.id)(id:Int)(L:List aH)(hW:gJ L<=100000)(hL:L.length<=4096)(ao:Option Addr)(cap:Nat)(H:bu σ ao L.length cap 11 (cv L))(Db:X.ds.length<=1000)(m:Nat)(lj:nI m ⟨X.xs,X.next,[]⟩)(hm:m+L.length<=1000000):
  fa Tryz.prog 127 [.agg (aA X),.agg (zJ id ao L.length cap)] σ (fun v bD =>
   (eG L=false->v=(SV.ik [.agg (aA wj),.a (.v (.int .i64 2))]).den fy) /\
   (eG L=true->(∃ d∈X.ds,d.id=id)->v=(SV.ik [.agg (aA wj),.a (.v (.int .i64 7))]).den fy) /\
   (eG L=true->(∀ d∈X.ds,d.id≠id)->∃(X':kR) (p:Nat) (ps:List fH) (io:Option Addr) (ic:Nat),v=(SV.ik [.agg (aA X'),.a (.v (.int .i64 0))]).den fy/\iS bD X'/\iC X.ds id p /\
   ps.map fH.ss=fq L/\X'.ds=X.ds.take p++⟨id,ao,cap,L,io,ic,(bS ⟨X.xs,X.next,[]⟩ ps).ids⟩::X.ds.drop p/\X'.xs=(bS ⟨X.xs,X.next,[]⟩ ps).xs/\X'.next=(bS ⟨X.xs,X.next,[]⟩ ps).next/\nI (m+L.length) ⟨X'.xs,X'.next,[]⟩)):=by
 have T8:=yQ hL
 refine ek Tryz.func127 Z Z ⟨az 0 X,vK 0 _ _ _ _,trivial⟩ fun w=>?_
 refine Za ?_
 refine aT Z Z Z Z Z Tryz.call143 Zl (DP σ L hW ao cap H) fun v hv=>⟨.a (.b (eG L)),trivial,by rw[hv,T8];rfl,?_⟩
 refine gX ?_
 refine aG rfl (fun h=>?_) (fun h=>?_)
 ·have h:eG L=false:=by simpa using h
  refine Zb ?_
  refine aw TT rfl fun β w' _ _=>?_
  exact⟨fun _=>rfl,fun h2=>absurd h2 (by rw[h];decide),fun h2=>absurd h2 (by rw[h];decide)⟩
 have hs:eG L=true:=by simpa using h
 refine Zd ?_
 refine fm (fun _=>σ) (fun(p:Nat)=>[(2,.a (.p 0 0)),(3,.a (.p 1 0)),(4,.a (.p 2 0)),(6,.a (.v (.int .i64 p)))]) (fun _=>[(0,.loc 114,aA X),(1,.loc 227,zJ id ao L.length cap),(2,.loc 114,P7)]) (fun _=>[]) 3 (fun p=>iC X.ds id p) ?_ (fun p hp=>?_)
 ·refine bX (fun(_:Nat)=>σ) (fun k=>[(2,.a (.p 0 0)),(3,.a (.p 1 0)),(4,.a (.p 2 0)),(6,.a (.v (.int .i64 k)))]) (fun _=>[(0,.loc 114,aA X),(1,.loc 227,zJ id ao L.length cap),(2,.loc 114,P7)]) (fun _=>[]) 3
   (fun k=>k<=X.ds.length/\∀ j d,j<k->X.ds[j]?=some d->d.id<id) (fun k=>X.ds.length - k) 0 ⟨ay _,fun j d h=>by omega⟩ rfl Zs Zs rfl
   ⟨by show 0<3;omega,by show 1<3;omega,by show 2<3;omega,trivial,trivial⟩ (by exact⟨⟨by omega,az 3 X⟩,⟨by omega,vK 3 _ _ _ _⟩,⟨by omega,oU 3⟩,trivial⟩) fun k ⟨hk,tA⟩=>?_
  refine Za ?_
  refine ck [(0,.pure),(1,.pure),(2,.quiet),(3,.pure),(4,.pure),(5,.pure),(6,.pure),(7,.quiet),(8,.pure),(9,.pure),(10,.pure),(11,.quiet),(12,.pure),(13,.quiet),(14,.pure),(15,.pure)] mixed Zk (aM TT rfl ?_)
  refine ax 20 rfl (fun h=>?_) (fun h=>?_)
  rotate_left
  ·have fQ:¬ (k:Int)<X.ds.length:=ab h
   refine D2 ?_
   refine an k ⟨hk,tA,fun j d h1 h2=>by have:=(ah.1 h2).1;omega⟩ aj rfl Zs Zs rfl Zl Zl
  have cz:k<X.ds.length:=by have:=ae h;omega
  have xj:=aa cz
  have bU:=iQ xj
  have Pc:∀ j d,k<=j->X.ds[j]?=some d->X.ds[k].id<=d.id:=fun j d h1 h2=>by
   obtain⟨hj,rfl⟩:=ah.1 h2
   rcases lV k j with h3 | h3
   ·have:=dE.1 ho k j cz hj h3
    omega
   ·obtain rfl:k=j:=by omega
    exact dB _
  generalize X.ds[k]=e at *
  refine Zr ?_
  refine bk TT Z Z Z Z Z Z Z Z Z IX.lT Zo bU (Zr ?_)
  refine Za ?_
  refine aG rfl (fun h2=>?_) (fun h2=>?_)
  ·have h2:e.id<id:=ae h2
   refine Zg ?_
   refine an (k+1) ⟨cz,fun j d h3 h4=>?_⟩ Zo rfl Zs Zs rfl Zl Zl
   by_cases hj:j=k
   ·subst hj
    rw[xj] at h4
    obtain rfl:=bI h4
    exact h2
   ·exact tA j d Zo h4
  ·have h2:¬ e.id<id:=ab h2
   refine Ze ?_
   refine an k ⟨hk,tA,fun j d h3 h4=>by have:=Pc j d h3 h4;omega⟩ aj rfl Zs Zs rfl Zl Zl
 have GG:=hp.le
 refine Za ?_
 refine ji (fun(_:Unit)=>σ) (fun _=>[(2,.a (.p 0 0)),(3,.a (.p 1 0)),(4,.a (.p 2 0)),(6,.a (.v (.int .i64 p))),(48,.a (.b (lf X.ds id p)))]) (fun _=>[(0,.loc 114,aA X),(1,.loc 227,zJ id ao L.length cap),(2,.loc 114,P7)]) (fun _=>[]) 3 (fun _=>True) ?_ (fun _ _=>?_)
 ·refine ck [(0,.pure),(1,.pure),(2,.quiet),(3,.pure),(4,.pure),(5,.pure),(6,.pure),(7,.quiet),(8,.pure),(9,.pure),(10,.pure),(11,.quiet),(12,.pure),(13,.quiet),(14,.pure),(15,.pure)] mixed Zk (aM TT rfl ?_)
  refine ax 38 rfl (fun h=>?_) (fun h=>?_)
  ·have px:p<X.ds.length:=by have:=ae h;omega
   have xj:=aa px
   have bU:=iQ xj
   have e:lf X.ds id p=decide (X.ds[p].id=id):=by unfold lf;rw[xj]
   rw[e]
   generalize X.ds[p]=e at *
   refine Zr ?_
   refine bk TT Z Z Z Z Z Z Z Z Z IX.lT Zo bU (Zr ?_)
   refine Zc ?_
   refine an () trivial aj rfl Zs Zs rfl Zl Zl
  ·have px:¬ (p:Int)<X.ds.length:=ab h
   have e:lf X.ds id p=false:=by unfold lf;rw[jO Zo]
   rw[e]
   refine lP ?_
   refine gu 48 (.a (.b false)) rfl trivial (fun _=>rfl) ?_
   refine an () trivial aj rfl Zs Zs rfl Zl Zl
 refine Za ?_
 refine aG rfl (fun h=>?_) (fun h=>?_)
 ·have h:lf X.ds id p=true:=h
  refine Zb ?_
  refine aw TT rfl fun β w' _ _=>?_
  refine⟨fun h2=>absurd hs (by rw[h2];decide),fun _ _=>rfl,fun _ hid=>?_⟩
  unfold lf at h
  split at h
  ·rename_i d hd
   exact absurd (ae h) (hid d (aC hd))
  ·cases h
 have h:lf X.ds id p=false:=h
 have hid:∀ d∈X.ds,d.id≠id:=fun d hd=>by
  obtain⟨j,hj,rfl⟩:=gg.1 hd
  rcases Nat.lt_trichotomy j p with h1 | h1 | h1
  ·have:=hp.lo j _ h1 (aa hj)
   omega
  ·subst h1
   unfold lf at h
   rw[aa hj] at h
   exact ab h
  ·have h2:=hp.hi p _ (aq p) (aa (show p<X.ds.length by omega))
   have h3:=dE.1 ho p j Zo hj h1
   omega
 have px:∀ {ps:List fH},ps.map fH.ss=fq L->ps.length=L.length:=fun {ps} h=>by
  have h2:=aN List.length h
  rw[aR] at h2
  rw[h2]
  exact m5 _ _
 refine Zc ?_
 refine ji (fun(t:Xq)=>t.σ) (fun t=>[(2,.a (.p 0 0)),(3,.a (.p 1 0)),(4,.a (.p 2 0)),(6,.a (.v (.int .i64 p))),(7,.a (.p 3 0)),(8,.a (.v (.slice t.io (bS ⟨X.xs,X.next,[]⟩ t.ps).ids.length t.ic)))])
  (fun t=>[(0,.loc 114,aA X),(1,.loc 227,zJ id ao L.length cap),(2,.loc 114,P7),(3,.loc 112,[.v (.slice t.bo (bS ⟨X.xs,X.next,[]⟩ t.ps).xs.length t.bc),.v (.int .i64 (bS ⟨X.xs,X.next,[]⟩ t.ps).next)])]) (fun _=>[]) 4
  (fun t=>σ.le t.σ/\t.ps.map fH.ss=fq L/\(∀ p∈t.ps,uh t.σ p)/\bu t.σ t.bo (bS ⟨X.xs,X.next,[]⟩ t.ps).xs.length t.bc 3 (eI (bS ⟨X.xs,X.next,[]⟩ t.ps).xs)/\bu t.σ t.io (bS ⟨X.xs,X.next,[]⟩ t.ps).ids.length t.ic 1 (kK (bS ⟨X.xs,X.next,[]⟩ t.ps).ids)) ?_ (fun t ht=>?_)
 ·have Ak:=fun(s:al) (hle:σ.le s)=>Q4 s L hs hW hL ao cap (H.mono hle)
  have pP:=fun(s:al) (hle:σ.le s) (ps:List fH) (ou:ps.map fH.ss=fq L) (mK:∀ p∈ps,uh s p) (po:Option Addr) (pc:Nat) (P:bu s po ps.length pc 1 (oH ps)) =>
   XG s X.xs X.next X.go X.gc (IX.gl.mono hle) (fun x hx=>(IX.ok x hx).mono hle) ps po pc P mK m lj (by rw[px ou];omega)
  refine sJ 12 [0,2,6,7,8,11] mixed Zk rfl ?_
  refine gw (i:=0) TT rfl Zk Zk Z Z Z Z Z ?_
  refine gw (i:=1) TT rfl Zk Zk Z Z Z Z Z ?_
  refine gw (i:=2) TT rfl Zk Zk Z Z Z Z Z ?_
  refine gw (i:=3) TT rfl Zk Zk Z Z Z Z Z ?_
  refine qM (i:=4) (j:=9) Zk ?_ ?_
  ·refine oa Z Z Z Z Z Tryz.call189 Zl (Ak σ (al.le_refl _)) fun v s1 cP ⟨ps,po,pc,hv,P,mK,ou⟩=>⟨.a (.v (.slice po ps.length pc)),trivial,hv.symm,?_⟩
   refine qM (i:=5) (j:=9) Zk ?_ ?_
   ·refine oa Z Z Z Z Z Tryz.call188 Zl (pP s1 cP ps ou mK po pc P) fun v s2 cw ⟨bo,bc,io,ic,hv,HB,HI⟩=>⟨.ik [.agg [.v (.slice bo (bS ⟨X.xs,X.next,[]⟩ ps).xs.length bc),.v (.int .i64 (bS ⟨X.xs,X.next,[]⟩ ps).next)],.a (.v (.slice io (bS ⟨X.xs,X.next,[]⟩ ps).ids.length ic))],Zl,hv.symm,?_⟩
    refine iy [(6,.pure),(7,.pure),(8,.pure),(9,.dP),(10,.sink),(11,.pure)] Z Z Zk ?_
    refine lP ?_
    refine an (⟨s2,ps,bo,bc,io,ic⟩:Xq) ⟨al.le_trans cP cw,ou,fun p hp=>(mK p hp).mono cw,HB,HI⟩ aj rfl Zs Zs rfl Zl Zl
   ·refine n9 TT Z Z Z Z Z ?_
    refine iy [(5,.dP),(6,.pure),(7,.pure),(8,.pure),(10,.sink),(11,.pure)] Z Z Zk ?_
    refine bN Z Z Z Z Z Tryz.call188 Zl (pP s1 cP ps ou mK po pc P) fun v s2 cw ⟨bo,bc,io,ic,hv,HB,HI⟩=>⟨.ik [.agg [.v (.slice bo (bS ⟨X.xs,X.next,[]⟩ ps).xs.length bc),.v (.int .i64 (bS ⟨X.xs,X.next,[]⟩ ps).next)],.a (.v (.slice io (bS ⟨X.xs,X.next,[]⟩ ps).ids.length ic))],Zl,hv.symm,?_⟩
    refine lP ?_
    refine an (⟨s2,ps,bo,bc,io,ic⟩:Xq) ⟨al.le_trans cP cw,ou,fun p hp=>(mK p hp).mono cw,HB,HI⟩ aj rfl Zs Zs rfl Zl Zl
  ·refine n9 TT Z Z Z Z Z ?_
   refine iy [(4,.dP),(5,.dP),(6,.pure),(7,.pure),(8,.pure),(10,.sink),(11,.pure)] Z Z Zk ?_
   refine bN Z Z Z Z Z Tryz.call189 Zl (Ak σ (al.le_refl _)) fun v s1 cP ⟨ps,po,pc,hv,P,mK,ou⟩=>⟨.a (.v (.slice po ps.length pc)),trivial,hv.symm,?_⟩
   refine Zr ?_
   refine bN Z Z Z Z Z Tryz.call188 Zl (pP s1 cP ps ou mK po pc P) fun v s2 cw ⟨bo,bc,io,ic,hv,HB,HI⟩=>⟨.ik [.agg [.v (.slice bo (bS ⟨X.xs,X.next,[]⟩ ps).xs.length bc),.v (.int .i64 (bS ⟨X.xs,X.next,[]⟩ ps).next)],.a (.v (.slice io (bS ⟨X.xs,X.next,[]⟩ ps).ids.length ic))],Zl,hv.symm,?_⟩
   refine lP ?_
   refine an (⟨s2,ps,bo,bc,io,ic⟩:Xq) ⟨al.le_trans cP cw,ou,fun p hp=>(mK p hp).mono cw,HB,HI⟩ aj rfl Zs Zs rfl Zl Zl
 obtain⟨s0,ps,bo,bc,io,ic⟩:=t
 obtain⟨ow,ou,mK,HB,HI⟩:=ht
 dsimp only at ow ou mK HB HI ⊢
 have hlen:=px ou
 have x2:=qU ps lj
 rw[hlen] at x2
 have YD:=sO (s:=⟨X.xs,X.next,[]⟩) ps (fun x hx=>(IX.ok x hx).mono ow) mK
 have Sx:nI (m+L.length) ⟨(bS ⟨X.xs,X.next,[]⟩ ps).xs,(bS ⟨X.xs,X.next,[]⟩ ps).next,[]⟩:=⟨x2.xs,ay _,x2.next,x2.ln⟩
 generalize YU:bS ⟨X.xs,X.next,[]⟩ ps=G at *
 generalize Pf:(⟨id,ao,cap,L,io,ic,G.ids⟩:eh)=d at *
 have VH:gL d=zJ id ao L.length cap:=by rw[<-Pf];rfl
 have hli:vA d=[.v (.slice io G.ids.length ic)]:=by rw[<-Pf];rfl
 have hZ:(X.ds.take p++d::X.ds.drop p).length=0+p+1+(X.ds.length - p):=by simp;omega
 have iZ:∀(s:al) (so:Option Addr) (sc:Nat) (to:Option Addr) (tc:Nat),s0.le s->bu s so (X.ds.take p++d::X.ds.drop p).length sc 2 (dK (X.ds.take p++d::X.ds.drop p))->bu s to (X.ds.take p++d::X.ds.drop p).length tc 1 (eo (X.ds.take p++d::X.ds.drop p)) ->
   ∃(X':kR) (p':Nat) (UZ:List fH) (XZ:Option Addr) (X0:Nat),(SV.ik [.agg [.v (.slice so (0+p+1+(X.ds.length - p)) sc),.v (.slice bo G.xs.length bc),.v (.int .i64 G.next),.v (.slice to (0+p+1+(X.ds.length - p)) tc)],.a (.v (.int .i64 0))]).den fy=(SV.ik [.agg (aA X'),.a (.v (.int .i64 0))]).den fy/\iS s X'/\iC X.ds id p' /\
   UZ.map fH.ss=fq L/\X'.ds=X.ds.take p'++⟨id,ao,cap,L,XZ,X0,(bS ⟨X.xs,X.next,[]⟩ UZ).ids⟩::X.ds.drop p'/\X'.xs=(bS ⟨X.xs,X.next,[]⟩ UZ).xs/\X'.next=(bS ⟨X.xs,X.next,[]⟩ UZ).next/\nI (m+L.length) ⟨X'.xs,X'.next,[]⟩:=by
  intro s so sc to tc hle HD HL
  refine⟨⟨X.ds.take p++d::X.ds.drop p,so,sc,G.xs,bo,bc,G.next,to,tc⟩,p,ps,io,ic,by rw[<-hZ];rfl,⟨HD,HL,HB.mono hle,fun x hx=>(YD x hx).mono hle,fun e he=>?_⟩,hp,ou,by rw[YU,<-Pf],by rw[YU],by rw[YU],Sx⟩
  rw[bz,bM] at he
  rcases he with he | rfl | he
  ·have:=IX.doc e (dr he)
   exact⟨this.1.mono (al.le_trans ow hle),this.2.mono (al.le_trans ow hle)⟩
  ·subst Pf
   exact⟨H.mono (al.le_trans ow hle),HI.mono hle⟩
  ·have:=IX.doc e (fZ he)
   exact⟨this.1.mono (al.le_trans ow hle),this.2.mono (al.le_trans ow hle)⟩
 have HDc:=IX.lT.mono ow
 have HLc:=IX.lines.mono ow
 have Pe:=HDc.pn
 have Hv:=HLc.pn
 have H1:=NO HDc GG
 have H2:=NN HDc GG
 have H3:=M7 HLc GG
 have H4:=M6 HLc GG
 refine Za ?_
 refine dV 227 2 ?_
 refine dV 74 1 ?_
 refine ck [(0,.pure),(1,.quiet),(2,.pure),(3,.quiet),(4,.pure),(5,.pure),(6,.sink),(7,.pure),(8,.sink)] mixed Zk (aM TT rfl ?_)
 refine eN TT p Z Z Z Z Z Z Z Z Z Z Zo Pe (Zr ?_)
 refine dC TT 0 Z Z Z Z Z Z Z H1 Z Z Z Z Z Z Z Z Z (fun r hr=>(fR _ r hr).2.2) Zo (by show(0+p)*32<=_;omega) fun so1 sc1 ak4=>aM TT rfl ?_
 refine Za ?_
 refine bl TT 0 Z Z Z Z Z Z Z Z Z Z Z Z Z Z Z Z Z Z (vK 0 _ _ _ _) rfl Zo (by show(0+p+1)*32<=_;omega) fun so2 sc2 aq6=>aM TT rfl ?_
 refine Za ?_
 refine ck [(0,.pure),(1,.quiet),(2,.pure),(3,.quiet),(4,.pure),(5,.pure),(6,.sink),(7,.pure),(8,.sink)] mixed Zk (aM TT rfl ?_)
 refine dL TT p X.ds.length Z Z Z Z Z Z Z Z Z Z (.inr ⟨_,_,rfl,rfl⟩) (.inl ⟨rfl,rfl⟩) GG Pe Pe (Zr ?_)
 refine dC TT 0 Z Z Z Z Z Z Z H2 Z Z Z Z Z Z Z Z Z (fun r hr=>(fR _ r hr).2.2) Zo (by show(0+p+1+(X.ds.length - p))*32<=_;omega) fun UE UI Yh=>aM TT rfl ?_
 refine Za ?_
 refine ck [(0,.pure),(1,.quiet),(2,.pure),(3,.quiet),(4,.pure),(5,.pure),(6,.sink),(7,.pure),(8,.sink)] mixed Zk (aM TT rfl ?_)
 refine eN TT p Z Z Z Z Z Z Z Z Z Z Zo Hv (Zr ?_)
 refine dC TT 1 Z Z Z Z Z Z Z H3 Z Z Z Z Z Z Z Z Z (fun r hr=>(gF _ r hr).2.2) Zo (by show(0+p)*24<=_;omega) fun to1 tc1 aj8=>aM TT rfl ?_
 refine Za ?_
 refine bl TT 1 Z Z Z Z Z Z Z Z Z Z Z Z Z Z Z Z Z Z Zl rfl Zo (by show(0+p+1)*24<=_;omega) fun to2 tc2 aq5=>aM TT rfl ?_
 refine Za ?_
 refine ck [(0,.pure),(1,.quiet),(2,.pure),(3,.quiet),(4,.pure),(5,.pure),(6,.sink),(7,.pure),(8,.sink)] mixed Zk (aM TT rfl ?_)
 refine dL TT p X.ds.length Z Z Z Z Z Z Z Z Z Z (.inr ⟨_,_,rfl,rfl⟩) (.inl ⟨rfl,rfl⟩) GG Hv Hv (Zr ?_)
 refine dC TT 1 Z Z Z Z Z Z Z H4 Z Z Z Z Z Z Z Z Z (fun r hr=>(gF _ r hr).2.2) Zo (by show(0+p+1+(X.ds.length - p))*24<=_;omega) fun Ux Uy Yd=>aM TT rfl ?_
 refine Zb ?_
 refine dD 0 Z Z fun s1 cP x4=>?_
 refine dD 0 Z Z fun s2 cw Fy=>?_
 refine aw TT rfl fun β w' _ _=>?_
 have e1:b9 s1 (K9 UE UI (X.ds.take p++d::X.ds.drop p)):=by
  have e:(⟨UE,0+p+1+(X.ds.length - p),UI,227,2,uX (X.ds.take p++d::X.ds.drop p)⟩:AE)=K9 UE UI (X.ds.take p++d::X.ds.drop p):=by unfold K9;rw[hZ]
  rw[<-e]
  have e3:uX (X.ds.take p++d::X.ds.drop p)=(([]++(dK (X.ds.take p)).flatten.map AT.val)++(zJ id ao L.length cap).map AT.val)++(dK (X.ds.drop p)).flatten.map AT.val:=by
   rw[<-VH]
   simp[uX,dK]
  rw[e3]
  exact x4
 have e2:b9 s2 (zf Ux Uy (X.ds.take p++d::X.ds.drop p)):=by
  have e:(⟨Ux,0+p+1+(X.ds.length - p),Uy,74,1,vS (X.ds.take p++d::X.ds.drop p)⟩:AE)=zf Ux Uy (X.ds.take p++d::X.ds.drop p):=by unfold zf;rw[hZ]
  rw[<-e]
  have e3:vS (X.ds.take p++d::X.ds.drop p)=(([]++(eo (X.ds.take p)).flatten.map AT.val)++[AT.v (.slice io G.ids.length ic)].map AT.val)++(eo (X.ds.drop p)).flatten.map AT.val:=by
   rw[<-hli]
   simp[vS,eo]
  rw[e3]
  exact Fy
 exact⟨fun h2=>absurd hs (by rw[h2];decide),fun _ ⟨d,hd,he⟩=>absurd he (hid d hd),fun _ _=>iZ s2 UE UI Ux Uy (al.le_trans cP cw) ((Co e1 (by rw[hZ];exact Yh)).mono cw) (iO e2 (by rw[hZ];exact Yd))⟩
end Go.Sy
namespace Go.Sy
abbrev MB:=Int×List aH×List Int
abbrev u7:=Int×List ByteArray×Int
def oz (d:eh):MB:=(d.id,d.L,d.ids)
def pr (x:cH):u7:=(x.id,x.st,x.ln)
structure mN (X Y:kR):Prop where
 ds:X.ds.map oz=Y.ds.map oz
 xs:X.xs.map pr=Y.xs.map pr
 next:X.next=Y.next
theorem mN.len{X Y:kR}(h:mN X Y): X.ds.length=Y.ds.length:=by
 have:=aN List.length h.ds
 rwa [aR,aR] at this
def ai3 (q:Int->Bool) (d:MB):List cq:=(((tp d.1 d.2.1).zip d.2.2).filter fun x=>q x.2).map Prod.fst
theorem MT(q:Int->Bool)(ds:List eh): lX q ds=(ds.map oz).flatMap (ai3 q):=by
 unfold lX
 rw[List.flatMap_map]
 rfl
theorem xI{ds es:List eh}(h:ds.map oz=es.map oz)(q:Int->Bool): lX q ds=lX q es:=by
 rw[MT,MT,h]
def aa7 (it:cq) (d:MB):Option aH :=
 if it.at_<0 then none else
 match d.2.1[it.at_.toNat]? with
 | none=>none
 | some r=>if dZ d.1 r it.at_.toNat=it then some r else none
theorem JT(ds:List eh)(id:Int): (ds.find? fun d=>decide (d.id=id)).map oz=(ds.map oz).find? fun d=>decide (d.1=id):=by
 rw[List.find?_map]
 rfl
theorem E3(ds:List eh)(it:cq): recAt ds it=((ds.map oz).find? fun d=>decide (d.1=it.doc)).bind (aa7 it):=by
 unfold recAt
 rw[<-JT]
 cases ds.find? fun d=>decide (d.id=it.doc) with
 | none=>rfl
 | some d=>rfl
theorem K8{ds es:List eh}(h:ds.map oz=es.map oz)(it:cq): recAt ds it=recAt es it:=by
 rw[E3,E3,h]
def upK (it:cq) (k:Int) (d:MB):Option cq :=
 match aa7 it d with
 | none=>none
 | some _=>if k<0\/it.lv<k then none else (d.2.1[lO d.2.1 k it.at_.toNat]?).map fun r=>dZ d.1 r (lO d.2.1 k it.at_.toNat)
theorem Qo{ds es:List eh}(h:ds.map oz=es.map oz)(it:cq)(k:Int): A8 ds it k=A8 es it k:=by
 have:∀ ds:List eh,A8 ds it k=((ds.map oz).find? fun d=>decide (d.1=it.doc)).bind (upK it k):=fun ds=>by
  unfold A8
  rw[<-JT]
  cases ds.find? fun d=>decide (d.id=it.doc) with
  | none=>rfl
  | some d=>rfl
 rw[this,this,h]
theorem Jp{ds es:List eh}(h:ds.map oz=es.map oz): qZ ds=qZ es:=by
 funext it
 unfold qZ
 rw[K8 h]
theorem Tb{ds es:List eh}(h:ds.map oz=es.map oz)(line:Int)(p:dz): Dn ds line p=Dn es line p:=by
 unfold Dn
 rw[Jp h,xI h]
theorem PK{ds es:List eh}(h:ds.map oz=es.map oz){line:Int}{p q:dz}{T S:List cq}(h1:DR ds line p q T)(h2:DR es line p q S): T=S:=by
 unfold DR at h1 h2
 rw[Jp h,xI h] at h1
 split at h1
 ·rename_i hc
  rw[au hc] at h2
  exact h1.uniq (ab8 _) h2
 ·rename_i hc
  rw[ai hc] at h2
  rw[h1,h2]
theorem w6{α β:Type}(f:α->β)(q:β->Bool): ∀(l:List α) (k:Nat),gT (fun x=>q (f x)) l k=gT q (l.map f) k
 | [],_=>rfl
 | x::l,k=>by
  rw[bx,gT,gT,w6 f q l (k+1)]
def CP (xs:List u7) (s:List ByteArray):Int:=gT (fun y=>decide (y.2.1=s)) xs 0
def Zt (xs:List u7) (id:Int):Int:=gT (fun y=>decide (y.1=id)) xs 0
theorem OV(xs:List cH)(s:List ByteArray): j8 xs s=CP (xs.map pr) s:=w6 pr (fun y=>decide (y.2.1=s)) xs 0
theorem Vs(xs:List cH)(id:Int): Bm xs id=Zt (xs.map pr) id:=w6 pr (fun y=>decide (y.1=id)) xs 0
def ab4 (y:u7):u7:=(y.1,y.2.1,y.2.2+1)
def ab5 (y:u7):u7:=(y.1,y.2.1,y.2.2 - 1)
def Zf (s:List u7×Int×List Int) (p:List ByteArray):List u7×Int×List Int :=
 if CP s.1 p<0 then (s.1++[(s.2.1,p,0+1)],s.2.1+1,s.2.2++[s.2.1])
 else match s.1[(CP s.1 p).toNat]? with
  | some y=>(s.1.set (CP s.1 p).toNat (ab4 y),s.2.1,s.2.2++[y.1])
  | none=>s
def P5 (s:ym):List u7×Int×List Int:=(s.xs.map pr,s.next,s.ids)
theorem Mt(s:ym)(p:fH): P5 (fV s p)=Zf (P5 s) p.ss:=by
 unfold fV Zf
 rw[OV]
 show _=if CP (s.xs.map pr) p.ss<0 then _ else _
 split
 ·show((s.xs++[_]).map pr,_,_)=_
  rw[aF]
  rfl
 ·show _=match (s.xs.map pr)[(CP (s.xs.map pr) p.ss).toNat]? with | some y=>_ | none=>_
  rw[aO]
  cases s.xs[(CP (s.xs.map pr) p.ss).toNat]? with
  | none=>rfl
  | some x =>
   show((s.xs.set _ _).map pr,_,_)=_
   rw[lW]
   rfl
theorem xe: ∀(ps:List fH) (s:ym),P5 (bS s ps)=(ps.map fH.ss).foldl Zf (P5 s)
 | [],_=>rfl
 | p::ps,s=>by
  show P5 (bS (fV s p) ps)=_
  rw[xe ps,Mt]
  rfl
theorem Kq{s t:ym}{ps rs:List fH}(h:P5 s=P5 t)(hp:ps.map fH.ss=rs.map fH.ss): P5 (bS s ps)=P5 (bS t rs):=by
 rw[xe,xe,h,hp]
def Dq (xs:List u7) (id:Int):Option (List u7) :=
 if Zt xs id<0 then none else
 match xs[(Zt xs id).toNat]? with
 | none=>none
 | some y=>if y.2.2 - 1=0 then some (xs.eraseIdx (Zt xs id).toNat) else some (xs.set (Zt xs id).toNat (ab5 y))
def Dr:List u7->List Int->Option (List u7)
 | xs,[]=>some xs
 | xs,id::ids=>(Dq xs id).bind fun ys=>Dr ys ids
theorem map_eraseIdx{α β:Type}(f:α->β): ∀(l:List α) (i:Nat),(l.eraseIdx i).map f=(l.map f).eraseIdx i
 | [],_=>rfl
 | _::_,0=>rfl
 | x::l,i+1=>by
  show f x::(l.eraseIdx i).map f=f x::(l.map f).eraseIdx i
  rw[map_eraseIdx f l i]
theorem J8(xs:List cH)(id:Int): (gU xs id).map (List.map pr)=Dq (xs.map pr) id:=by
 unfold gU Dq
 rw[Vs]
 split
 ·rfl
 ·rw[aO]
  cases xs[(Zt (xs.map pr) id).toNat]? with
  | none=>rfl
  | some x =>
   show Option.map (List.map pr) (if x.ln - 1=0 then _ else _)=if x.ln - 1=0 then _ else _
   split
   ·show some _=some _
    rw[map_eraseIdx]
   ·show some _=some _
    rw[lW]
    rfl
theorem uW: ∀(ids:List Int) (xs:List cH),(eF xs ids).map (List.map pr)=Dr (xs.map pr) ids
 | [],_=>rfl
 | id::ids,xs=>by
  rw[eF,Dr,<-J8]
  cases gU xs id with
  | none=>rfl
  | some ys=>exact uW ids ys
theorem xQ(xs:List cH)(ps:List gY)(k:Nat): v7 (fun _ x=>nW x.st ps) xs k=((xs.map pr).filter fun y=>nW y.2.1 ps).map Prod.fst:=by
 induction xs generalizing k with
 | nil=>rfl
 | cons x xs ih =>
  rw[bx,v7,dS,ih]
  show(if nW x.st ps then _ else _)=List.map Prod.fst (if nW x.st ps then _ else _)
  split
  ·rfl
  ·rfl
theorem Ek{xs ys:List cH}(h:xs.map pr=ys.map pr)(ps:List gY): dU xs ps=dU ys ps:=by
 unfold dU
 rw[xQ,xQ,h]
structure u6 (xs:List cH) (next:Int):Prop where
 ids:(xs.map cH.id).Pairwise (·<·)
 top:∀ i∈xs.map cH.id,i<next
theorem u6.pw{xs:List cH}{next:Int}(h:u6 xs next): xs.Pairwise fun x y=>x.id<y.id:=List.pairwise_map.1 h.ids
theorem QL{xs:List cH}{j:Nat}{x y:cH}(hx:xs[j]?=some x)(hy:y.id=x.id): (xs.set j y).map cH.id=xs.map cH.id:=by
 rw[lW,hy]
 apply List.ext_getElem?
 intro i
 rw[eZ]
 split
 ·rename_i e
  subst e
  rw[aO,hx]
  split
  ·rfl
  ·rename_i hn
   exact absurd (by rw[aR];exact(ah.1 hx).1) hn
 ·rfl
theorem u6.one{s:ym}(h:u6 s.xs s.next)(p:fH): u6 (fV s p).xs (fV s p).next:=by
 unfold fV
 split
 ·dsimp only
  refine⟨?_,fun i hi=>?_⟩
  ·rw[aF]
   refine iW.2 ⟨h.ids,List.pairwise_singleton _ _,fun a ha b hb=>?_⟩
   have hb:b=s.next:=by simpa[cH.more,pk] using hb
   rw[hb]
   exact h.top a ha
  ·rw[aF] at hi
   rcases bz.1 hi with hi | hi
   ·have:=h.top i hi
    omega
   ·have hi:i=s.next:=by simpa[cH.more,pk] using hi
    omega
 ·split
  ·rename_i x hx
   dsimp only
   have e:=QL hx (show x.more.id=x.id from rfl)
   exact⟨by rw[e];exact h.ids,by rw[e];exact h.top⟩
  ·exact h
theorem u6.all: ∀(ps:List fH) {s:ym},u6 s.xs s.next->u6 (bS s ps).xs (bS s ps).next
 | [],_,h=>h
 | p::ps,s,h=>u6.all ps (s:=fV s p) (h.one p)
theorem u6.V6{xs ys:List cH}{next id:Int}(h:u6 xs next)(hd:gU xs id=some ys): u6 ys next:=by
 unfold gU at hd
 split at hd
 ·cases hd
 ·split at hd
  ·cases hd
  ·rename_i x hx
   split at hd
   ·obtain rfl:=bI hd
    refine⟨?_,fun i hi=>?_⟩
    ·rw[map_eraseIdx]
     exact h.ids.sublist (List.eraseIdx_sublist _ _)
    ·rw[map_eraseIdx] at hi
     exact h.top i ((List.eraseIdx_sublist _ _).subset hi)
   ·obtain rfl:=bI hd
    have e:=QL hx (show x.less.id=x.id from rfl)
    exact⟨by rw[e];exact h.ids,by rw[e];exact h.top⟩
theorem u6.drop: ∀ {ids:List Int} {xs ys:List cH} {next:Int},u6 xs next->eF xs ids=some ys->u6 ys next
 | [],xs,ys,next,h,hd=>by
  obtain rfl:=bI (show some xs=some ys from hd)
  exact h
 | id::ids,xs,ys,next,h,hd=>by
  rw[eF] at hd
  cases h1:gU xs id with
  | none=>rw[h1] at hd;cases hd
  | some zs =>
   rw[h1] at hd
   exact(h.V6 h1).drop (show eF zs ids=some ys from hd)
theorem JP{xs ys:List cH}{next id:Int}{m:Nat}(h:nI m ⟨xs,next,[]⟩)(hd:gU xs id=some ys): nI (m+1) ⟨ys,next,[]⟩:=by
 have h1:=h.xs
 have h2:=h.next
 have h3:=h.ln
 dsimp only at h1 h2 h3
 unfold gU at hd
 split at hd
 ·cases hd
 ·split at hd
  ·cases hd
  ·rename_i x hx
   split at hd
   ·obtain rfl:=bI hd
    refine⟨?_,ay _,by dsimp only;omega,fun y hy=>?_⟩
    ·have:=(List.eraseIdx_sublist xs (Bm xs id).toNat).length_le
     dsimp only
     omega
    ·have:=h3 y (iH hy)
     omega
   ·obtain rfl:=bI hd
    refine⟨by dsimp only;rw[dh];omega,ay _,by dsimp only;omega,fun y hy=>?_⟩
    rcases jI hy with hy | hy
    ·have:=h3 y hy
     omega
    ·subst hy
     have:=h3 x (aC hx)
     show -((m+1:Nat):Int)<=x.ln - 1/\x.ln - 1<=((m+1:Nat):Int)
     omega
theorem JQ: ∀ {ids:List Int} {xs ys:List cH} {next:Int} {m:Nat},nI m ⟨xs,next,[]⟩->eF xs ids=some ys->nI (m+ids.length) ⟨ys,next,[]⟩
 | [],xs,ys,next,m,h,hd=>by
  obtain rfl:=bI (show some xs=some ys from hd)
  exact h
 | id::ids,xs,ys,next,m,h,hd=>by
  rw[eF] at hd
  cases h1:gU xs id with
  | none=>rw[h1] at hd;cases hd
  | some zs =>
   rw[h1] at hd
   have:=JQ (JP h h1) (show eF zs ids=some ys from hd)
   exact this.mono (by rw[List.length_cons];omega)
theorem iC.same{ds es:List eh}(h:ds.map oz=es.map oz){id:Int}{p q:Nat}(hp:iC ds id p)(hq:iC es id q): p=q:=by
 have hl:ds.length=es.length:=by
  have:=aN List.length h
  rwa [aR,aR] at this
 have hid:∀(i:Nat) (d e:eh),ds[i]?=some d->es[i]?=some e->d.id=e.id:=fun i d e h1 h2=>by
  have:=aN (fun l:List MB=>l[i]?) h
  simp only[aO,h1,h2,Option.map_some,bf] at this
  exact aN Prod.fst this
 have h1:=hp.le
 have h2:=hq.le
 rcases Nat.lt_trichotomy p q with h3 | h3 | h3
 ·have a:=aa (show p<ds.length by omega)
  have b:=aa (show p<es.length by omega)
  have c:=hp.hi p _ (aq p) a
  have d:=hq.lo p _ h3 b
  have e:=hid p _ _ a b
  omega
 ·exact h3
 ·have a:=aa (show q<ds.length by omega)
  have b:=aa (show q<es.length by omega)
  have c:=hp.lo q _ h3 a
  have d:=hq.hi q _ (aq q) b
  have e:=hid q _ _ a b
  omega
theorem uz{ds es:List eh}(h:ds.map oz=es.map oz){id:Int}(hd:∃ d∈ds,d.id=id): ∃ e∈es,e.id=id:=by
 obtain⟨d,hd,rfl⟩:=hd
 have:oz d∈es.map oz:=by rw[<-h];exact List.mem_map_of_mem hd
 obtain⟨e,he,hk⟩:=bL.1 this
 exact⟨e,he,aN Prod.fst hk⟩
inductive wy (X:kR) (id:Int):kR->Int->Prop
 | EA (h:∀ d∈X.ds,d.id≠id):wy X id wj 6
 | lines (p:Nat) (d:eh) (h2:X.ds[p]?=some d) (h3:d.id=id) (h4:eF X.xs d.ids=none):wy X id wj 6
 | ok (p:Nat) (d:eh) (h2:X.ds[p]?=some d) (h3:d.id=id) (X':kR) (h4:eF X.xs d.ids=some X'.xs) (h5:X'.ds=X.ds.eraseIdx p) (h6:X'.next=X.next):wy X id X' 0
theorem RD{ds:List eh}(ho:ds.Pairwise fun x y=>x.id<y.id){id:Int}{p:Nat}(hp:iC ds id p)(h:lf ds id p=false): ∀ d∈ds,d.id≠id:=fun d hd=>by
 obtain⟨j,hj,rfl⟩:=gg.1 hd
 rcases Nat.lt_trichotomy j p with h1 | h1 | h1
 ·have:=hp.lo j _ h1 (aa hj)
  omega
 ·subst h1
  unfold lf at h
  rw[aa hj] at h
  exact ab h
 ·have h2:=hp.hi p _ (aq p) (aa (show p<ds.length by omega))
  have h3:=dE.1 ho p j Zo hj h1
  omega
theorem FW.r{X Y:kR}{id e:Int}(ho:X.ds.Pairwise fun x y=>x.id<y.id)(h:FW X id Y e): wy X id Y e:=by
 cases h with
 | EA p hp h2=>exact .EA (RD ho hp h2)
 | lines p hp d h2 h3 h4=>exact .lines p d h2 h3 h4
 | ok p hp d h2 h3 _ h4 h5 h6=>exact .ok p d h2 h3 _ h4 h5 h6
structure ap4 (d:eh):Prop where
 snd:eG d.L=true
 ids:d.ids.length=d.L.length
 len:d.L.length<=300
 w:gJ d.L<=100000
structure fS (k:Nat) (X:kR):Prop where
 ord:X.ds.Pairwise fun x y=>x.id<y.id
 Ox:u6 X.xs X.next
 num:X.ds.length<=k
 fit:nI (k*300) ⟨X.xs,X.next,[]⟩
 doc:∀ d∈X.ds,ap4 d
theorem WC: fS 0 wj:=⟨List.Pairwise.nil,⟨List.Pairwise.nil,fun i h=>(by cases h)⟩,aq _,⟨aq _,aq _,by decide,fun _ h=>(by cases h)⟩,fun _ h=>(by cases h)⟩
theorem aa1: mN wj wj:=⟨rfl,rfl,rfl⟩
theorem fS.skip{k:Nat}{X:kR}(h:fS k X): fS (k+1) X:=⟨h.ord,h.Ox,by have:=h.num;omega,h.fit.mono Zo,h.doc⟩
theorem Mu(s:ym)(p:fH): (fV s p).ids.length=s.ids.length+1:=by
 have hb:=xU s.xs p.ss
 unfold fV
 split
 ·simp
 ·rw[aa Zo]
  simp
theorem DN: ∀(ps:List fH) (s:ym),(bS s ps).ids.length=s.ids.length+ps.length
 | [],_=>rfl
 | p::ps,s=>by
  show(bS (fV s p) ps).ids.length=_
  rw[DN ps,Mu,List.length_cons]
  omega
theorem aa5{L:List aH}{n:Nat}(h:gJ L<=n): ∀ r∈L,r.n.dg.size<=n/\r.s.size<=n:=fun r hr=>by
 have:=EX hr
 rw[D9] at this
 omega
theorem fS.JR{k:Nat}{X:kR}(h:fS k X): yn X:=fun d hd r hr=>by
 have:=aa5 (h.doc d hd).w r hr
 simp only[bJ]
 omega
theorem fS.add{k:Nat}{X X':kR}(h:fS k X){id:Int}{p:Nat}{L:List aH}{ps:List fH}{ao:Option Addr}{cap:Nat}{io:Option Addr}{ic:Nat}(hp:iC X.ds id p)(uO:∀ d∈X.ds,d.id≠id)(hs:eG L=true)(hL:L.length<=300)(hW:gJ L<=100000)(ou:ps.map fH.ss=fq L)(Db:X'.ds=X.ds.take p++⟨id,ao,cap,L,io,ic,(bS ⟨X.xs,X.next,[]⟩ ps).ids⟩::X.ds.drop p)(vF:X'.xs=(bS ⟨X.xs,X.next,[]⟩ ps).xs)(qt:X'.next=(bS ⟨X.xs,X.next,[]⟩ ps).next)(lj:nI (k*300+L.length) ⟨X'.xs,X'.next,[]⟩): fS (k+1) X':=by
 have px:ps.length=L.length:=by
  have h2:=aN List.length ou
  rw[aR] at h2
  rw[h2]
  exact m5 _ _
 have hle:=hp.le
 refine⟨?_,?_,?_,lj.mono Zo,fun d hd=>?_⟩
 ·rw[Db]
  have ho:=h.ord
  rw[<-cK p X.ds] at ho
  obtain⟨o1,o2,o3⟩:=iW.1 ho
  refine iW.2 ⟨o1,List.pairwise_cons.2 ⟨fun e he=>?_,o2⟩,fun a ha b hb=>?_⟩
  ·obtain⟨j,hj⟩:=List.mem_iff_getElem?.1 he
   rw[fF] at hj
   have h1:=hp.hi _ e (Nat.le_add_right p j) hj
   have h2:=uO e (aC hj)
   show id<e.id
   omega
  ·rcases bM.1 hb with hb | hb
   ·subst hb
    obtain⟨j,hj⟩:=List.mem_iff_getElem?.1 ha
    rw[fE] at hj
    split at hj
    ·exact hp.lo j a (by assumption) hj
    ·cases hj
   ·exact o3 a ha b hb
 ·rw[vF,qt]
  exact u6.all ps (s:=⟨X.xs,X.next,[]⟩) h.Ox
 ·rw[Db]
  have:=h.num
  simp
  omega
 ·rw[Db] at hd
  rcases bz.1 hd with hd | hd
  ·exact h.doc d (dr hd)
  ·rcases bM.1 hd with hd | hd
   ·subst hd
    exact⟨hs,by show(bS ⟨X.xs,X.next,[]⟩ ps).ids.length=L.length;rw[DN,px];show 0+_=_;omega,hL,hW⟩
   ·exact h.doc d (fZ hd)
theorem add_same{X Y X' Y':kR}(h:mN X Y){id:Int}{p q:Nat}{L:List aH}{ps rs:List fH}{ao bo:Option Addr}{cap ag7:Nat}{io jo:Option Addr}{ic jc:Nat}(hp:iC X.ds id p)(hq:iC Y.ds id q)(ou:ps.map fH.ss=fq L)(T8:rs.map fH.ss=fq L)(Db:X'.ds=X.ds.take p++⟨id,ao,cap,L,io,ic,(bS ⟨X.xs,X.next,[]⟩ ps).ids⟩::X.ds.drop p)(vF:X'.xs=(bS ⟨X.xs,X.next,[]⟩ ps).xs)(qt:X'.next=(bS ⟨X.xs,X.next,[]⟩ ps).next)(Pd:Y'.ds=Y.ds.take q++⟨id,bo,ag7,L,jo,jc,(bS ⟨Y.xs,Y.next,[]⟩ rs).ids⟩::Y.ds.drop q)(X7:Y'.xs=(bS ⟨Y.xs,Y.next,[]⟩ rs).xs)(Ym:Y'.next=(bS ⟨Y.xs,Y.next,[]⟩ rs).next): mN X' Y':=by
 have pL:P5 ⟨X.xs,X.next,[]⟩=P5 ⟨Y.xs,Y.next,[]⟩:=by
  unfold P5
  dsimp only
  rw[h.xs,h.next]
 have hk:=Kq (ps:=ps) (rs:=rs) pL (by rw[ou,T8])
 have e1:(bS ⟨X.xs,X.next,[]⟩ ps).xs.map pr=(bS ⟨Y.xs,Y.next,[]⟩ rs).xs.map pr:=aN (fun z:List u7×Int×List Int=>z.1) hk
 have e2:(bS ⟨X.xs,X.next,[]⟩ ps).next=(bS ⟨Y.xs,Y.next,[]⟩ rs).next:=aN (fun z:List u7×Int×List Int=>z.2.1) hk
 have e3:(bS ⟨X.xs,X.next,[]⟩ ps).ids=(bS ⟨Y.xs,Y.next,[]⟩ rs).ids:=aN (fun z:List u7×Int×List Int=>z.2.2) hk
 have Vx:=hp.same h.ds hq
 subst Vx
 refine⟨?_,by rw[vF,X7,e1],by rw[qt,Ym,e2]⟩
 rw[Db,Pd,aF,aF,bx,bx,dG,dG,dR,dR,h.ds]
 unfold oz
 dsimp only
 rw[e3]
theorem wy.Rd{k:Nat}{X X':kR}{id e:Int}(h:fS k X)(hd:wy X id X' e): e=6\/e=0/\fS (k+1) X':=by
 cases hd with
 | EA _=>exact .inl rfl
 | lines _ _ _ _ _=>exact .inl rfl
 | ok p d h2 h3 _ h4 h5 h6 =>
  refine .inr ⟨rfl,?_,?_,?_,?_,fun d hd=>?_⟩
  ·rw[h5]
   exact h.ord.sublist (List.eraseIdx_sublist _ _)
  ·rw[h6]
   exact h.Ox.drop h4
  ·rw[h5]
   have:=(List.eraseIdx_sublist X.ds p).length_le
   have:=h.num
   omega
  ·rw[h6]
   have L4:=h.doc d (aC h2)
   have h7:=L4.ids
   have h8:=L4.len
   exact(JQ h.fit h4).mono Zo
  ·rw[h5] at hd
   exact h.doc d (iH hd)
theorem wy.same{X Y X' Y':kR}(h:mN X Y)(ho:X.ds.Pairwise fun x y=>x.id<y.id){id e f:Int}(hx:wy X id X' e)(hy:wy Y id Y' f): e=f/\(e=0->mN X' Y'):=by
 have hlen:=h.len
 have St:∀(i:Nat) (d e:eh),X.ds[i]?=some d->Y.ds[i]?=some e->oz d=oz e:=fun i d e h1 h2=>by
  have:=aN (fun l:List MB=>l[i]?) h.ds
  simpa only[aO,h1,h2,Option.map_some,bf] using this
 have mT:∀(p q:Nat) (d e:eh),X.ds[p]?=some d->Y.ds[q]?=some e->d.id=e.id->p=q:=fun p q d e h1 h2 h3=>by
  have hq:=(ah.1 h2).1
  have hp:=(ah.1 h1).1
  have h4:=aa (show q<X.ds.length by omega)
  have h5:=aN Prod.fst (St q _ e h4 h2)
  have h5:X.ds[q].id=e.id:=h5
  obtain⟨_,h6⟩:=ah.1 h1
  rcases Nat.lt_trichotomy p q with h7 | h7 | h7
  ·have:=dE.1 ho p q hp Zo h7
   rw[h6] at this
   omega
  ·exact h7
  ·have:=dE.1 ho q p Zo hp h7
   rw[h6] at this
   omega
 have hdr:∀(p q:Nat) (d e:eh),X.ds[p]?=some d->Y.ds[q]?=some e->d.id=e.id->(eF X.xs d.ids).map (List.map pr)=(eF Y.xs e.ids).map (List.map pr):=fun p q d e h1 h2 h3=>by
  obtain rfl:=mT p q d e h1 h2 h3
  have h4:d.ids=e.ids:=aN (fun z:MB=>z.2.2) (St p d e h1 h2)
  rw[uW,uW,h.xs,h4]
 cases hx with
 | EA hn =>
  have Qc:∀ e∈Y.ds,e.id≠id:=fun e he hid=>by
   obtain⟨d,hd,h3⟩:=uz h.ds.symm ⟨e,he,hid⟩
   exact hn d hd h3
  cases hy with
  | EA _=>exact⟨rfl,fun h=>absurd h (by decide)⟩
  | lines q e h2 h3 _=>exact absurd h3 (Qc e (aC h2))
  | ok q e h2 h3 _ _ _ _=>exact absurd h3 (Qc e (aC h2))
 | lines p d h2 h3 h4 =>
  cases hy with
  | EA hn =>
   obtain⟨e,he,h5⟩:=uz h.ds ⟨d,aC h2,h3⟩
   exact absurd h5 (hn e he)
  | lines _ _ _ _ _=>exact⟨rfl,fun h=>absurd h (by decide)⟩
  | ok q e h5 h6 _ h7 _ _ =>
   have:=hdr p q d e h2 h5 (by rw[h3,h6])
   rw[h4,h7] at this
   cases this
 | ok p d h2 h3 _ h4 h5 h6 =>
  cases hy with
  | EA hn =>
   obtain⟨e,he,h5⟩:=uz h.ds ⟨d,aC h2,h3⟩
   exact absurd h5 (hn e he)
  | lines q e h7 h8 h9 =>
   have:=hdr p q d e h2 h7 (by rw[h3,h8])
   rw[h4,h9] at this
   cases this
  | ok q e h7 h8 _ h9 uS ZS =>
   refine⟨rfl,fun _=>⟨?_,?_,by rw[h6,ZS,h.next]⟩⟩
   ·rw[h5,uS,map_eraseIdx,map_eraseIdx,h.ds,mT p q d e h2 h7 (by rw[h3,h8])]
   ·have:=hdr p q d e h2 h7 (by rw[h3,h8])
    rw[h4,h9] at this
    exact bI this
end Go.Sy
namespace Go.Sy
open Go.Proofs
theorem OB(σ:al)(X:kR)(IX:iS σ X)(hl:X.ds.length<=1000000)(pa:X.xs.length<=1000000)(X9:∀ x∈X.xs,-1000000<=x.ln/\x.ln<=1000000)(Eu:∀ d∈X.ds,d.ids.length<=1000000)(id:Int):
  fa Tryz.prog 125 [.agg (aA X),.a (.v (.int .i64 id))] σ (fun v bD=>∃(X':kR) (e:Int),v=(SV.ik [.agg (aA X'),.a (.v (.int .i64 e))]).den fy/\iS bD X'/\wy X id X' e):=by
 refine ek Tryz.func125 Z Z ⟨az 0 X,trivial,trivial⟩ fun w=>?_
 refine Zd ?_
 refine bX (fun(_:Nat)=>σ) (fun k=>[(1,.a (.v (.int .i64 id))),(2,.a (.p 0 0)),(4,.a (.p 1 0)),(6,.a (.v (.int .i64 k)))]) (fun _=>[(0,.loc 114,aA X),(1,.loc 114,P7)]) (fun _=>[]) 2
  (fun k=>k<=X.ds.length/\∀ d∈X.ds.take k,d.id≠id) (fun k=>X.ds.length - k) 0 ⟨ay _,fun d hd=>(by cases hd)⟩ rfl Zs Zs rfl
  ⟨trivial,by show 0<2;omega,by show 1<2;omega,trivial,trivial⟩ (by exact⟨⟨by omega,az 2 X⟩,⟨by omega,oU 2⟩,trivial⟩) fun k ⟨hk,uO⟩=>?_
 refine Za ?_
 refine aG rfl (fun h=>?_) (fun h=>?_)
 rotate_left
 ·have fQ:k=X.ds.length:=by have:=ab h;omega
  rw[fQ,aI] at uO
  refine Ze ?_
  refine aw TT rfl fun β w' _ _=>?_
  exact⟨wj,6,rfl,qK _,.EA uO⟩
 have cz:k<X.ds.length:=by have:=ae h;omega
 have xj:=aa cz
 have bU:=iQ xj
 have pU:=qI xj
 have An:=IX.doc X.ds[k] (aP cz)
 have Eu:=Eu X.ds[k] (aP cz)
 have mi:X.ds.take (k+1)=X.ds.take k++[X.ds[k]]:=ak cz
 generalize X.ds[k]=d at *
 refine Zd ?_
 refine bk TT Z Z Z Z Z Z Z Z Z IX.lT Zo bU (Zr ?_)
 refine Za ?_
 refine aG rfl (fun h=>?_) (fun h=>?_)
 ·have h:d.id≠id:=by
   have h:(!decide (d.id=id))=true:=h
   simpa using h
  refine Zg ?_
  refine an (k+1) ⟨cz,fun e he=>?_⟩ Zo rfl Zs Zs rfl Zl Zl
  rw[mi] at he
  rcases bz.1 he with he | he
  ·exact uO e he
  ·rw[aU] at he
   subst he
   exact h
 have hid:d.id=id:=by
  have h:(!decide (d.id=id))=false:=h
  simpa using h
 have hgd:=UY σ X.xs pa X.next X.go X.gc IX.gl X9 d.ids Eu d.lo d.zg An.2
 refine Zc ?_
 refine ji (fun(t:DrS)=>t.σ) (fun t=>[(2,.a (.p 0 0)),(4,.a (.p 1 0)),(6,.a (.v (.int .i64 k))),(7,.a (.p 4 0)),(8,.a (.v (.int .i64 t.e)))]) (fun t=>[(0,.loc 114,aA X),(1,.loc 114,P7),(4,.loc 112,[.v (.slice t.bo t.n t.bc),.v (.int .i64 t.nx)])]) (fun _=>[]) 5
  (fun t=>σ.le t.σ/\match eF X.xs d.ids with
   | none=>t.e=6
   | some ys=>t.n=ys.length/\t.nx=X.next/\t.e=0/\bu t.σ t.bo ys.length t.bc 3 (eI ys)) ?_ (fun⟨s1,bo,n,bc,nx,e⟩ ⟨cP,ht⟩=>?_)
 ·have Sw:fa Tryz.prog 187 [.agg [.v (.slice X.go X.xs.length X.gc),.v (.int .i64 X.next)],.a (.v (.slice d.lo d.ids.length d.zg))] σ (fun v bD=>∃ t:DrS,t.σ=bD/\v=(SV.ik [.agg [.v (.slice t.bo t.n t.bc),.v (.int .i64 t.nx)],.a (.v (.int .i64 t.e))]).den fy/\match eF X.xs d.ids with
    | none=>t.e=6
    | some ys=>t.n=ys.length/\t.nx=X.next/\t.e=0/\bu t.σ t.bo ys.length t.bc 3 (eI ys)):=fun w hw=>Calls.mono (hgd w hw) fun e w' ⟨v,bD,h1,h2,h3,h4,hv⟩=>⟨v,bD,h1,h2,h3,h4,by
   cases hq:eF X.xs d.ids with
   | none =>
    rw[hq] at hv
    exact⟨⟨bD,none,0,0,0,6⟩,rfl,hv,rfl⟩
   | some ys =>
    rw[hq] at hv
    obtain⟨bo,bc,hv,HY⟩:=hv
    exact⟨⟨bD,bo,ys.length,bc,X.next,0⟩,rfl,hv,rfl,rfl,rfl,HY⟩⟩
  refine sJ 14 [0,2,4,5,8,9,10,13] mixed Zk rfl ?_
  refine gw (i:=0) TT rfl Zk Zk Z Z Z Z Z ?_
  refine gw (i:=1) TT rfl Zk Zk Z Z Z Z Z ?_
  refine gw (i:=2) TT rfl Zk Zk Z Z Z Z Z ?_
  refine gw (i:=3) TT rfl Zk Zk Z Z Z Z Z ?_
  refine gw (i:=4) TT rfl Zk Zk Z Z Z Z Z ?_
  refine Mb (i:=5) TT Z Z Zk Zk Z Z Z Z Z Z Z Z Z IX.lines Zo pU ?_
  refine gw (i:=6) TT rfl Zk Zk Z Z Z Z Z ?_
  refine qM (i:=7) (j:=11) Zk ?_ ?_
  ·refine oa Z Z Z Z Z Tryz.call187 Zl Sw fun v s1 cP ⟨t,O4,hv,ht⟩=>⟨.ik [.agg [.v (.slice t.bo t.n t.bc),.v (.int .i64 t.nx)],.a (.v (.int .i64 t.e))],Zl,hv.symm,?_⟩
   subst O4
   refine iy [(8,.pure),(9,.pure),(10,.pure),(11,.dP),(12,.sink),(13,.pure)] Z Z Zk ?_
   refine lP ?_
   refine an t ⟨cP,ht⟩ aj rfl Zs Zs rfl Zl Zl
  ·refine n9 TT Z Z Z Z Z ?_
   refine iy [(7,.dP),(8,.pure),(9,.pure),(10,.pure),(12,.sink),(13,.pure)] Z Z Zk ?_
   refine bN Z Z Z Z Z Tryz.call187 Zl Sw fun v s1 cP ⟨t,O4,hv,ht⟩=>⟨.ik [.agg [.v (.slice t.bo t.n t.bc),.v (.int .i64 t.nx)],.a (.v (.int .i64 t.e))],Zl,hv.symm,?_⟩
   subst O4
   refine lP ?_
   refine an t ⟨cP,ht⟩ aj rfl Zs Zs rfl Zl Zl
 dsimp only at cP ht ⊢
 have IX:=IX.mono cP
 cases hq:eF X.xs d.ids with
 | none =>
  rw[hq] at ht
  have ht:e=6:=ht
  subst ht
  refine Za ?_
  refine aG rfl (fun _=>?_) (fun h=>absurd h (by decide))
  refine Zb ?_
  refine aw TT rfl fun β w' _ _=>?_
  exact⟨wj,6,rfl,qK _,.lines k d xj hid hq⟩
 | some ys =>
  rw[hq] at ht
  obtain⟨rfl,rfl,rfl,HY⟩:=ht
  refine Za ?_
  refine aG rfl (fun h=>absurd h (by decide)) (fun _=>?_)
  have hZ:(X.ds.eraseIdx k).length=0+k+(X.ds.length - (k+1)):=by rw[List.length_eraseIdx_of_lt cz];omega
  have mK:∀(s:al),s1.le s->∀ y∈ys,qk s y:=fun s hs y hy=>by
   obtain⟨x,hx,-,e2,e3,e4⟩:=uV hq y hy
   exact((IX.ok x hx).mono hs).of e2 e3 e4
  have Pe:=IX.lT.pn
  have Hv:=IX.lines.pn
  have H1:=NO IX.lT hk
  have H2:=NN IX.lT cz
  have H3:=M7 IX.lines hk
  have H4:=M6 IX.lines cz
  refine Zd ?_
  refine dV 227 2 ?_
  refine dV 74 1 ?_
  refine ck [(0,.pure),(1,.quiet),(2,.pure),(3,.quiet),(4,.pure),(5,.pure),(6,.sink),(7,.pure),(8,.sink)] mixed Zk (aM TT rfl ?_)
  refine eN TT k Z Z Z Z Z Z Z Z Z Z Zo Pe (Zr ?_)
  refine dC TT 0 Z Z Z Z Z Z Z H1 Z Z Z Z Z Z Z Z Z (fun r hr=>(fR _ r hr).2.2) Zo (by show(0+k)*32<=_;omega) fun so1 sc1 ak4=>aM TT rfl ?_
  refine Za ?_
  refine ck [(0,.pure),(1,.quiet),(2,.pure),(3,.quiet),(4,.pure),(5,.pure),(6,.pure),(7,.sink),(8,.pure),(9,.sink)] mixed Zk (aM TT rfl ?_)
  refine eO Z Z Z Z Z Z Zo (aM TT rfl ?_)
  refine dL TT (k+1) X.ds.length Z Z Z Z Z Z Z Z Z Z (.inr ⟨_,_,rfl,by omega⟩) (.inl ⟨rfl,rfl⟩) cz Pe Pe (Zr ?_)
  refine dC TT 0 Z Z Z Z Z Z Z H2 Z Z Z Z Z Z Z Z Z (fun r hr=>(fR _ r hr).2.2) Zo (by show(0+k+(X.ds.length - (k+1)))*32<=_;omega) fun UE UI Yh=>aM TT rfl ?_
  refine Za ?_
  refine ck [(0,.pure),(1,.quiet),(2,.pure),(3,.quiet),(4,.pure),(5,.pure),(6,.sink),(7,.pure),(8,.sink)] mixed Zk (aM TT rfl ?_)
  refine eN TT k Z Z Z Z Z Z Z Z Z Z Zo Hv (Zr ?_)
  refine dC TT 1 Z Z Z Z Z Z Z H3 Z Z Z Z Z Z Z Z Z (fun r hr=>(gF _ r hr).2.2) Zo (by show(0+k)*24<=_;omega) fun to1 tc1 aj8=>aM TT rfl ?_
  refine Za ?_
  refine ck [(0,.pure),(1,.quiet),(2,.pure),(3,.quiet),(4,.pure),(5,.pure),(6,.pure),(7,.sink),(8,.pure),(9,.sink)] mixed Zk (aM TT rfl ?_)
  refine eO Z Z Z Z Z Z Zo (aM TT rfl ?_)
  refine dL TT (k+1) X.ds.length Z Z Z Z Z Z Z Z Z Z (.inr ⟨_,_,rfl,by omega⟩) (.inl ⟨rfl,rfl⟩) cz Hv Hv (Zr ?_)
  refine dC TT 1 Z Z Z Z Z Z Z H4 Z Z Z Z Z Z Z Z Z (fun r hr=>(gF _ r hr).2.2) Zo (by show(0+k+(X.ds.length - (k+1)))*24<=_;omega) fun Ux Uy Yd=>aM TT rfl ?_
  refine Zb ?_
  refine dD 0 Z Z fun s2 cw x4=>?_
  refine dD 0 Z Z fun s3 kV Fy=>?_
  refine aw TT rfl fun β w' _ _=>?_
  have e1:b9 s2 (K9 UE UI (X.ds.eraseIdx k)):=by
   have e:(⟨UE,0+k+(X.ds.length - (k+1)),UI,227,2,uX (X.ds.eraseIdx k)⟩:AE)=K9 UE UI (X.ds.eraseIdx k):=by unfold K9;rw[hZ]
   rw[<-e]
   have e3:uX (X.ds.eraseIdx k)=([]++(dK (X.ds.take k)).flatten.map AT.val)++(dK (X.ds.drop (k+1))).flatten.map AT.val:=by
    rw[jG]
    simp[uX,dK]
   rw[e3]
   exact x4
  have e2:b9 s3 (zf Ux Uy (X.ds.eraseIdx k)):=by
   have e:(⟨Ux,0+k+(X.ds.length - (k+1)),Uy,74,1,vS (X.ds.eraseIdx k)⟩:AE)=zf Ux Uy (X.ds.eraseIdx k):=by unfold zf;rw[hZ]
   rw[<-e]
   have e3:vS (X.ds.eraseIdx k)=([]++(eo (X.ds.take k)).flatten.map AT.val)++(eo (X.ds.drop (k+1))).flatten.map AT.val:=by
    rw[jG]
    simp[vS,eo]
   rw[e3]
   exact Fy
  have py:=al.le_trans cw kV
  refine⟨⟨X.ds.eraseIdx k,UE,UI,ys,bo,bc,X.next,Ux,Uy⟩,0,by unfold aA;dsimp only;rw[hZ];rfl,⟨(Co e1 (by rw[hZ];exact Yh)).mono kV,iO e2 (by rw[hZ];exact Yd),HY.mono py,mK s3 py,fun e he=>?_⟩,.ok k d xj hid _ hq Z Z⟩
  have:=IX.doc e (iH he)
  exact⟨this.1.mono py,this.2.mono py⟩
end Go.Sy
namespace Go.Sy
open Go.Proofs
structure N1 where
 k8:Int
 id:Int
 aK:Int
 v:aJ
 la:Option Addr
 lc:Nat
 ma:Option Addr
 mc:Nat
 L:List aH
 lo:Option Addr
 zg:Nat
def rN (o:N1):List AT:=[.v (.int .i64 o.k8),.v (.int .i64 o.id),.v (.int .i64 o.aK),.v (.int .i64 o.v.kind),.b o.v.b,.b o.v.n.neg,.v (.string o.v.n.dg),.v (.int .i64 o.v.n.ex),.v (.string o.v.s),.v (.slice o.la o.v.l.length o.lc),.v (.slice o.ma o.v.ks.length o.mc),.v (.slice o.lo o.L.length o.zg)]
theorem mB(n:Nat)(o:N1): ∀ c∈rN o,c.lt n:=by simp[rN,AT.lt]
def I7 (l:List N1):List (List AT):=l.map rN
theorem Fc{l:List N1}{i:Nat}{x:N1}(h:l[i]?=some x): (I7 l)[i]?=some (rN x):=by unfold I7;rw[aO,h];rfl
structure Hg (σ:al) (o:N1):Prop where
 v:eQ σ o.v (dN o.v o.la o.lc o.ma o.mc)
 L:bu σ o.lo o.L.length o.zg 11 (cv o.L)
 len:o.L.length<=140737488355328
 str:∀ r∈o.L,r.name.size<=140737488355328/\r.s.size<=140737488355328
theorem Hg.mono{σ bD:al}{o:N1}(h:Hg σ o)(hle:σ.le bD): Hg bD o:=⟨h.v.mono hle,h.L.mono hle,h.len,h.str⟩
def Zn (L:List aH):Prop:=L.length<=40/\∀ r∈L,r.name.size+r.s.size<=300/\r.n.dg.size<=200
def Zm (o:N1):Prop:=o.v.weight<=300/\Zn o.L
theorem VZ(σ:al)(ops:List N1)(hl:ops.length<=140737488355328)(ao:Option Addr)(cap:Nat)(H:bu σ ao ops.length cap 12 (I7 ops))(mK:∀ o∈ops,Hg σ o):
  bZ Tryz.prog 48 [.a (.v (.slice ao ops.length cap))] σ (fun v=>∃ b,v=.bool b/\(b=true->ops.length<=12/\∀ o∈ops,Zm o)):=by
 refine bW Tryz.func48 Z Z Zl fun w=>?_
 refine Za ?_
 refine aG rfl (fun h=>?_) (fun h=>?_)
 ·refine Zb ?_
  refine aw TT rfl fun β w' _ _=>?_
  exact⟨false,rfl,fun h=>by cases h⟩
 have hm:ops.length<=12:=by
  have:=ab h
  omega
 refine Zd ?_
 refine bX (fun(_:Nat)=>σ) (fun k=>[(0,.a (.v (.slice ao ops.length cap))),(3,.a (.v (.int .i64 k)))]) (fun _=>[]) (fun _=>[]) 0
  (fun k=>k<=ops.length/\∀ o∈ops.take k,Zm o) (fun k=>ops.length - k) 0 ⟨ay _,fun r hr=>by simp at hr⟩ rfl Zs Zs rfl Zl Zl fun k ⟨hk,mD⟩=>?_
 refine Za ?_
 refine aG rfl (fun h=>?_) (fun h=>?_)
 rotate_left
 ·refine Ze ?_
  refine aw TT rfl fun β w' _ _=>?_
  have fQ:k=ops.length:=by have:=ab h;omega
  subst fQ
  rw[aI] at mD
  exact⟨true,rfl,fun _=>⟨hm,mD⟩⟩
 have cz:k<ops.length:=by have:=ae h;omega
 have bU:=Fc (aa cz)
 have hx:=mK ops[k] (aP cz)
 have mi:ops.take (k+1)=ops.take k++[ops[k]]:=ak cz
 generalize ops[k]=x at *
 refine Zd ?_
 refine bk TT Z Z Z Z Z Z Z Z Z H Zo bU (Zr ?_)
 refine aT (ys:=[.agg (dN x.v x.la x.lc x.ma x.mc),.a (.v (.int .i64 300))]) Z Z Z Z Z Tryz.call13 ⟨dF 0 _ _ _ _ _,trivial,trivial⟩ (ah4 σ x.v _ 300 hx.v Zo Zo) fun v ⟨fb,hv,VE⟩=>⟨.a (.b fb),trivial,hv.symm,?_⟩
 refine Zr ?_
 refine ax 20 rfl (fun h=>?_) (fun h=>?_)
 ·refine gn ?_
  refine aw TT rfl fun β w' _ _=>?_
  exact⟨false,rfl,fun h=>by cases h⟩
 have h1:=VE (by simpa using h)
 refine Zr ?_
 refine bk TT Z Z Z Z Z Z Z Z Z H Zo bU (Zr ?_)
 refine aT Z Z Z Z Z Tryz.call12 Zl (Zi σ x.L hx.len hx.str x.lo x.zg hx.L 40) fun v ⟨fc,hv,KF⟩=>⟨.a (.b fc),trivial,hv.symm,?_⟩
 refine gX ?_
 refine aG rfl (fun h=>?_) (fun h=>?_)
 ·refine Zb ?_
  refine aw TT rfl fun β w' _ _=>?_
  exact⟨false,rfl,fun h=>by cases h⟩
 ·have h2:=KF (by simpa using h)
  refine Zc ?_
  refine an (k+1) ⟨cz,fun r hr=>?_⟩ Zo rfl Zs Zs rfl Zl Zl
  rw[mi] at hr
  rcases bz.1 hr with hr | hr
  ·exact mD r hr
  ·rw[aU.1 hr]
   exact⟨by omega,by omega,h2.2⟩
theorem ID(σ:al)(xs:List aH)(hl:xs.length<=1000000)(ao:Option Addr)(cap:Nat)(H:bu σ ao xs.length cap 11 (cv xs)):
  fa Tryz.prog 126 [.a (.v (.slice ao xs.length cap))] σ (fun v bD=>∃ bo bc,v=.slice bo xs.length bc/\bu bD bo xs.length bc 11 (cv xs)):=by
 refine ek Tryz.func126 Z Z Zl fun w=>?_
 refine Zd ?_
 refine dV 130 11 ?_
 refine fm (fun(_:Option Addr×Nat)=>σ) (fun s=>[(3,.a (.v (.slice s.1 xs.length s.2)))]) (fun _=>[]) (fun s=>[rE s.1 xs.length s.2 xs]) 0 (fun s=>xs.length<=s.2) ?_ (fun s hs=>?_)
 rotate_left
 ·obtain⟨bo,bc⟩:=s
  dsimp only at hs ⊢
  refine Zb ?_
  refine dD 0 Z Z fun nC cw x4=>?_
  refine aw TT rfl fun β w' _ _=>?_
  exact⟨bo,bc,rfl,E4 x4 hs⟩
 refine gC (fun _ (_:Option Addr×Nat)=>σ) (fun(k:Nat) s=>[(0,.a (.v (.slice ao xs.length cap))),(3,.a (.v (.slice s.1 (xs.take k).length s.2))),(4,.a (.v (.int .i64 k)))])
  (fun _ _=>[]) (fun k s=>[rE s.1 (xs.take k).length s.2 (xs.take k)]) 0
  (fun k s=>k<=xs.length/\k<=s.2) (fun k _=>xs.length - k) 0 (none,0) ⟨ay _,aq _⟩ rfl Zs Zs rfl Zl Zl fun k ⟨bo,bc⟩ ⟨hk,oq⟩=>?_
 dsimp only at oq ⊢
 refine Za ?_
 refine aG rfl (fun h=>?_) (fun h=>?_)
 rotate_left
 ·have fQ:k=xs.length:=by have:=ab h;omega
  subst fQ
  rw[aI]
  refine Ze ?_
  refine an (bo,bc) oq aj rfl Zs Zs rfl Zl Zl
 have cz:k<xs.length:=by have:=ae h;omega
 have uk:=dn (aa cz)
 have mi:xs.take (k+1)=xs.take k++[xs[k]]:=ak cz
 have Ys:(xs.take k).length=k:=by rw[aE];omega
 generalize xs[k]=x at *
 have LV:(xs.take (k+1)).length=k+1:=by rw[aE];omega
 rw[Ys]
 refine Zd ?_
 refine bk TT Z Z Z Z Z Z Z Z Z H Zo uk (Zr ?_)
 refine Za ?_
 refine bl TT 0 Z Z Z Z Z Z Z Z Z Z Z Z Z Z Z Z Z Z Zl rfl Zo (by show(k+1)*112<=_;omega) fun iB dk gS=>aM TT rfl ?_
 refine Zc ?_
 refine an (k+1,(iB,dk)) ⟨cz,gS⟩ (by dsimp only;omega) rfl ?_ Zs ?_ Zl Zl
 ·dsimp only
  rw[LV]
  (repeat first | exact trivial | refine⟨rfl,?_⟩)
 ·show [_]=[_]
  dsimp only
  unfold rE
  rw[LV,mi,pY]
  rfl
theorem Cu(σ:al)(p:dz): bZ Tryz.prog 54 [.agg (cc p)] σ (fun v=>v=(SV.agg (cc p)).den fy):=by
 refine bW Tryz.func54 Z Z ⟨bT 0 p,trivial⟩ fun w=>?_
 refine Zb ?_
 refine aw TT rfl fun β w' _ _=>?_
 rfl
end Go.Sy
namespace Go.Sy
def fu:List ByteArray->List gY->Bool
 | ss,[]=>decide (ss=[])
 | [],p::ps=>if p.k8=4 then fu [] ps else false
 | s::ss,p::ps=>if p.k8=4 then fu (s::ss) ps||fu ss (p::ps) else mJ p s&&fu ss ps
termination_by ss ps=>ss.length+ps.length
def tW (V:List Bool) (k:Nat):Prop:=V[k]?=some true
theorem tW.getD{V:List Bool}{k:Nat}: V.getD k false=true↔tW V k:=by
 unfold tW
 rw[jn]
 cases V[k]? with
 | none=>simp
 | some b=>simp
theorem tW.set{V:List Bool}{i j:Nat}(hi:i<V.length): tW (V.set i true) j↔tW V j\/j=i:=by
 unfold tW
 rw[eZ]
 split
 ·rename_i e
  subst e
  simp[hi]
 ·rename_i e
  constructor
  ·exact .inl
  ·rintro(h | h)
   ·exact h
   ·exact absurd h.symm e
def N2 (ps:List gY) (i j:Nat):Prop:=∀ m,i<=m->m<j->∃ p,ps[m]?=some p/\p.k8=4
theorem Ka{ps:List gY}{V:List Bool}(hV:V.length=ps.length+1): ∀(n:Nat),n<=ps.length->∀ j,tW ((List.range n).foldl (pR ps) V) j↔∃ i,i<=j/\tW V i/\N2 ps i j/\(i=j\/j<=n)
 | 0,_,j=>by
  show tW V j↔_
  constructor
  ·intro h
   exact⟨j,aq _,h,fun m h1 h2=>by omega,.inl rfl⟩
  ·rintro⟨i,h1,h2,h3,h4⟩
   have:i=j:=by omega
   exact this▸h2
 | n+1,hn,j=>by
  have ih:=Ka hV n Zo
  have hlen:((List.range n).foldl (pR ps) V).length=ps.length+1:=by rw[qN _ (xb ps),hV]
  rw[tf]
  generalize (List.range n).foldl (pR ps) V=W at *
  have hp:=aa (show n<ps.length by omega)
  unfold pR
  rw[hp]
  generalize ps[n]=p at *
  dsimp only
  have hold:(∀ i,i<=j->tW V i->N2 ps i j->¬ (i≠j/\j=n+1))->(tW W j↔∃ i,i<=j/\tW V i/\N2 ps i j/\(i=j\/j<=n+1)):=fun uO=>by
   rw[ih]
   constructor
   ·rintro⟨i,h1,h2,h3,h4⟩
    exact⟨i,h1,h2,h3,by omega⟩
   ·rintro⟨i,h1,h2,h3,h4⟩
    have:=uO i h1 h2 h3
    exact⟨i,h1,h2,h3,by omega⟩
  split
  ·rename_i h4
   split
   ·rename_i hw
    rw[tW.getD,ih] at hw
    obtain⟨i0,a1,a2,a3,a4⟩:=hw
    rw[tW.set Zo,ih]
    constructor
    ·rintro(⟨i,h1,h2,h3,h4⟩ | rfl)
     ·exact⟨i,h1,h2,h3,by omega⟩
     ·refine⟨i0,by omega,a2,fun m h1 h2=>?_,.inr (aq _)⟩
      by_cases e:m=n
      ·subst e
       exact⟨p,hp,h4⟩
      ·exact a3 m h1 Zo
    ·rintro⟨i,h1,h2,h3,h4⟩
     by_cases e:j=n+1
     ·exact .inr e
     ·exact .inl ⟨i,h1,h2,h3,by omega⟩
   ·rename_i hw
    rw[tW.getD,ih] at hw
    refine hold fun i h1 h2 h3 ⟨h4,h5⟩=>hw ⟨i,by omega,h2,fun m a b=>h3 m a Zo,by omega⟩
  ·rename_i h4
   refine hold fun i h1 h2 h3 ⟨h5,h6⟩=>?_
   obtain⟨q,hq,hq4⟩:=h3 n Zo Zo
   rw[hp] at hq
   obtain rfl:=bI hq
   exact h4 hq4
theorem zI{ps:List gY}{V:List Bool}(hV:V.length=ps.length+1)(j:Nat): tW (sG ps V) j↔∃ i,i<=j/\tW V i/\N2 ps i j:=by
 unfold sG
 rw[Ka hV _ (aq _)]
 constructor
 ·rintro⟨i,h1,h2,h3,_⟩
  exact⟨i,h1,h2,h3⟩
 ·rintro⟨i,h1,h2,h3⟩
  refine⟨i,h1,h2,h3,?_⟩
  by_cases e:i=j
  ·exact .inl e
  ·obtain⟨p,hp,_⟩:=h3 (j - 1) Zo Zo
   have:=(ah.1 hp).1
   exact .inr Zo
theorem Jd{ps:List gY}{V:List Bool}{s:ByteArray}: ∀(n:Nat),n<=ps.length->∀ j,tW ((List.range n).foldl (ri ps V s) (List.replicate (ps.length+1) false)) j↔∃ k p,k<n/\ps[k]?=some p/\tW V k/\(p.k8=4/\j=k\/¬ p.k8=4/\mJ p s=true/\j=k+1)
 | 0,_,j=>by
  constructor
  ·intro h
   unfold tW at h
   rw[show(List.range 0).foldl (ri ps V s) (List.replicate (ps.length+1) false)=List.replicate (ps.length+1) false from rfl,List.getElem?_replicate] at h
   split at h
   ·cases h
   ·cases h
  ·rintro⟨k,p,h,_⟩
   omega
 | n+1,hn,j=>by
  have ih:=Jd (ps:=ps) (V:=V) (s:=s) n Zo
  have hlen:((List.range n).foldl (ri ps V s) (List.replicate (ps.length+1) false)).length=ps.length+1:=by rw[qN _ (yS ps V s),fK]
  rw[tf]
  generalize (List.range n).foldl (ri ps V s) (List.replicate (ps.length+1) false)=W at *
  have hp:=aa (show n<ps.length by omega)
  unfold ri
  rw[hp]
  generalize ps[n]=p at *
  dsimp only
  have ac6:∀(P:Prop),(P↔tW W j\/(tW V n/\(p.k8=4/\j=n\/¬ p.k8=4/\mJ p s=true/\j=n+1)))->(P↔∃ k p,k<n+1/\ps[k]?=some p/\tW V k/\(p.k8=4/\j=k\/¬ p.k8=4/\mJ p s=true/\j=k+1)):=fun P hP=>by
   rw[hP,ih]
   constructor
   ·rintro(⟨k,q,h1,h2,h3⟩ | ⟨h1,h2⟩)
    ·exact⟨k,q,by omega,h2,h3⟩
    ·exact⟨n,p,db _,hp,h1,h2⟩
   ·rintro⟨k,q,h1,h2,h3,h4⟩
    by_cases e:k=n
    ·subst e
     rw[hp] at h2
     obtain rfl:=bI h2
     exact .inr ⟨h3,h4⟩
    ·exact .inl ⟨k,q,by omega,h2,h3,h4⟩
  refine ac6 _ ?_
  split
  ·rename_i hv
   rw[tW.getD] at hv
   split
   ·rename_i h4
    rw[tW.set (V:=W) (i:=n) Zo]
    constructor
    ·rintro(h | h)
     ·exact .inl h
     ·exact .inr ⟨hv,.inl ⟨h4,h⟩⟩
    ·rintro(h | ⟨_,h | h⟩)
     ·exact .inl h
     ·exact .inr h.2
     ·exact absurd h4 h.1
   ·rename_i h4
    split
    ·rename_i hf
     rw[tW.set (V:=W) (i:=n+1) Zo]
     constructor
     ·rintro(h | h)
      ·exact .inl h
      ·exact .inr ⟨hv,.inr ⟨h4,hf,h⟩⟩
     ·rintro(h | ⟨_,h | h⟩)
      ·exact .inl h
      ·exact absurd h.1 h4
      ·exact .inr h.2.2
    ·rename_i hf
     constructor
     ·exact .inl
     ·rintro(h | ⟨_,h | h⟩)
      ·exact h
      ·exact absurd h.1 h4
      ·exact absurd h.2.1 hf
  ·rename_i hv
   rw[tW.getD] at hv
   constructor
   ·exact .inl
   ·rintro(h | h)
    ·exact h
    ·exact absurd h.1 hv
theorem zb{ps:List gY}{V:List Bool}{s:ByteArray}(j:Nat): tW (we ps V s) j↔∃ k p,ps[k]?=some p/\tW V k/\(p.k8=4/\j=k\/¬ p.k8=4/\mJ p s=true/\j=k+1):=by
 unfold we
 rw[Jd _ (aq _)]
 constructor
 ·rintro⟨k,p,_,h⟩
  exact⟨k,p,h⟩
 ·rintro⟨k,p,h1,h2⟩
  exact⟨k,p,(ah.1 h1).1,h1,h2⟩
def Hk (ps:List gY) (V:List Bool):Prop:=∀ k p,ps[k]?=some p->p.k8=4->tW V k->tW V (k+1)
theorem Kb{ps:List gY}{V:List Bool}(hV:V.length=ps.length+1): Hk ps (sG ps V):=fun k p hp h4 h=>by
 rw[zI hV] at h ⊢
 obtain⟨i,h1,h2,h3⟩:=h
 refine⟨i,by omega,h2,fun m a b=>?_⟩
 by_cases e:m=k
 ·subst e
  exact⟨p,hp,h4⟩
 ·exact h3 m a Zo
def zP (ps:List gY) (V:List Bool) (ss:List ByteArray):Prop:=∃ k,k<=ps.length/\tW V k/\fu ss (ps.drop k)=true
theorem sD{ps:List gY}{k:Nat}{p:gY}(h:ps[k]?=some p): ps.drop k=p::ps.drop (k+1):=by
 obtain⟨hl,rfl⟩:=ah.1 h
 exact aB hl
theorem zU{ps:List gY}{p:gY}(h4:p.k8=4){ss:List ByteArray}(h:fu ss ps=true): fu ss (p::ps)=true:=by
 cases ss with
 | nil=>rw[fu,au h4];exact h
 | cons s ss=>rw[fu,au h4,h,Bool.true_or]
theorem Ad{ps:List gY}{V:List Bool}(hV:V.length=ps.length+1)(ss:List ByteArray): zP ps (sG ps V) ss↔zP ps V ss:=by
 constructor
 ·rintro⟨j,h1,h2,h3⟩
  rw[zI hV] at h2
  obtain⟨i,a1,a2,a3⟩:=h2
  refine⟨i,by omega,a2,?_⟩
  have:∀ n,n<=j - i->fu ss (ps.drop (j - n))=true:=by
   intro n
   induction n with
   | zero=>intro _;exact h3
   | succ n ih =>
    intro hn
    obtain⟨p,hp,h4⟩:=a3 (j - (n+1)) Zo Zo
    rw[sD hp,show j - (n+1)+1=j - n by omega]
    exact zU h4 (ih Zo)
  have:=this (j - i) (aq _)
  rw[show j - (j - i)=i by omega] at this
  exact this
 ·rintro⟨k,h1,h2,h3⟩
  exact⟨k,h1,(zI hV k).2 ⟨k,aq _,h2,fun m a b=>by omega⟩,h3⟩
theorem Ji{ps:List gY}{V:List Bool}(hk:Hk ps V)(s:ByteArray)(ss:List ByteArray): zP ps (we ps V s) ss↔zP ps V (s::ss):=by
 constructor
 ·rintro⟨j,h1,h2,h3⟩
  rw[zb] at h2
  obtain⟨k,p,hp,hv,h⟩:=h2
  have cz:=(ah.1 hp).1
  refine⟨k,by omega,hv,?_⟩
  rw[sD hp,fu]
  rcases h with⟨h4,rfl⟩ | ⟨h4,hf,rfl⟩
  ·rw[au h4,<-sD hp,h3,Bool.or_true]
  ·rw[ai h4,hf,h3]
   rfl
 ·rintro⟨k,h1,h2,h3⟩
  generalize hn:ps.length - k=n
  induction n generalizing k with
  | zero =>
   rw[List.drop_eq_nil_of_le Zo,fu] at h3
   cases ae h3
  | succ n ih =>
   have hp:=aa (show k<ps.length by omega)
   generalize ps[k]=p at *
   rw[sD hp,fu] at h3
   split at h3
   ·rename_i h4
    rcases Bool.or_eq_true_iff.1 h3 with h3 | h3
    ·exact ih (k+1) Zo (hk k p hp h4 h2) h3 Zo
    ·exact⟨k,h1,(zb k).2 ⟨k,p,hp,h2,.inl ⟨h4,rfl⟩⟩,by rw[sD hp];exact h3⟩
   ·rename_i h4
    obtain⟨hf,h3⟩:=Bool.and_eq_true_iff.1 h3
    exact⟨k+1,by omega,(zb (k+1)).2 ⟨k,p,hp,h2,.inr ⟨h4,hf,rfl⟩⟩,h3⟩
theorem Lq{ps:List gY}{V:List Bool}(hk:Hk ps V): tW V ps.length↔zP ps V []:=by
 constructor
 ·intro h
  exact⟨ps.length,aq _,h,by rw[bC,fu];rfl⟩
 ·rintro⟨k,h1,h2,h3⟩
  generalize hn:ps.length - k=n
  induction n generalizing k with
  | zero =>
   have:k=ps.length:=by omega
   exact this▸h2
  | succ n ih =>
   have hp:=aa (show k<ps.length by omega)
   generalize ps[k]=p at *
   rw[sD hp,fu] at h3
   split at h3
   ·rename_i h4
    exact ih (k+1) Zo (hk k p hp h4 h2) h3 Zo
   ·cases h3
theorem EP{ps:List gY}: ∀(ss:List ByteArray) (V:List Bool),V.length=ps.length+1->Hk ps V->(tW (ss.foldl (fun V s=>sG ps (we ps V s)) V) ps.length↔zP ps V ss)
 | [],V,_,hk=>Lq hk
 | s::ss,V,hV,hk=>by
  rw[List.foldl_cons,EP ss _ (by rw[zH,vx]) (Kb (vx _ _ _)),Ad (vx _ _ _),Ji hk]
theorem OT(ss:List ByteArray)(ps:List gY): nW ss ps=fu ss ps:=by
 have hl:((List.replicate (ps.length+1) false).set 0 true).length=ps.length+1:=by rw[dh,fK]
 rw[cg]
 unfold nW QR
 rw[tW.getD,EP ss _ (BS ps) (Kb hl)]
 unfold yG
 rw[Ad hl]
 constructor
 ·rintro⟨k,h1,h2,h3⟩
  rw[tW.set (by rw[fK];omega)] at h2
  rcases h2 with h2 | rfl
  ·unfold tW at h2
   rw[List.getElem?_replicate] at h2
   split at h2
   ·cases h2
   ·cases h2
  ·exact h3
 ·intro h
  exact⟨0,ay _,(tW.set (by rw[fK];omega)).2 (.inr rfl),h⟩
end Go.Sy
namespace Go.Sy
open Go.Proofs
theorem Md{p:gY}(h:p.k8=1)(x:ByteArray): mJ p x=decide (x=zG++p.name):=by
 unfold mJ
 rw[au h]
 by_cases hx:x=vY++p.name
 ·subst hx
  have e:nr (vY++p.name) vY=true:=by
   unfold nr
   rw[aQ,aX,aX]
   exact⟨by rw[ByteArray.size_append];omega,ByteArray.extract_append_eq_left rfl⟩
  have e2:Dt (vY++p.name) vY=p.name:=by
   unfold Dt
   rw[au e]
   exact ByteArray.extract_append_eq_right rfl ByteArray.size_append
  rw[e,e2,cp,bj rfl]
  exact(bj rfl).symm
 ·rw[show decide (x=zG++p.name)=false from b7 hx]
  by_cases hp:nr x vY=true
  ·rw[hp,cp,b7]
   intro e
   apply hx
   unfold Dt at e
   rw[au hp] at e
   unfold nr at hp
   rw[aQ] at hp
   have h1:=ae hp.1
   have h2:=ae hp.2
   conv=>lhs;rw[<-ByteArray.extract_zero_size (b:=x)]
   conv=>rhs;rw[<-h2,<-e]
   rw[ByteArray.extract_append_extract]
   congr 1
   have:vY.size=1:=rfl
   omega
  ·rw[Bool.not_eq_true] at hp
   rw[hp,dt]
theorem SS{p:gY}(h:p.k8=2)(x:ByteArray): mJ p x=true:=by
 unfold mJ
 rw[ai Zo,au h]
theorem Pq{p:gY}(h:p.k8=3)(x:ByteArray): mJ p x=decide (x=wv):=by
 unfold mJ
 rw[ai Zo,ai Zo,au h]
 rfl
theorem Pp{p:gY}(h1:¬ p.k8=1)(h2:¬ p.k8=2)(h3:¬ p.k8=3)(x:ByteArray): mJ p x=false:=by
 unfold mJ
 rw[ai h1,ai h2,ai h3]
theorem K5: ∀(N:Nat) (σ:al) (ss:List ByteArray) (ps:List gY),ss.length+ps.length<N->ss.length<=140737488355328->ps.length<=1000000->(∀ p∈ps,p.name.size<=1000000)->∀(so:Option Addr) (sc:Nat) (_:bu σ so ss.length sc 1 (ib ss)) (po:Option Addr) (pc:Nat) (_:bu σ po ps.length pc 2 (iN ps)),
  bZ Tryz.prog 190 [.a (.v (.slice so ss.length sc)),.a (.v (.slice po ps.length pc))] σ (fun v=>v=.bool (fu ss ps)):=by
 intro N
 induction N with
 | zero=>intro _ _ _ h;omega
 | succ N ih=>?_
 intro σ ss ps hN hss ou qg so sc S po pc P
 refine bW Tryz.func190 Z Z Zl fun w=>?_
 refine Za ?_
 refine aG rfl (fun h=>?_) (fun h=>?_)
 ·have h:(ps.length:Int)=0:=ae h
  have e:ps=[]:=aY Zo
  subst e
  refine Zb ?_
  refine aw TT rfl fun β w' _ _=>?_
  rw[fu]
  refine aN Value.bool ?_
  rw[cg,aX,aX]
  constructor
  ·intro h
   exact aY Zo
  ·intro h
   rw[h]
   rfl
 have h:¬ (ps.length:Int)=0:=ab h
 cases ps with
 | nil=>exact absurd rfl h
 | cons p ps=>?_
 have uk:=th (l:=p::ps) (i:=0) rfl
 have hpn:=qg p a8
 have hPs:=P.sub (l:=1) (k:=(p::ps).length) (by simp) (aq _)
 have hPc:=P.pn
 rw[show((iN (p::ps)).take (p::ps).length).drop 1=iN ps by rw[bY (by simp[iN])];rfl,show(p::ps).length - 1=ps.length by simp] at hPs
 rw[List.length_cons] at hN ou
 have px:(p::ps).length=ps.length+1:=List.length_cons
 refine Zc ?_
 refine bk TT Z Z Z Z Z Z Z Z Z P Zo uk (Zr ?_)
 refine Za ?_
 refine aG rfl (fun h4=>?_) (fun h4=>?_)
 ·have h4:p.k8=4:=ae h4
  refine Za ?_
  refine dL TT 1 (p::ps).length Z Z Z Z Z Z Z Z Z Z (.inr ⟨_,_,rfl,rfl⟩) (.inl ⟨rfl,rfl⟩) Zo hPc hPc (Zr ?_)
  refine aT (ys:=[.a (.v (.slice so ss.length sc)),.a (.v (.slice (if pc=1 then po else po.map (·.add (1*2))) ps.length (pc - 1)))]) Z Z Z Z Z Tryz.call190 ⟨trivial,trivial,trivial⟩ (ih σ ss ps Zo hss Zo (fun q hq=>qg q (ba _ hq)) so sc S _ _ hPs) fun v hv=>⟨.a (.b (fu ss ps)),trivial,hv.symm,?_⟩
  refine Zr ?_
  refine ax 21 rfl (fun h5=>?_) (fun h5=>?_)
  ·have h5:fu ss ps=true:=h5
   refine gn ?_
   refine aw TT rfl fun β w' _ _=>?_
   rw[zU h4 h5]
   rfl
  have h5:fu ss ps=false:=h5
  refine Zr ?_
  refine ax 25 rfl (fun h6=>?_) (fun h6=>?_)
  ·have h6:(ss.length:Int) > 0:=ae h6
   cases ss with
   | nil=>simp at h6
   | cons s ss=>?_
   have hSs:=S.sub (l:=1) (k:=(s::ss).length) (by simp) (aq _)
   have hSc:=S.pn
   rw[show((ib (s::ss)).take (s::ss).length).drop 1=ib ss by rw[bY (by simp[ib])];rfl,show(s::ss).length - 1=ss.length by simp] at hSs
   rw[List.length_cons] at hN hss
   have pv:(s::ss).length=ss.length+1:=List.length_cons
   refine Zr ?_
   refine dL TT 1 (s::ss).length Z Z Z Z Z Z Z Z Z Z (.inr ⟨_,_,rfl,rfl⟩) (.inl ⟨rfl,rfl⟩) Zo hSc hSc (Zr ?_)
   refine aT (ys:=[.a (.v (.slice (if sc=1 then so else so.map (·.add (1*1))) ss.length (sc - 1))),.a (.v (.slice po (p::ps).length pc))]) Z Z Z Z Z Tryz.call190 ⟨trivial,trivial,trivial⟩ (ih σ ss (p::ps) Zo Zo Zo qg _ _ hSs po pc P) fun v hv=>⟨.a (.b (fu ss (p::ps))),trivial,hv.symm,?_⟩
   refine gn ?_
   refine aw TT rfl fun β w' _ _=>?_
   conv=>rhs;rw[fu,au h4,h5,Bool.false_or]
   rfl
  ·have h6:¬ (ss.length:Int) > 0:=ab h6
   cases ss with
   | cons s ss=>simp at h6
   | nil=>?_
   refine gn ?_
   refine aw TT rfl fun β w' _ _=>?_
   rw[fu,au h4,h5]
   rfl
 have h4:¬ p.k8=4:=ab h4
 refine Zd ?_
 refine aG rfl (fun h5=>?_) (fun h5=>?_)
 ·have h5:(ss.length:Int)=0:=ae h5
  have e:ss=[]:=aY Zo
  subst e
  refine Zb ?_
  refine aw TT rfl fun β w' _ _=>?_
  rw[fu,ai h4]
  rfl
 have h5:¬ (ss.length:Int)=0:=ab h5
 cases ss with
 | nil=>exact absurd rfl h5
 | cons x ss=>?_
 have T8:=np (l:=x::ss) (i:=0) rfl
 have hSs:=S.sub (l:=1) (k:=(x::ss).length) (by simp) (aq _)
 have hSc:=S.pn
 rw[show((ib (x::ss)).take (x::ss).length).drop 1=ib ss by rw[bY (by simp[ib])];rfl,show(x::ss).length - 1=ss.length by simp] at hSs
 rw[List.length_cons] at hN hss
 have pv:(x::ss).length=ss.length+1:=List.length_cons
 have Bn:fu (x::ss) (p::ps)=(mJ p x&&fu ss ps):=by rw[fu,ai h4]
 rw[Bn]
 refine Zc ?_
 refine ji (fun(_:Unit)=>σ) (fun _=>[(0,.a (.v (.slice so (x::ss).length sc))),(1,.a (.v (.slice po (p::ps).length pc))),(5,.a (.b (mJ p x)))]) (fun _=>[]) (fun _=>[]) 0 (fun _=>True) ?_ (fun _ _=>?_)
 ·refine ck [(0,.pure),(1,.pure),(2,.pure),(3,.quiet),(4,.pure),(5,.pure),(6,.pure),(7,.pure),(8,.quiet),(9,.pure),(10,.pure),(11,.pure),(12,.quiet),(13,.pure),(14,.pure),(15,.pure),(16,.pure),(17,.pure),(18,.pure),(19,.pure),(20,.quiet),(21,.pure),(22,.pure),(23,.pure),(24,.pure),(25,.pure),(26,.pure),(27,.quiet),(28,.pure),(29,.pure),(30,.pure),(31,.pure),(32,.quiet),(33,.pure),(34,.pure),(35,.pure),(36,.pure)] mixed Zk (aM TT rfl ?_)
  refine bk TT Z Z Z Z Z Z Z Z Z P Zo uk (Zr ?_)
  refine ax 40 rfl (fun h1=>?_) (fun h1=>?_)
  ·have h1:p.k8=1:=ae h1
   rw[Md h1]
   refine Zr ?_
   refine bk TT Z Z Z Z Z Z Z Z Z S Zo T8 (Zr ?_)
   refine bk TT Z Z Z Z Z Z Z Z Z P Zo uk (Zr ?_)
   refine yX Z Z Z Z Z Z (by show 1+p.name.size<=_;omega) (Zr ?_)
   refine ax 51 rfl (fun h2=>?_) (fun h2=>?_)
   ·have h2:decide (x=zG++p.name)=true:=h2
    rw[h2]
    refine lP ?_
    refine gu 5 (.a (.b true)) rfl trivial (fun _=>rfl) ?_
    refine an () trivial aj rfl Zs Zs rfl Zl Zl
   ·have h2:decide (x=zG++p.name)=false:=h2
    rw[h2]
    refine Zr ?_
    refine bk TT Z Z Z Z Z Z Z Z Z P Zo uk (Zr ?_)
    refine ax 58 rfl (fun h3=>absurd (ae h3) Zo) (fun _=>?_)
    refine Zr ?_
    refine bk TT Z Z Z Z Z Z Z Z Z P Zo uk (Zr ?_)
    refine ax 64 rfl (fun h3=>absurd (ae h3) Zo) (fun _=>?_)
    refine lP ?_
    refine gu 5 (.a (.b false)) rfl trivial (fun _=>rfl) ?_
    refine an () trivial aj rfl Zs Zs rfl Zl Zl
  ·have h1:¬ p.k8=1:=ab h1
   refine Zr ?_
   refine bk TT Z Z Z Z Z Z Z Z Z P Zo uk (Zr ?_)
   refine ax 58 rfl (fun h2=>?_) (fun h2=>?_)
   ·rw[SS (ae h2)]
    refine lP ?_
    refine gu 5 (.a (.b true)) rfl trivial (fun _=>rfl) ?_
    refine an () trivial aj rfl Zs Zs rfl Zl Zl
   ·have h2:¬ p.k8=2:=ab h2
    refine Zr ?_
    refine bk TT Z Z Z Z Z Z Z Z Z P Zo uk (Zr ?_)
    refine ax 64 rfl (fun h3=>?_) (fun h3=>?_)
    ·rw[Pq (ae h3)]
     refine Zr ?_
     refine bk TT Z Z Z Z Z Z Z Z Z S Zo T8 (Zr ?_)
     refine Zc ?_
     refine an () trivial aj rfl Zs Zs rfl Zl Zl
    ·rw[Pp h1 h2 (ab h3)]
     refine lP ?_
     refine gu 5 (.a (.b false)) rfl trivial (fun _=>rfl) ?_
     refine an () trivial aj rfl Zs Zs rfl Zl Zl
 refine Za ?_
 refine ck [(0,.pure),(1,.pure),(2,.pure),(3,.pure),(4,.pure),(5,.pure),(6,.dP),(7,.pure),(8,.pure)] mixed Zk (aM TT rfl ?_)
 refine ax 72 rfl (fun h6=>?_) (fun h6=>?_)
 ·have h6:mJ p x=true:=h6
  rw[h6,cp]
  refine Zr ?_
  refine dL TT 1 (x::ss).length Z Z Z Z Z Z Z Z Z Z (.inr ⟨_,_,rfl,rfl⟩) (.inl ⟨rfl,rfl⟩) Zo hSc hSc (Zr ?_)
  refine dL TT 1 (p::ps).length Z Z Z Z Z Z Z Z Z Z (.inr ⟨_,_,rfl,rfl⟩) (.inl ⟨rfl,rfl⟩) Zo hPc hPc (Zr ?_)
  refine aT (ys:=[.a (.v (.slice (if sc=1 then so else so.map (·.add (1*1))) ss.length (sc - 1))),.a (.v (.slice (if pc=1 then po else po.map (·.add (1*2))) ps.length (pc - 1)))]) Z Z Z Z Z Tryz.call190 ⟨trivial,trivial,trivial⟩ (ih σ ss ps Zo Zo Zo (fun q hq=>qg q (ba _ hq)) _ _ hSs _ _ hPs) fun v hv=>⟨.a (.b (fu ss ps)),trivial,hv.symm,?_⟩
  refine gn ?_
  refine aw TT rfl fun β w' _ _=>?_
  rfl
 ·have h6:mJ p x=false:=h6
  rw[h6,dt]
  refine gn ?_
  refine aw TT rfl fun β w' _ _=>?_
  rfl
end Go.Sy
namespace Go.Sy
open Go.Proofs
structure RmS where
 k:Nat
 o:List Int
 oo:Option Addr
 oc:Nat
theorem rq(xs:List cH)(ps:List gY)(k:Nat): v7 (fun _ x=>nW x.st ps) xs k=(xs.filter fun x=>fu x.st ps).map cH.id:=by
 induction xs generalizing k with
 | nil=>rfl
 | cons x xs ih =>
  rw[v7,dS,OT,ih]
  split
  ·rfl
  ·rfl
theorem Ej{xs:List cH}{ps:List gY}{k:Nat}{x:cH}(h:xs[k]?=some x): dU (xs.take (k+1)) ps=dU (xs.take k) ps++if fu x.st ps then [x.id] else []:=by
 obtain⟨hl,rfl⟩:=ah.1 h
 unfold dU
 rw[rq,rq,ak hl,eu,aF]
 congr 1
 rw[dS,nJ]
 split
 ·rfl
 ·rfl
theorem xP(xs:List cH)(ps:List gY): (dU xs ps).length<=xs.length:=by
 unfold dU
 rw[rq,aR]
 exact lx _ _
theorem La(σ:al)(xs:List cH)(pa:xs.length<=1000000)(ao:Option Addr)(cap:Nat)(next:Int)(H:bu σ ao xs.length cap 3 (eI xs))(hx:∀ x∈xs,qk σ x)(ps:List gY)(hl:ps.length<=1000000)(qg:∀ p∈ps,p.name.size<=1000000)(po:Option Addr)(pc:Nat)(P:bu σ po ps.length pc 2 (iN ps)):
  fa Tryz.prog 130 [.agg [.v (.slice ao xs.length cap),.v (.int .i64 next)],.a (.v (.slice po ps.length pc))] σ (fun v bD=>∃ oo oc,v=.slice oo (dU xs ps).length oc/\bu bD oo (dU xs ps).length oc 1 (kK (dU xs ps))):=by
 refine ek Tryz.func130 Z Z Zl fun w=>?_
 refine Zd ?_
 refine dV 3 1 ?_
 refine bX (fun(_:RmS)=>σ) (fun t=>[(1,.a (.v (.slice po ps.length pc))),(2,.a (.p 0 0)),(5,.a (.v (.slice t.oo t.o.length t.oc))),(6,.a (.v (.int .i64 (t.k:Nat))))]) (fun _=>[(0,.loc 112,[.v (.slice ao xs.length cap),.v (.int .i64 next)])]) (fun t=>[Fv t.oo t.oc t.o]) 1
  (fun t=>t.k<=xs.length/\t.o=dU (xs.take t.k) ps/\t.o.length<=t.oc) (fun t=>xs.length - t.k) ⟨0,[],none,0⟩ ⟨ay _,rfl,aq _⟩ rfl Zs Zs rfl Zl Zl fun⟨k,o,oo,oc⟩ ⟨hk,ho,j6⟩=>?_
 dsimp only at hk ho j6 ⊢
 have Hs:o.length<=k:=by
  have:=xP (xs.take k) ps
  rw[<-ho,aE] at this
  omega
 refine Za ?_
 refine aG rfl (fun h=>?_) (fun h=>?_)
 rotate_left
 ·have fQ:k=xs.length:=by have:=ab h;omega
  rw[fQ,aI] at ho
  subst ho
  refine Ze ?_
  refine dD 0 Z Z fun bD nY hS=>?_
  refine aw TT rfl fun β w' _ _=>?_
  exact⟨oo,oc,rfl,sk hS j6⟩
 have cz:k<xs.length:=by have:=ae h;omega
 have O3:=aa cz
 have uk:=m8 O3
 have Ni:=hx xs[k] (aP cz)
 have qt:=Ej (ps:=ps) O3
 generalize xs[k]=x at *
 refine Zd ?_
 refine bk TT Z Z Z Z Z Z Z Z Z H Zo uk (Zr ?_)
 refine aT Z Z Z Z Z Tryz.call190 ⟨trivial,trivial,trivial⟩ (K5 (x.st.length+ps.length+1) σ x.st ps Zo Ni.1 hl qg x.ao x.cap Ni.2 po pc P) fun v hv=>⟨.a (.b (fu x.st ps)),trivial,hv.symm,?_⟩
 refine gX ?_
 refine aG rfl (fun h=>?_) (fun h=>?_)
 ·rw[h,au rfl] at qt
  refine Za ?_
  refine bk TT Z Z Z Z Z Z Z Z Z H Zo uk (Zr ?_)
  refine bl TT 0 Z Z Z Z Z Z Z Z Z Z Z Z Z Z Z Z Z Z Zl rfl Zo (by show(o.length+1)*8<=_;omega) fun om nE lS=>aM TT rfl ?_
  refine Zc ?_
  have lJ:(o++[x.id]).length=o.length+1:=by simp
  refine an (⟨k+1,o++[x.id],om,nE⟩:RmS) ⟨cz,by dsimp only;rw[qt,ho],by dsimp only;omega⟩ (by dsimp only;omega) rfl ?_ Zs ?_ Zl Zl
  ·dsimp only
   rw[lJ]
   (repeat first | exact trivial | refine⟨rfl,?_⟩)
  ·show [_]=[_]
   dsimp only
   unfold Fv CV
   rw[aF,lJ]
   rfl
 ·rw[h,ai (by decide),aL] at qt
  refine Zc ?_
  refine an (⟨k+1,o,oo,oc⟩:RmS) ⟨cz,by dsimp only;rw[qt,ho],j6⟩ (by dsimp only;omega) rfl Zs Zs rfl Zl Zl
theorem wK(σ:al)(X:kR)(IX:iS σ X)(hl:X.ds.length<=1000)(hd:∀ d∈X.ds,d.ids.length=d.L.length/\d.L.length<=100000)(pa:X.xs.length<=1000000)(hid:X.xs.Pairwise fun x y=>x.id<y.id)(ps:List gY)(px:ps.length<=1000000)(qg:∀ p∈ps,p.name.size<=1000000)(po:Option Addr)(pc:Nat)(P:bu σ po ps.length pc 2 (iN ps)):
  fa Tryz.prog 52 [.agg (aA X),.a (.v (.slice po ps.length pc))] σ (fun v bD=>∃ oo oc,v=.slice oo (lX (fun k=>decide (k∈dU X.xs ps)) X.ds).length oc/\bu bD oo (lX (fun k=>decide (k∈dU X.xs ps)) X.ds).length oc 5 (eP (lX (fun k=>decide (k∈dU X.xs ps)) X.ds))):=by
 have ZD:(dU X.xs ps).Nodup:=by
  unfold dU
  rw[rq]
  refine List.pairwise_map.2 ?_
  refine(List.Pairwise.sublist List.filter_sublist hid).imp fun h e=>?_
  omega
 have LU:=xP X.xs ps
 refine ek Tryz.func52 Z Z ⟨az 0 X,trivial,trivial⟩ fun w=>?_
 refine Za ?_
 refine ck [(0,.quiet),(1,.pure),(2,.quiet),(3,.pure),(4,.dP),(5,.dP),(6,.pure)] mixed Zk (aM TT rfl ?_)
 refine cr 5 (.agg (aA X)) rfl (az _ _) (fun _=>rfl) ?_
 refine bN Z Z Z Z Z Tryz.call130 Zl (La σ X.xs pa X.go X.gc X.next IX.gl IX.ok ps px qg po pc P) fun v nC cw ⟨mo,mc,hv,HI⟩=>⟨.a (.v (.slice mo (dU X.xs ps).length mc)),trivial,hv.symm,?_⟩
 refine Zr ?_
 refine bN (ys:=[.agg (aA X),.a (.v (.slice mo (dU X.xs ps).length mc))]) Z Z Z Z Z Tryz.call129 ⟨az 0 X,trivial,trivial⟩ (WB nC X (IX.mono cw) hl hd (dU X.xs ps) ZD Zo mo mc HI) fun v s2 kV ⟨oo,oc,hv,HO⟩=>⟨.a (.v (.slice oo (lX (fun k=>decide (k∈dU X.xs ps)) X.ds).length oc)),trivial,hv.symm,?_⟩
 refine gn ?_
 refine aw TT rfl fun β w' _ _=>?_
 exact⟨oo,oc,rfl,HO⟩
end Go.Sy
namespace Go.Sy
open Go.Proofs
theorem Ds{σ:al}{g:Nat}{xs:List Value}(hx:xs=(iN [kx]).flatten.map AT.val)(hS:b9 σ ⟨some ⟨g,0,none⟩,1,1,119,2,xs⟩): bu σ (some ⟨g,0,none⟩) 1 1 2 (iN [kx]) :=
 hS.sl hx (fun r hr=>by
  simp only[iN,bx,gi,aU] at hr
  subst hr
  exact⟨rfl,by simp[mz,AT.lt]⟩) Z Z (aq _)
def AK (X:kR) (ps:List gY):List cq:=lX (fun k=>decide (k∈dU X.xs ps)) X.ds
theorem IU{X Y:kR}(h:mN X Y)(ps:List gY): AK X ps=AK Y ps:=by
 unfold AK
 rw[Ek h.xs,xI h.ds]
theorem fS.E8{k:Nat}{X:kR}(h:fS k X)(hk:k<=12)(q:Int->Bool): (lX q X.ds).length<=3600:=by
 have h1:=h.num
 exact xJ (n:=300) (k:=12) (fun d hd=>(h.doc d hd).len) Zo
theorem fS.lT{k:Nat}{X:kR}(h:fS k X): ∀ d∈X.ds,d.ids.length=d.L.length/\d.L.length<=100000:=fun d hd=>⟨(h.doc d hd).ids,by have:=(h.doc d hd).len;omega⟩
structure SmS where
 s:al
 k:Nat
theorem ap5(σ:al)(X:kR)(IX:iS σ X)(hl:X.ds.length<=1000)(hd:∀ d∈X.ds,d.ids.length=d.L.length/\d.L.length<=100000)(line:Int):
  fa Tryz.prog 100 [.agg (aA X),.a (.v (.int .i64 line))] σ (fun v bD=>∃ oo oc,v=.slice oo (lX (fun k=>decide (k=line)) X.ds).length oc/\bu bD oo (lX (fun k=>decide (k=line)) X.ds).length oc 5 (eP (lX (fun k=>decide (k=line)) X.ds))) :=
 pV.MJ (Φ:=fun v _ E=>∃ oo oc,v=.slice oo (lX (fun k=>decide (k=line)) X.ds).length oc/\(lX (fun k=>decide (k=line)) X.ds).length<=oc/\E=Hq oo oc (lX (fun k=>decide (k=line)) X.ds))
  (Un.mono (Wo σ X IX hl hd line) fun v bD A' _ ⟨oo,oc,hv,j6,hA⟩=>⟨_,hA,oo,oc,hv,j6,rfl⟩) fun v _ _ E ⟨oo,oc,hv,j6,hE⟩ _ hS=>⟨oo,oc,hv,ny (by rw[hE] at hS;exact hS) j6⟩
theorem QN(σ:al)(X Y:kR)(IX:iS σ X)(IY:iS σ Y)(k:Nat)(hk:k<=12)(MX:fS k X)(MY:fS k Y)(Dd:mN X Y):
  fa Tryz.prog 51 [.agg (aA X),.agg (aA Y)] σ (fun v _=>v=.bool true):=by
 have hXn:=MX.num
 have hYn:=MY.num
 have hXl:=MX.fit.xs
 have hYl:=MY.fit.xs
 dsimp only at hXl hYl
 have YM:=MX.lT
 have ZP:=MY.lT
 have W1:=MX.E8 hk
 have WZ:=MY.E8 hk
 refine ek Tryz.func51 Z Z ⟨az 0 X,az 0 Y,trivial⟩ fun w=>?_
 refine Zd ?_
 refine fm (fun(s:al)=>s) (fun _=>[(2,.a (.p 0 0)),(3,.a (.p 1 0))]) (fun _=>[(0,.loc 60,aA X),(1,.loc 114,aA Y)]) (fun _=>[]) 2 (fun s=>σ.le s) ?_ (fun s hs=>?_)
 ·refine bX (fun(t:SmS)=>t.s) (fun t=>[(2,.a (.p 0 0)),(3,.a (.p 1 0)),(5,.a (.v (.int .i64 (t.k:Nat))))]) (fun _=>[(0,.loc 60,aA X),(1,.loc 114,aA Y)]) (fun _=>[]) 2 (fun t=>σ.le t.s/\t.k<=300) (fun t=>300 - t.k) ⟨σ,0⟩ ⟨al.le_refl _,ay _⟩ rfl Zs Zs rfl
   ⟨by show 0<2;omega,by show 1<2;omega,trivial,trivial⟩ (by exact⟨⟨by omega,az 2 X⟩,⟨by omega,az 2 Y⟩,trivial⟩) fun⟨s,i⟩ ⟨hle,hi⟩=>?_
  dsimp only at hle hi ⊢
  have IX:=IX.mono hle
  have IY:=IY.mono hle
  refine Za ?_
  refine ax 12 rfl (fun h=>?_) (fun h=>?_)
  rotate_left
  ·refine D2 ?_
   refine an s hle aj rfl Zs Zs rfl Zl Zl
  refine gX ?_
  refine aG rfl (fun h2=>?_) (fun h2=>?_)
  rotate_left
  ·refine Ze ?_
   refine an s hle aj rfl Zs Zs rfl Zl Zl
  have Eu:i<300:=by have:=ae h2;omega
  have Vz:=W1 (fun k=>decide (k=(i:Int)))
  have ZG:=WZ (fun k=>decide (k=(i:Int)))
  have heq:=xI Dd.ds (fun k=>decide (k=(i:Int)))
  refine Zd ?_
  refine ck [(0,.quiet),(1,.pure),(4,.quiet),(5,.pure),(2,.dP),(3,.dP),(6,.dP),(7,.dP),(8,.pure)] mixed Zk (aM TT rfl ?_)
  refine cr 18 (.agg (aA X)) rfl (az _ _) (fun _=>rfl) ?_
  refine cr 22 (.agg (aA Y)) rfl (az _ _) (fun _=>rfl) ?_
  refine bN (ys:=[.agg (aA X),.a (.v (.int .i64 i))]) Z Z Z Z Z Tryz.call100 ⟨az 0 X,trivial,trivial⟩ (ap5 s X IX Zo YM i) fun v s2 cw ⟨oo,oc,hv,HO⟩=>⟨.a (.v (.slice oo (lX (fun k=>decide (k=(i:Int))) X.ds).length oc)),trivial,hv.symm,?_⟩
  refine Zr ?_
  refine bN Z Z Z Z Z Tryz.call44 Zl (oG s2 _ Zo oo oc HO) fun v s3 kV ⟨to,tc,hv,HT⟩=>⟨.a (.v (.slice to (lX (fun k=>decide (k=(i:Int))) X.ds).length tc)),trivial,hv.symm,?_⟩
  have py:=al.le_trans cw kV
  have IX:=IX.mono py
  have IY:=IY.mono py
  refine Zr ?_
  refine bN (ys:=[.agg (aA Y),.a (.v (.int .i64 i))]) Z Z Z Z Z Tryz.call128 ⟨az 0 Y,trivial,trivial⟩ (Q5 s3 Y IY Zo ZP i) fun v s4 pM ⟨qo,qc,hv,HQ⟩=>⟨.a (.v (.slice qo (lX (fun k=>decide (k=(i:Int))) Y.ds).length qc)),trivial,hv.symm,?_⟩
  have HT:=HT.mono pM
  refine Zr ?_
  refine aT Z Z Z Z Z Tryz.call43 ⟨trivial,trivial,trivial⟩ (sP s4 _ _ Zo to tc HT qo qc HQ) fun v hv=>⟨.a .tt,trivial,by rw[hv,bj heq];rfl,?_⟩
  refine pC ?_
  refine an (⟨s4,i+1⟩:SmS) ⟨al.le_trans hle (al.le_trans py pM),Eu⟩ (by dsimp only;omega) rfl Zs Zs rfl Zl Zl
 have IX:=IX.mono hs
 have IY:=IY.mono hs
 have heq:=IU Dd [kx]
 have Vz:(AK X [kx]).length<=3600:=W1 _
 have ZG:(AK Y [kx]).length<=3600:=WZ _
 have qg:∀ p∈[kx],p.name.size<=1000000:=fun p hp=>by
  rw[aU] at hp
  subst hp
  decide
 refine Za ?_
 refine gP 2 1 2 rfl Zl rfl (by decide) fun gp=>?_
 refine iI 0 Z Z Z fun s5 wX hS5=>?_
 have P:=V8 rfl hS5
 have IX:=IX.mono wX
 have IY:=IY.mono wX
 have ZF:=FU s5 X IX Zo YM Zo [kx] (by decide) _ _ P
 rw[show lX (fun k=>decide (k∈dU X.xs [kx])) X.ds=AK X [kx] from rfl] at ZF
 refine cr 27 (.agg (aA X)) rfl (az _ _) (fun _=>rfl) ?_
 refine bN Z Z Z Z Z Tryz.call30 ⟨az 0 X,trivial,trivial⟩ ZF fun v s6 AR ⟨ox,cx,hv,HX⟩=>⟨.a (.v (.slice ox (AK X [kx]).length cx)),trivial,hv.symm,?_⟩
 have IX:=IX.mono AR
 have IY:=IY.mono AR
 refine gX ?_
 have Zy:=fun(s:al) (hle:s6.le s)=>oG s _ (show(AK X [kx]).length<=100000000 by omega) ox cx (HX.mono hle)
 have hmt:=fun(s:al) (hle:s6.le s) (po:Option Addr) (P:bu s po 1 1 2 (iN [kx]))=>wK s Y (IY.mono hle) Zo ZP Zo MY.Ox.pw [kx] (by decide) qg po 1 P
 have Nj:=fun(s:al) (bo:Option Addr) (bc:Nat) (HB:bu s bo (AK X [kx]).length bc 5 (eP (AK X [kx]))) (qo:Option Addr) (qc:Nat) (HQ:bu s qo (AK Y [kx]).length qc 5 (eP (AK Y [kx])))=>sP s (AK X [kx]) (AK Y [kx]) Zo bo bc HB qo qc HQ
 have hlen:(X.ds.length:Int)=Y.ds.length:=by rw[Dd.len]
 refine ky 26 [0,3,7,8,10,11,13,14,15,16,17,18,20,21,23,24,25] [(0,.loc 60,aA X),(1,.loc 114,aA Y)] mixed Zk rfl (fT Zs) ?_
 refine bQ (i:=0) TT rfl Zk Zk Z Z Z Z Z ?_
 refine bQ (i:=2) TT rfl Zk Zk Z Z Z Z Z ?_
 refine bQ (i:=3) TT rfl Zk Zk Z Z Z Z Z ?_
 refine GV 33 (.agg (aA Y)) rfl (az _ _) (fun _=>rfl) ?_
 refine od (i:=1) (j:=4) Zk ?_ ?_
 ·refine pz Z Z Z Z Z Tryz.call44 ⟨trivial,trivial⟩ (Zy s6 (al.le_refl _)) fun v s7 uQ ⟨bo,bc,hv,HB⟩=>⟨.a (.v (.slice bo (AK X [kx]).length bc)),trivial,hv.symm,?_⟩
  refine dp (i:=4) Zk ?_
  refine gG TT Z Z Z Z Z ?_
  refine jk 3 1 2 rfl Zl rfl (by decide) rfl fun gq=>?_
  refine gW 0 Z Z fun s8 Et hS8=>?_
  have Q:=Ds rfl hS8
  have So:=al.le_trans uQ Et
  refine dp (i:=5) Zk ?_
  refine pz (ys:=[.agg (aA Y),.a (.v (.slice (some ⟨gq,0,none⟩) 1 1))]) Z Z Z Z Z Tryz.call52 ⟨az 0 Y,trivial,trivial⟩ (hmt s8 So _ Q) fun v s9 GN ⟨oy,cy,hv,HY⟩=>⟨.a (.v (.slice oy (AK Y [kx]).length cy)),trivial,hv.symm,?_⟩
  refine dp (i:=6) Zk ?_
  refine uT Z Z Z Z Z Tryz.call43 ⟨trivial,trivial,trivial⟩ (Nj s9 bo bc (HB.mono (al.le_trans Et GN)) oy cy HY) fun v s10 JF hv=>⟨.a .tt,trivial,by rw[hv,bj heq];rfl,?_⟩
  refine bQ (i:=7) TT rfl Zk Zk Z Z Z Z Z ?_
  refine bQ (i:=8) TT rfl Zk Zk Z Z Z Z Z ?_
  refine bQ (i:=9) TT rfl Zk Zk Z Z Z Z Z ?_
  refine bQ (i:=10) TT rfl Zk Zk Z Z Z Z Z ?_
  refine bQ (i:=11) TT rfl Zk Zk Z Z Z Z Z ?_
  refine bQ (i:=12) TT rfl Zk Zk Z Z Z Z Z ?_
  refine bQ (i:=13) TT rfl Zk Zk Z Z Z Z Z ?_
  refine bQ (i:=14) TT rfl Zk Zk Z Z Z Z Z ?_
  refine GV 45 (.a .tt) rfl trivial (fun _=>aN Value.bool (bj hlen)) ?_
  refine bQ (i:=15) TT rfl Zk Zk Z Z Z Z Z ?_
  refine bQ (i:=16) TT rfl Zk Zk Z Z Z Z Z ?_
  refine bQ (i:=17) TT rfl Zk Zk Z Z Z Z Z ?_
  refine bQ (i:=18) TT rfl Zk Zk Z Z Z Z Z ?_
  refine bQ (i:=19) TT rfl Zk Zk Z Z Z Z Z ?_
  refine bQ (i:=20) TT rfl Zk Zk Z Z Z Z Z ?_
  refine bQ (i:=21) TT rfl Zk Zk Z Z Z Z Z ?_
  refine bQ (i:=22) TT rfl Zk Zk Z Z Z Z Z ?_
  refine bQ (i:=23) TT rfl Zk Zk Z Z Z Z Z ?_
  refine bQ (i:=24) TT rfl Zk Zk Z Z Z Z Z ?_
  refine bQ (i:=25) TT rfl Zk Zk Z Z Z Z Z ?_
  refine eS [] Z Z Zk ?_
  refine Zb ?_
  refine aw TT rfl fun β w' _ _=>?_
  exact aN Value.bool (bj Dd.next)
 ·refine gG TT Z Z Z Z Z ?_
  refine jk 3 1 2 rfl Zl rfl (by decide) rfl fun gq=>?_
  refine gW 0 Z Z fun s7 uQ hS8=>?_
  have Q:=Ds rfl hS8
  refine dp (i:=1) Zk ?_
  refine pz Z Z Z Z Z Tryz.call44 ⟨trivial,trivial⟩ (Zy s7 uQ) fun v s8 Et ⟨bo,bc,hv,HB⟩=>⟨.a (.v (.slice bo (AK X [kx]).length bc)),trivial,hv.symm,?_⟩
  have So:=al.le_trans uQ Et
  have Q:=Q.mono Et
  refine dp (i:=5) Zk ?_
  refine pz (ys:=[.agg (aA Y),.a (.v (.slice (some ⟨gq,0,none⟩) 1 1))]) Z Z Z Z Z Tryz.call52 ⟨az 0 Y,trivial,trivial⟩ (hmt s8 So _ Q) fun v s9 GN ⟨oy,cy,hv,HY⟩=>⟨.a (.v (.slice oy (AK Y [kx]).length cy)),trivial,hv.symm,?_⟩
  refine dp (i:=6) Zk ?_
  refine uT Z Z Z Z Z Tryz.call43 ⟨trivial,trivial,trivial⟩ (Nj s9 bo bc (HB.mono GN) oy cy HY) fun v s10 JF hv=>⟨.a .tt,trivial,by rw[hv,bj heq];rfl,?_⟩
  refine bQ (i:=7) TT rfl Zk Zk Z Z Z Z Z ?_
  refine bQ (i:=8) TT rfl Zk Zk Z Z Z Z Z ?_
  refine bQ (i:=9) TT rfl Zk Zk Z Z Z Z Z ?_
  refine bQ (i:=10) TT rfl Zk Zk Z Z Z Z Z ?_
  refine bQ (i:=11) TT rfl Zk Zk Z Z Z Z Z ?_
  refine bQ (i:=12) TT rfl Zk Zk Z Z Z Z Z ?_
  refine bQ (i:=13) TT rfl Zk Zk Z Z Z Z Z ?_
  refine bQ (i:=14) TT rfl Zk Zk Z Z Z Z Z ?_
  refine GV 45 (.a .tt) rfl trivial (fun _=>aN Value.bool (bj hlen)) ?_
  refine bQ (i:=15) TT rfl Zk Zk Z Z Z Z Z ?_
  refine bQ (i:=16) TT rfl Zk Zk Z Z Z Z Z ?_
  refine bQ (i:=17) TT rfl Zk Zk Z Z Z Z Z ?_
  refine bQ (i:=18) TT rfl Zk Zk Z Z Z Z Z ?_
  refine bQ (i:=19) TT rfl Zk Zk Z Z Z Z Z ?_
  refine bQ (i:=20) TT rfl Zk Zk Z Z Z Z Z ?_
  refine bQ (i:=21) TT rfl Zk Zk Z Z Z Z Z ?_
  refine bQ (i:=22) TT rfl Zk Zk Z Z Z Z Z ?_
  refine bQ (i:=23) TT rfl Zk Zk Z Z Z Z Z ?_
  refine bQ (i:=24) TT rfl Zk Zk Z Z Z Z Z ?_
  refine bQ (i:=25) TT rfl Zk Zk Z Z Z Z Z ?_
  refine eS [] Z Z Zk ?_
  refine Zb ?_
  refine aw TT rfl fun β w' _ _=>?_
  exact aN Value.bool (bj Dd.next)
end Go.Sy
