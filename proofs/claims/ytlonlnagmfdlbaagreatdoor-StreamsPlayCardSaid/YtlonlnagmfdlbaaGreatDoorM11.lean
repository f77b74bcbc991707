/- Parts of the proof of CStreamsPlay: S12, S13, Lx, Sw, S14, S15, S16, P6, P7. No conditions. -/
import Derived.Test.YtlonlnagmfdlbaaGreatDoorM10
set_option maxRecDepth 100000
set_option maxHeartbeats 16000000
namespace Go.Sy
open Go.Proofs
structure I1S where
 k:Nat
 D:List Vd
theorem cT(n:Nat): (SV.a (.fn (.func 124) [])).lt n:=by intro p hp;cases hp
theorem Fu(σ:al)(P M S:List Vd)(mK:∀ v∈M,qV σ v)(n:Nat)(hn:P.length+M.length+S.length=n)(hl:n<=1000000)(ao:Option Addr)(cap:Nat)(a b:Int)(ha:a=P.length)(hb:b=P.length+M.length):
  pV Tryz.prog 220 [.a (.v (.slice ao n cap)),.a (.v (.int .i64 a)),.a (.v (.int .i64 b)),.a (.fn (.func 124) [])] σ [lZ ao n cap (P++(M++S))] (fun v _ A'=>v=.tuple #[]/\∃ M',gD fX M' M/\M'.length=M.length/\A'=[lZ ao n cap (P++(M'++S))]):=by
 subst ha hb
 refine fk Tryz.func220 Z Z ⟨trivial,trivial,trivial,cT 0,trivial⟩ fun w=>?_
 refine Zg ?_
 refine bX (fun(_:I1S)=>σ) (fun t=>[(0,.a (.v (.slice ao n cap))),(1,.a (.v (.int .i64 P.length))),(2,.a (.v (.int .i64 (P.length+M.length)))),(3,.a (.fn (.func 124) [])),(8,.a (.v (.int .i64 ((P.length+1+t.k:Nat):Int))))]) (fun _=>[]) (fun t=>[lZ ao n cap (P++(t.D++(M.drop (t.k+1)++S)))]) 0
  (fun t=>gD fX t.D (M.take (t.k+1))/\t.D.length=(M.take (t.k+1)).length) (fun t=>M.length - t.k) ⟨0,M.take 1⟩ ⟨gD.refl (by
   unfold BB
   cases M with
   | nil=>exact List.Pairwise.nil
   | cons x l=>exact List.pairwise_singleton _ _),rfl⟩ rfl ?_ Zs ?_ ⟨trivial,trivial,trivial,cT 0,trivial,trivial⟩ trivial fun⟨k,D⟩ ⟨hD,JL⟩=>?_
 ·refine⟨rfl,rfl,rfl,rfl,?_,trivial⟩
  exact aN (fun z=>some (SV.a (AT.v (Value.int .i64 z)))) (show(P.length:Int)+1=((P.length+1+0:Nat):Int) by omega)
 ·show [_]=[_]
  dsimp only
  rw[<-av (M.take 1),cK]
 dsimp only at hD JL ⊢
 rw[aE] at JL
 refine Za ?_
 refine aG rfl (fun h=>?_) (fun h=>?_)
 rotate_left
 ·have h:=ab h
  have hk:M.length<=k+1:=by omega
  rw[bY hk] at hD
  rw[List.drop_eq_nil_of_le hk,cF]
  refine Ze ?_
  refine nU TT rfl fun β w' _ _=>?_
  exact⟨rfl,D,hD,by omega,rfl⟩
 have h:=ae h
 have hk:k+1<M.length:=by omega
 refine jd 0 (E:=lZ ao n cap (P++(D++(M.drop (k+1)++S)))) rfl (show 0<n by omega) fun gb rV=>?_
 have rV:ao=some ⟨gb,0,none⟩:=rV
 subst rV
 have JL:D.length=k+1:=by omega
 have hx:=aa hk
 have hxm:=mK _ (aP hk)
 have mi:M.take (k+1+1)=M.take (k+1)++[M[k+1]]:=ak hk
 have xj:M.drop (k+1)=M[k+1]::M.drop (k+1+1):=aB hk
 generalize M[k+1]=x at *
 rw[xj]
 have Am:∀ t,(∀ y∈D.drop t,fX x y=true)->(∀ y∈D.take t,fX x y=false)->gD fX (D.take t++x::D.drop t) (M.take (k+1+1)):=fun t h1 h2=>by
  rw[mi]
  exact hD.ins mI h1 h2
 refine Zd ?_
 refine bX (fun(_:Nat)=>σ) (fun t=>[(0,.a (.v (.slice (some ⟨gb,0,none⟩) n cap))),(1,.a (.v (.int .i64 P.length))),(2,.a (.v (.int .i64 (P.length+M.length)))),(3,.a (.fn (.func 124) [])),(8,.a (.v (.int .i64 ((P.length+1+k:Nat):Int)))),(9,.a (.v (.int .i64 ((P.length+t:Nat):Int))))]) (fun _=>[]) (fun t=>[lZ (some ⟨gb,0,none⟩) n cap (P++(D.take t++(x::(D.drop t++(M.drop (k+1+1)++S)))))]) 0
  (fun t=>t<=D.length/\∀ y∈D.drop t,fX x y=true) (fun t=>t) D.length ⟨aq _,by rw[bC];intro y hy;cases hy⟩ rfl ?_ Zs ?_ ⟨trivial,trivial,trivial,cT 0,trivial,trivial,trivial⟩ trivial fun t ⟨ht,dj⟩=>?_
 ·refine⟨rfl,rfl,rfl,rfl,rfl,?_,trivial⟩
  rw[JL,j7 P.length,Nat.add_comm 1 k]
  rfl
 ·show [_]=[_]
  rw[aI,bC]
  rfl
 refine Za ?_
 refine ck [(0,.pure),(1,.pure),(2,.pure),(3,.pure),(4,.pure),(5,.pure),(6,.pure),(7,.pure),(8,.quiet),(9,.pure),(10,.pure),(11,.pure),(12,.pure),(13,.quiet),(14,.dP),(15,.pure),(16,.pure)] mixed Zk (aM TT rfl ?_)
 have Da:∀ t,(∀ y∈D.drop t,fX x y=true)->(∀ y∈D.take t,fX x y=false)->t<=D.length->(gD fX (D.take t++x::D.drop t) (M.take (k+1+1))/\(D.take t++x::D.drop t).length=(M.take (k+1+1)).length):=fun t h1 h2 h3=>by
  refine⟨Am t h1 h2,?_⟩
  rw[af,List.length_cons,aE,aE,bm]
  omega
 have hi8:(((P.length+1+k:Nat):Int)+1)=((P.length+1+(k+1):Nat):Int):=by omega
 refine ax 21 rfl (fun h=>?_) (fun h=>?_)
 rotate_left
 ·have ht0:t=0:=by
   have:=ab (show decide (((P.length+t:Nat):Int) > P.length)=false from h)
   omega
  subst ht0
  refine pC ?_
  refine an (⟨k+1,D.take 0++x::D.drop 0⟩:I1S) (Da 0 dj (fun y hy=>by cases hy) (ay _)) (by dsimp only;omega) rfl ?_ Zs ?_ ⟨trivial,trivial,trivial,cT 0,trivial,trivial⟩ trivial
  ·refine⟨rfl,rfl,rfl,rfl,?_,trivial⟩
   exact aN (fun z=>some (SV.a (AT.v (Value.int .i64 z)))) hi8
  ·show [_]=[_]
   dsimp only
   rw[av]
   rfl
 have h:=ae (show decide (((P.length+t:Nat):Int) > P.length)=true from h)
 obtain⟨q,rfl⟩:∃ q,t=q+1:=⟨t - 1,by omega⟩
 have hy:=aa (show q<D.length by omega)
 have hym:=mK D[q] (dr ((hD.mem mI).1 (aP (show q<D.length by omega))))
 have htq:D.take (q+1)=D.take q++[D[q]]:=ak Zo
 have hdq:D.drop q=D[q]::D.drop (q+1):=aB Zo
 have hle:=fun h1=>QD mI hD.Oj (k:=q) (x:=x) hy h1
 generalize D[q]=y at *
 generalize hR:D.drop (q+1)++(M.drop (k+1+1)++S)=R
 have hU:(P++D.take q).length=P.length+q:=by rw[af,aE];omega
 have KD:P++(D.take (q+1)++x::R)=(P++D.take q)++y::x::R:=by rw[htq];simp
 rw[KD]
 have ZH:((P++D.take q)++y::x::R).length=n:=by
  rw[<-hR]
  simp only[af,List.length_cons,aE,bm]
  omega
 generalize hUd:P++D.take q=U at *
 have nz:∀(m:Int) (u:Nat),m=u->some (SV.a (AT.v (.pointer (some (Addr.add ⟨gb,0,none⟩ (m.toNat*6))))))=some (SV.a (AT.v (.pointer (some ⟨gb,u*6,none⟩)))):=fun m u h=>by
  rw[h,cd,jM]
 have Ua:=Dg U R y x
 have Qe:=tH U (x::R) y
 have hUn:U.length+1<n:=by omega
 refine Zr ?_
 refine br TT Z Z Z Z Z Z Z Z Z ⟨by omega,by omega⟩ (Zr ?_)
 refine jD 0 (off:=(U.length+1)*6) TT (dJ x) Z Z Z Z Z (nz _ _ Zo) Z Z Z Z Z (fun q c hc=>iJ Ua q c hc) (df 0 x) (Zr ?_)
 refine iY Z Z Z Z Z Z Zo (Zr ?_)
 refine br TT Z Z Z Z Z Z Z Z Z ⟨by omega,by omega⟩ (Zr ?_)
 refine jD 0 (off:=U.length*6) TT (dJ y) Z Z Z Z Z (nz _ _ Zo) Z Z Z Z Z (fun q c hc=>iJ Qe q c hc) (df 0 y) (Zr ?_)
 refine aT (ys:=[.agg (dJ x),.agg (dJ y)]) Z Z Z Z Z Tryz.call124 ⟨df 0 x,df 0 y,trivial⟩ (A7 σ x y hxm hym) fun v hv=>⟨.a (.v (.int .i64 (Lib.compareBytes x.z y.z))),trivial,hv.symm,?_⟩
 refine gX ?_
 refine aG rfl (fun h=>?_) (fun h=>?_)
 rotate_left
 ·have h:fX x y=false:=h
  refine Zg ?_
  refine an (⟨k+1,D.take (q+1)++x::D.drop (q+1)⟩:I1S) (Da (q+1) dj (hle h) Zo) (by dsimp only;omega) rfl ?_ Zs ?_ ⟨trivial,trivial,trivial,cT 0,trivial,trivial⟩ trivial
  ·refine⟨rfl,rfl,rfl,rfl,?_,trivial⟩
   exact aN (fun z=>some (SV.a (AT.v (Value.int .i64 z)))) hi8
  ·show [_]=[_]
   dsimp only
   rw[<-KD,<-hR,av]
   rfl
 have h:fX x y=true:=h
 refine Zd ?_
 refine ck [(0,.pure),(1,.pure),(2,.pure),(3,.pure),(4,.pure),(5,.pure),(6,.pure),(7,.pure),(8,.pure),(9,.quiet),(10,.pure),(11,.pure),(12,.pure),(13,.quiet),(14,.pure),(15,.sink),(16,.pure),(17,.sink)] mixed Zk (aM TT rfl ?_)
 refine Zr ?_
 refine iY Z Z Z Z Z Z Zo (Zr ?_)
 refine iY Z Z Z Z Z Z Zo (Zr ?_)
 refine br TT Z Z Z Z Z Z Z Z Z ⟨by omega,by omega⟩ (Zr ?_)
 refine jD 0 (off:=U.length*6) TT (dJ y) Z Z Z Z Z (nz _ _ Zo) Z Z Z Z Z (fun q c hc=>iJ Qe q c hc) (df 0 y) (Zr ?_)
 refine br TT Z Z Z Z Z Z Z Z Z ⟨by omega,by omega⟩ (Zr ?_)
 refine jD 0 (off:=(U.length+1)*6) TT (dJ x) Z Z Z Z Z (nz _ _ Zo) Z Z Z Z Z (fun q c hc=>iJ Ua q c hc) (df 0 x) (Zr ?_)
 refine br TT Z Z Z Z Z Z Z Z Z ⟨by omega,by omega⟩ (Zr ?_)
 refine p6 0 (off:=(U.length+1)*6) (cs:=dJ y) (A':=[lZ (some ⟨gb,0,none⟩) n cap ((U++y::x::R).set (U.length+1) y)]) TT Z Z Z Z (nz _ _ Zo) Z Z Z Z Z (by show(U.length+1)*6+6<=n*6;omega) (df 0 y) rfl ?_ (Zr ?_)
 ·show [_]=[_]
  unfold lZ
  rw[<-nK y Zo]
 refine br TT Z Z Z Z Z Z Z Z Z ⟨by omega,by omega⟩ (Zr ?_)
 refine p6 0 (off:=U.length*6) (cs:=dJ x) (A':=[lZ (some ⟨gb,0,none⟩) n cap (((U++y::x::R).set (U.length+1) y).set U.length x)]) TT Z Z Z Z (nz _ _ Zo) Z Z Z Z Z (by show U.length*6+6<=n*6;omega) (df 0 x) rfl ?_ (Zr ?_)
 ·show [_]=[_]
  unfold lZ
  rw[<-nK x (by rw[dh];omega)]
 rw[Ib]
 refine Zg ?_
 refine an q ⟨by omega,fun z hz=>by
  rw[hdq] at hz
  rcases bM.1 hz with rfl | hz
  ·exact h
  ·exact dj z hz⟩ Zo rfl ?_ Zs ?_ ⟨trivial,trivial,trivial,cT 0,trivial,trivial,trivial⟩ trivial
 ·refine⟨rfl,rfl,rfl,rfl,rfl,?_,trivial⟩
  exact aN (fun z=>some (SV.a (AT.v (Value.int .i64 z)))) (show((P.length+(q+1):Nat):Int) - 1=((P.length+q:Nat):Int) by omega)
 ·show [_]=[_]
  rw[hdq,<-hUd,<-hR]
  simp only[av,aZ]
end Go.Sy
namespace Go.Sy
open Go.Proofs
theorem VU{α:Type}(U V W:List α)(x y:α): (U++x::(V++y::W))[U.length+1+V.length]?=some y:=by
 rw[aW Zo,show U.length+1+V.length - U.length=V.length+1 by omega,bg]
 exact tH V W y
theorem Qz{α:Type}(U V W:List α)(x y:α): ((U++x::(V++y::W)).set U.length y).set (U.length+1+V.length) x=U++y::(V++x::W):=by
 rw[dY _ _ (aq _),fM,hX,dY _ _ Zo,show U.length+1+V.length - U.length=V.length+1 by omega,nf,dY _ _ (aq _),fM,hX]
theorem F6(σ:al)(P X Q Y S:List Vd)(AN:Y.length=X.length)(n:Nat)(hn:P.length+X.length+Q.length+Y.length+S.length=n)(hl:n<=1000000)(ao:Option Addr)(cap:Nat)(a b k:Int)(ha:a=P.length)(hb:b=P.length+X.length+Q.length)(hk:k=X.length):
  pV Tryz.prog 249 [.a (.v (.slice ao n cap)),.a (.v (.int .i64 a)),.a (.v (.int .i64 b)),.a (.v (.int .i64 k)),.a (.fn (.func 124) [])] σ [lZ ao n cap (P++(X++(Q++(Y++S))))] (fun v _ A'=>v=.tuple #[]/\A'=[lZ ao n cap (P++(Y++(Q++(X++S))))]):=by
 subst ha hb hk
 refine fk Tryz.func249 Z Z ⟨trivial,trivial,trivial,trivial,cT 0,trivial⟩ fun w=>?_
 refine Zd ?_
 refine bX (fun(_:Nat)=>σ) (fun i=>[(0,.a (.v (.slice ao n cap))),(1,.a (.v (.int .i64 P.length))),(2,.a (.v (.int .i64 (P.length+X.length+Q.length)))),(3,.a (.v (.int .i64 X.length))),(10,.a (.v (.int .i64 (i:Nat))))]) (fun _=>[]) (fun i=>[lZ ao n cap (P++(Y.take i++(X.drop i++(Q++(X.take i++(Y.drop i++S))))))]) 0
  (fun i=>i<=X.length) (fun i=>X.length - i) 0 (ay _) rfl Zs Zs rfl Zl Zl fun i hi=>?_
 refine Za ?_
 refine aG rfl (fun h=>?_) (fun h=>?_)
 rotate_left
 ·have h:=ab h
  have hk:i=X.length:=by omega
  subst hk
  rw[aI,bC,cF,<-AN,aI,bC,cF]
  refine Ze ?_
  refine nU TT rfl fun β w' _ _=>?_
  exact⟨rfl,rfl⟩
 have h:=ae h
 have ZN:i<X.length:=by omega
 have hiy:i<Y.length:=by omega
 refine jd 0 (E:=lZ ao n cap (P++(Y.take i++(X.drop i++(Q++(X.take i++(Y.drop i++S))))))) rfl (show 0<n by omega) fun gb rV=>?_
 have rV:ao=some ⟨gb,0,none⟩:=rV
 subst rV
 have hdx:X.drop i=X[i]::X.drop (i+1):=aB ZN
 have hdy:Y.drop i=Y[i]::Y.drop (i+1):=aB hiy
 have htx:X.take (i+1)=X.take i++[X[i]]:=ak ZN
 have hty:Y.take (i+1)=Y.take i++[Y[i]]:=ak hiy
 generalize X[i]=x at *
 generalize Y[i]=y at *
 have KD:P++(Y.take i++(X.drop i++(Q++(X.take i++(Y.drop i++S)))))=(P++Y.take i)++x::((X.drop (i+1)++(Q++X.take i))++y::(Y.drop (i+1)++S)):=by
  rw[hdx,hdy]
  simp only[av,aZ]
 have AO:(P++Y.take i)++y::((X.drop (i+1)++(Q++X.take i))++x::(Y.drop (i+1)++S))=P++(Y.take (i+1)++(X.drop (i+1)++(Q++(X.take (i+1)++(Y.drop (i+1)++S))))):=by
  rw[htx,hty]
  simp only[av,aZ,cF]
 have hU:(P++Y.take i).length=P.length+i:=by rw[af,aE];omega
 have hV:(X.drop (i+1)++(Q++X.take i)).length+1=X.length+Q.length:=by rw[af,af,aE,bm];omega
 have hW:(Y.drop (i+1)++S).length+i+1=Y.length+S.length:=by rw[af,bm];omega
 rw[KD]
 generalize P++Y.take i=U at *
 generalize X.drop (i+1)++(Q++X.take i)=V at *
 generalize Nz:Y.drop (i+1)++S=W at *
 have ZH:(U++x::(V++y::W)).length=n:=by
  simp only[af,List.length_cons]
  omega
 have nz:∀(m:Int) (u:Nat),m=u->some (SV.a (AT.v (.pointer (some (Addr.add ⟨gb,0,none⟩ (m.toNat*6))))))=some (SV.a (AT.v (.pointer (some ⟨gb,u*6,none⟩)))):=fun m u h=>by
  rw[h,cd,jM]
 have Ua:=tH U (V++y::W) x
 have Qe:=VU U V W x y
 refine Zd ?_
 refine ck [(0,.pure),(1,.pure),(2,.pure),(3,.pure),(4,.pure),(5,.pure),(6,.pure),(7,.pure),(8,.pure),(9,.pure),(10,.pure),(11,.pure),(12,.pure),(13,.quiet),(14,.pure),(15,.pure),(16,.pure),(17,.pure),(18,.pure),(19,.quiet),(20,.pure),(21,.sink),(22,.pure),(23,.sink)] mixed Zk (aM TT rfl ?_)
 refine Zr ?_
 refine eO Z Z Z Z Z Z Zo (Zr ?_)
 refine eO Z Z Z Z Z Z Zo (Zr ?_)
 refine eO Z Z Z Z Z Z Zo (Zr ?_)
 refine br TT Z Z Z Z Z Z Z Z Z ⟨by omega,by omega⟩ (Zr ?_)
 refine jD 0 (off:=(U.length+1+V.length)*6) TT (dJ y) Z Z Z Z Z (nz _ _ Zo) Z Z Z Z Z (fun q c hc=>iJ Qe q c hc) (df 0 y) (Zr ?_)
 refine eO Z Z Z Z Z Z Zo (Zr ?_)
 refine br TT Z Z Z Z Z Z Z Z Z ⟨by omega,by omega⟩ (Zr ?_)
 refine jD 0 (off:=U.length*6) TT (dJ x) Z Z Z Z Z (nz _ _ Zo) Z Z Z Z Z (fun q c hc=>iJ Ua q c hc) (df 0 x) (Zr ?_)
 refine br TT Z Z Z Z Z Z Z Z Z ⟨by omega,by omega⟩ (Zr ?_)
 refine p6 0 (off:=U.length*6) (cs:=dJ y) (A':=[lZ (some ⟨gb,0,none⟩) n cap ((U++x::(V++y::W)).set U.length y)]) TT Z Z Z Z (nz _ _ Zo) Z Z Z Z Z (by show U.length*6+6<=n*6;omega) (df 0 y) rfl ?_ (Zr ?_)
 ·show [_]=[_]
  unfold lZ
  rw[<-nK y Zo]
 refine br TT Z Z Z Z Z Z Z Z Z ⟨by omega,by omega⟩ (Zr ?_)
 refine p6 0 (off:=(U.length+1+V.length)*6) (cs:=dJ x) (A':=[lZ (some ⟨gb,0,none⟩) n cap (((U++x::(V++y::W)).set U.length y).set (U.length+1+V.length) x)]) TT Z Z Z Z (nz _ _ Zo) Z Z Z Z Z (by show(U.length+1+V.length)*6+6<=n*6;omega) (df 0 x) rfl ?_ (Zr ?_)
 ·show [_]=[_]
  unfold lZ
  rw[<-nK x (by rw[dh];omega)]
 rw[Qz]
 refine Zc ?_
 refine an (i+1) Zo Zo rfl Zs Zs ?_ ⟨trivial,trivial,trivial,trivial,trivial,trivial⟩ trivial
 show [_]=[_]
 rw[Nz,<-AO]
structure RoS where
 P:List Vd
 X:List Vd
 Y:List Vd
 S:List Vd
 s:al
theorem aa3(σ:al)(P X Y S:List Vd)(hx:0<X.length)(hy:0<Y.length)(n:Nat)(hn:P.length+X.length+Y.length+S.length=n)(hl:n<=1000000)(ao:Option Addr)(cap:Nat)(a m b:Int)(ha:a=P.length)(hm:m=P.length+X.length)(hb:b=P.length+X.length+Y.length):
  pV Tryz.prog 240 [.a (.v (.slice ao n cap)),.a (.v (.int .i64 a)),.a (.v (.int .i64 m)),.a (.v (.int .i64 b)),.a (.fn (.func 124) [])] σ [lZ ao n cap (P++(X++(Y++S)))] (fun v _ A'=>v=.tuple #[]/\A'=[lZ ao n cap (P++(Y++(X++S)))]):=by
 refine fk Tryz.func240 Z Z ⟨trivial,trivial,trivial,trivial,cT 0,trivial⟩ fun w=>?_
 refine Zg ?_
 refine bX (fun(t:RoS)=>t.s) (fun t=>[(0,.a (.v (.slice ao n cap))),(2,.a (.v (.int .i64 m))),(4,.a (.fn (.func 124) [])),(10,.a (.v (.int .i64 t.X.length))),(11,.a (.v (.int .i64 t.Y.length)))]) (fun _=>[]) (fun t=>[lZ ao n cap (t.P++(t.X++(t.Y++t.S)))]) 0
  (fun t=>σ.le t.s/\0<t.X.length/\0<t.Y.length/\(t.P.length:Int)+t.X.length=m/\t.P.length+t.X.length+t.Y.length+t.S.length=n/\t.P++(t.Y++(t.X++t.S))=P++(Y++(X++S))) (fun t=>t.X.length+t.Y.length) ⟨P,X,Y,S,σ⟩ ⟨al.le_refl _,hx,hy,hm.symm,hn,rfl⟩ rfl ?_ Zs rfl ⟨trivial,trivial,cT 0,trivial,trivial,trivial⟩ trivial fun⟨P1,X1,Y1,S1,s⟩ ⟨hle,Jy,hy1,hm1,Al,he⟩=>?_
 ·refine⟨rfl,rfl,rfl,?_,?_,trivial⟩
  ·exact aN (fun z=>some (SV.a (AT.v (Value.int .i64 z)))) (show m - a=X.length by omega)
  ·exact aN (fun z=>some (SV.a (AT.v (Value.int .i64 z)))) (show b - m=Y.length by omega)
 dsimp only at Jy hy1 hm1 Al he hle ⊢
 clear hn hx hy hm hb
 refine Za ?_
 refine aG rfl (fun h=>?_) (fun h=>?_)
 rotate_left
 ·have h:(!decide ((X1.length:Int)=Y1.length))=false:=h
  have h:(X1.length:Int)=Y1.length:=by simpa using h
  have h:X1.length=Y1.length:=by omega
  refine Zg ?_
  refine dT [0] (A0:=[lZ ao n cap (P1++(X1++([]++(Y1++S1))))]) (Ar:=[]) Z Z Z Z Z Z Z Tryz.call249 ⟨trivial,trivial,trivial,trivial,cT 0,trivial⟩ (F6 s P1 X1 [] Y1 S1 h.symm n (by rw[List.length_nil];omega) hl ao cap _ _ _ Zo (by rw[List.length_nil];omega) rfl) fun v s1 A1 cP ⟨hv,hA⟩=>⟨.ik [],Zl,hv.symm,?_⟩
  subst hA
  refine lP ?_
  refine nU TT rfl fun β w' _ _=>?_
  refine⟨rfl,?_⟩
  rw[<-he]
  rfl
 have h:(!decide ((X1.length:Int)=Y1.length))=true:=h
 have h:¬ (X1.length:Int)=Y1.length:=by simpa using h
 have h:X1.length≠Y1.length:=by omega
 refine Zd ?_
 refine aG rfl (fun h1=>?_) (fun h1=>?_)
 ·have h1:=ae h1
  have e:X1=X1.take Y1.length++X1.drop Y1.length:=(cK _ _).symm
  have e1:(X1.take Y1.length).length=Y1.length:=by rw[aE];omega
  have e2:(X1.drop Y1.length).length=X1.length - Y1.length:=bm
  generalize X1.take Y1.length=C at *
  generalize X1.drop Y1.length=D at *
  have pa:X1.length=C.length+D.length:=by rw[e,af]
  have ew:P1++(X1++(Y1++S1))=P1++(C++(D++(Y1++S1))):=by rw[e,av]
  rw[ew]
  refine Zg ?_
  refine dT [0] (A0:=[lZ ao n cap (P1++(C++(D++(Y1++S1))))]) (Ar:=[]) Z Z Z Z Z Z Z Tryz.call249 ⟨trivial,trivial,trivial,trivial,cT 0,trivial⟩ (F6 s P1 C D Y1 S1 e1.symm n Zo hl ao cap _ _ _ Zo Zo Zo) fun v s1 A1 cP ⟨hv,hA⟩=>⟨.ik [],Zl,hv.symm,?_⟩
  subst hA
  refine pC ?_
  refine an (⟨P1++Y1,D,C,S1,s1⟩:RoS) ⟨al.le_trans hle cP,by dsimp only;omega,by dsimp only;omega,by dsimp only;rw[af];omega,by dsimp only;rw[af];omega,by
   dsimp only
   rw[<-he,e]
   simp only[av]⟩ (by dsimp only;omega) rfl ?_ Zs ?_ ⟨trivial,trivial,cT 0,trivial,trivial,trivial⟩ trivial
  ·refine⟨rfl,rfl,rfl,?_,?_,trivial⟩
   ·exact aN (fun z=>some (SV.a (AT.v (Value.int .i64 z)))) (show(X1.length:Int) - Y1.length=D.length by omega)
   ·exact aN (fun z=>some (SV.a (AT.v (Value.int .i64 z)))) (show(Y1.length:Int)=C.length by omega)
  ·show [_]=[_]
   dsimp only
   simp only[av]
 ·have h1:=ab h1
  have e:Y1=Y1.take (Y1.length - X1.length)++Y1.drop (Y1.length - X1.length):=(cK _ _).symm
  have e1:(Y1.take (Y1.length - X1.length)).length=Y1.length - X1.length:=by rw[aE];omega
  have e2:(Y1.drop (Y1.length - X1.length)).length=X1.length:=by rw[bm];omega
  generalize Y1.take (Y1.length - X1.length)=C at *
  generalize Y1.drop (Y1.length - X1.length)=D at *
  have Zu:Y1.length=C.length+D.length:=by rw[e,af]
  have ew:P1++(X1++(Y1++S1))=P1++(X1++(C++(D++S1))):=by rw[e,av]
  rw[ew]
  refine Zg ?_
  refine dT [0] (A0:=[lZ ao n cap (P1++(X1++(C++(D++S1))))]) (Ar:=[]) Z Z Z Z Z Z Z Tryz.call249 ⟨trivial,trivial,trivial,trivial,cT 0,trivial⟩ (F6 s P1 X1 C D S1 e2 n Zo hl ao cap _ _ _ Zo Zo Zo) fun v s1 A1 cP ⟨hv,hA⟩=>⟨.ik [],Zl,hv.symm,?_⟩
  subst hA
  refine pC ?_
  refine an (⟨P1,D,C,X1++S1,s1⟩:RoS) ⟨al.le_trans hle cP,by dsimp only;omega,by dsimp only;omega,by dsimp only;omega,by dsimp only;rw[af];omega,by
   dsimp only
   rw[<-he,e]
   simp only[av]⟩ (by dsimp only;omega) rfl ?_ Zs rfl ⟨trivial,trivial,cT 0,trivial,trivial,trivial⟩ trivial
  ·refine⟨rfl,rfl,rfl,?_,?_,trivial⟩
   ·exact aN (fun z=>some (SV.a (AT.v (Value.int .i64 z)))) (show(X1.length:Int)=D.length by omega)
   ·exact aN (fun z=>some (SV.a (AT.v (Value.int .i64 z)))) (show(Y1.length:Int) - X1.length=C.length by omega)
end Go.Sy
namespace Go.Sy
section
variable {α:Type} {lt:α->α->Bool}
theorem BB.le(h:He lt){l:List α}(hl:BB lt l){i j:Nat}{x y:α}(hx:l[i]?=some x)(hy:l[j]?=some y)(iP:i<=j): lt y x=false:=by
 obtain⟨hi,rfl⟩:=ah.1 hx
 obtain⟨hj,rfl⟩:=ah.1 hy
 rcases lV i j with e | e
 ·exact dE.1 hl i j hi hj e
 ·obtain rfl:i=j:=by omega
  exact h.irr _
theorem qb{l:List α}{n:Nat}{x:α}(h:x∈l.take n): ∃ i,i<n/\l[i]?=some x:=by
 obtain⟨i,hi,rfl⟩:=gg.1 h
 rw[aE] at hi
 exact⟨i,by omega,by rw[List.getElem_take,aa]⟩
theorem qd{l:List α}{n:Nat}{x:α}(h:x∈l.drop n): ∃ i,n<=i/\l[i]?=some x:=by
 obtain⟨i,hi,rfl⟩:=gg.1 h
 rw[bm] at hi
 exact⟨n+i,by omega,by rw[List.getElem_drop,aa]⟩
theorem gD.left(h:He lt){B:List α}(hB:BB lt B){x:α}{t:Nat}(h1:∀ b∈B.take t,lt b x=true)(h2:∀ b∈B.drop t,lt b x=false): gD lt (B.take t++x::B.drop t) ([x]++B):=by
 have L9:=hB
 rw[<-cK t B] at L9
 have hp:=iW.1 L9
 have:=gD.sym h (A1:=[]) (A2:=[x]) (B1:=B.take t) (B2:=B.drop t) (S1:=B.take t) (S2:=x::B.drop t) (List.pairwise_singleton _ _) L9 (fun a ha=>by cases ha) (fun a ha b hb=>by
  rw[aU] at ha
  subst ha
  exact h1 b hb) (gD.refl hp.1) (gD.refl (List.pairwise_cons.2 ⟨fun b hb=>h2 b hb,hp.2.1⟩))
 rw[cK] at this
 exact this
theorem gD.half(h:He lt){A B S1 S2:List α}(hA:BB lt A)(hB:BB lt B){s e:Nat}(tA:s=0\/B.length<=e\/∃ x y,A[s - 1]?=some x/\B[e]?=some y/\lt y x=false)(yy:e=0\/A.length<=s\/∃ x y,A[s]?=some x/\B[e - 1]?=some y/\lt y x=true)(s1:gD lt S1 (A.take s++B.take e))(s2:gD lt S2 (A.drop s++B.drop e)): gD lt (S1++S2) (A++B):=by
 have:=gD.sym h (A1:=A.take s) (A2:=A.drop s) (B1:=B.take e) (B2:=B.drop e) (by rw[cK];exact hA) (by rw[cK];exact hB) (fun a ha b hb=>by
  obtain⟨i,hi,ea⟩:=qb ha
  obtain⟨j,hj,eb⟩:=qd hb
  rcases tA with h0 | h0 | ⟨x,y,hx,hy,AN⟩
  ·omega
  ·have:=(ah.1 eb).1
   omega
  ·have q1:=hA.le h ea hx Zo
   have q2:=hB.le h hy eb hj
   exact h.tr _ _ _ (h.tr _ _ _ q1 AN) q2) (fun a ha b hb=>by
  obtain⟨i,hi,ea⟩:=qd ha
  obtain⟨j,hj,eb⟩:=qb hb
  rcases yy with h0 | h0 | ⟨x,y,hx,hy,AN⟩
  ·omega
  ·have:=(ah.1 ea).1
   omega
  ·have q1:=hA.le h hx ea hi
   have q2:=hB.le h eb hy Zo
   exact h.RV q2 (h.WJ AN q1)) s1 s2
 rw[cK,cK] at this
 exact this
end
end Go.Sy
namespace Go.Sy
theorem qV.mono{σ bD:al}{v:Vd}(h:qV σ v)(hle:σ.le bD): qV bD v:=bu.mono h hle
theorem gD.Z6{M A B K J:List Vd}(h:gD fX M (A++B))(h1:gD fX A K)(h2:gD fX B J): gD fX M (K++J):=h1.two h2 h
inductive Hi (bs:Nat):List Vd->List Vd->Prop
 | nil:Hi bs [] []
 | snoc {E L M K:List Vd} (h:Hi bs E L) (hs:gD fX M K) (hm:M.length=bs) (hk:K.length=bs):Hi bs (E++M) (L++K)
inductive BD (bs:Nat):List Vd->List Vd->Prop
 | last {D L:List Vd} (hl:D.length=L.length) (hb:D.length<=bs) (hs:gD fX D L):BD bs D L
 | cons {D L D' L':List Vd} (hd:D.length=bs) (hl:L.length=bs) (hs:gD fX D L) (h:BD bs D' L'):BD bs (D++D') (L++L')
theorem Hi.run{bs:Nat}{E L:List Vd}(h:Hi bs E L): ∀ {D K:List Vd},BD bs D K->BD bs (E++D) (L++K):=by
 induction h with
 | nil=>intro D K hr;exact hr
 | snoc _ hs hm hk ih =>
  intro D K hr
  rw[av,av]
  exact ih (BD.cons hm hk hs hr)
theorem BD.len{bs:Nat}{D L:List Vd}(h:BD bs D L): D.length=L.length:=by
 induction h with
 | last hl _ _=>exact hl
 | cons hd hl _ _ ih=>rw[af,af,ih,hd,hl]
theorem BD.mem{bs:Nat}{D L:List Vd}(h:BD bs D L){v:Vd}(hv:v∈D): v∈L:=by
 induction h with
 | last _ _ hs=>exact(hs.mem mI).1 hv
 | cons _ _ hs _ ih =>
  rw[bz] at hv ⊢
  rcases hv with hv | hv
  ·exact .inl ((hs.mem mI).1 hv)
  ·exact .inr (ih hv)
theorem BD.small{bs:Nat}{D L:List Vd}(h:BD bs D L)(hb:D.length<=bs): gD fX D L:=by
 cases h with
 | last _ _ hs=>exact hs
 | cons hd hl hs h' =>
  rename_i D1 L1 D' L'
  rw[af] at hb
  have h0:D'.length=0:=by omega
  have h1:=h'.len
  have e1:D'=[]:=aY h0
  have e2:L'=[]:=aY Zo
  rw[e1,e2,aL,aL]
  exact hs
theorem BD.one{bs:Nat}{D L:List Vd}(h:BD bs D L)(hb:bs<D.length): ∃ A R K KR,D=A++R/\L=K++KR/\A.length=bs/\K.length=bs/\gD fX A K/\BD bs R KR:=by
 cases h with
 | last _ uR _=>omega
 | cons hd hl hs h'=>exact⟨_,_,_,_,rfl,rfl,hd,hl,hs,h'⟩
theorem BD.two{bs:Nat}{D L:List Vd}(h:BD bs D L)(h0:0<bs)(hb:2*bs<=D.length):
  ∃ A B R K J KR,D=A++(B++R)/\L=(K++J)++KR/\A.length=bs/\B.length=bs/\K.length=bs/\J.length=bs/\gD fX A K/\gD fX B J/\BD bs R KR:=by
 obtain⟨A,R,K,KR,rfl,rfl,hA,hK,hs,hr⟩:=h.one Zo
 rw[af] at hb
 by_cases hR:bs<R.length
 ·obtain⟨B,R',J,KR',rfl,rfl,hB,hJ,Vt,uo⟩:=hr.one hR
  exact⟨A,B,R',K,J,KR',rfl,(av _ _ _).symm,hA,hB,hK,hJ,hs,Vt,uo⟩
 ·have:=hr.small Zo
  have hl:=hr.len
  refine⟨A,R,[],K,KR,[],by rw[aL],by rw[aL],hA,by omega,hK,by omega,hs,this,BD.last rfl (ay _) (gD.refl List.Pairwise.nil)⟩
end Go.Sy
namespace Go.Sy
open Go.Proofs
theorem af9(gb:Nat): ∀(m:Int) (u:Nat),m=u->some (SV.a (AT.v (.pointer (some (Addr.add ⟨gb,0,none⟩ (m.toNat*6))))))=some (SV.a (AT.v (.pointer (some ⟨gb,u*6,none⟩)))):=fun m u h=>by
 rw[h,cd,jM]
theorem Nl(i j:Nat)(h:i+j<=4000000): Value.int .i64 (IntKind.i64.wrap (tQ .u64 (IntKind.u64.wrap ((i:Int)+j)) 1))=Value.int .i64 (((i+j) / 2:Nat):Int):=by
 rw[show((i:Int)+j)=((i+j:Nat):Int) by omega,wU _ Zo,Nx,Z3 _ Zo]
theorem Od{α:Type}(U V:List α)(y x:α): ((U++y::x::V).set U.length x).set (U.length+1) y=U++x::y::V:=by
 rw[dY _ _ (aq _),fM,hX,dY _ _ Zo,mP,nf,hX]
structure Qi where
 lo:Nat
 hi:Nat
structure Y2S where
 s:al
 M:List Vd
theorem Wz(N:Nat): ∀(σ:al) (P A B S:List Vd),A.length+B.length<=N->BB fX A->BB fX B->0<A.length->0<B.length->(∀ v∈A,qV σ v)->(∀ v∈B,qV σ v)->∀(n:Nat),P.length+A.length+B.length+S.length=n->n<=1000000->∀(ao:Option Addr) (cap:Nat) (a m b:Int),a=P.length->m=P.length+A.length->b=P.length+A.length+B.length ->
  pV Tryz.prog 221 [.a (.v (.slice ao n cap)),.a (.v (.int .i64 a)),.a (.v (.int .i64 m)),.a (.v (.int .i64 b)),.a (.fn (.func 124) [])] σ [lZ ao n cap (P++(A++(B++S)))] (fun v _ A'=>v=.tuple #[]/\∃ M,gD fX M (A++B)/\M.length=A.length+B.length/\A'=[lZ ao n cap (P++(M++S))]):=by
 induction N with
 | zero=>intro σ P A B S h0 _ _ h1;omega
 | succ N ih=>?_
 intro σ P A B S hN hA hB hA0 hB0 okA okB n hn hl ao cap a m b ha hm hb
 obtain⟨m',rfl⟩:∃ m':Nat,m=m':=⟨P.length+A.length,by omega⟩
 obtain⟨b',rfl⟩:∃ b':Nat,b=b':=⟨P.length+A.length+B.length,by omega⟩
 subst ha
 refine fk Tryz.func221 Z Z ⟨trivial,trivial,trivial,trivial,cT 0,trivial⟩ fun w=>?_
 refine jd 0 (E:=lZ ao n cap (P++(A++(B++S)))) rfl (show 0<n by omega) fun gb rV=>?_
 have rV:ao=some ⟨gb,0,none⟩:=rV
 subst rV
 have nz:=af9 gb
 refine Zg ?_
 refine aG rfl (fun h=>?_) (fun h=>?_)
 ·have h:(m':Int) - P.length=1:=ae h
  obtain⟨x,rfl⟩:∃ x,A=[x]:=by
   match A,hA0,(show A.length=1 by omega) with
   | [x],_,_=>exact⟨x,rfl⟩
  have okx:=okA x (aU.2 rfl)
  have hm:m'=P.length+1:=by have:([x]:List Vd).length=1:=rfl;omega
  have hb:b'=P.length+1+B.length:=by have:([x]:List Vd).length=1:=rfl;omega
  have hn:P.length+1+B.length+S.length=n:=hn
  subst hm hb
  refine Zd ?_
  refine fm (fun _=>σ) (fun(t:Nat)=>[(0,.a (.v (.slice (some ⟨gb,0,none⟩) n cap))),(1,.a (.v (.int .i64 P.length))),(10,.a (.v (.int .i64 ((P.length+1+t:Nat):Int))))]) (fun _=>[]) (fun _=>[lZ (some ⟨gb,0,none⟩) n cap (P++([x]++(B++S)))]) 0 (fun t=>t<=B.length/\(∀ z∈B.take t,fX z x=true)/\∀ z∈B.drop t,fX z x=false) ?_ (fun t ⟨ht,h1,h2⟩=>?_)
  ·refine bX (fun(_:Qi)=>σ) (fun t=>[(0,.a (.v (.slice (some ⟨gb,0,none⟩) n cap))),(1,.a (.v (.int .i64 P.length))),(4,.a (.fn (.func 124) [])),(10,.a (.v (.int .i64 ((P.length+1+t.lo:Nat):Int)))),(11,.a (.v (.int .i64 ((P.length+1+t.hi:Nat):Int))))]) (fun _=>[]) (fun _=>[lZ (some ⟨gb,0,none⟩) n cap (P++([x]++(B++S)))]) 0
    (fun t=>t.lo<=t.hi/\t.hi<=B.length/\(∀ z∈B.take t.lo,fX z x=true)/\∀ z∈B.drop t.hi,fX z x=false) (fun t=>t.hi - t.lo) ⟨0,B.length⟩ ⟨ay _,aq _,fun z hz=>(by cases hz),fun z hz=>(by rw[bC] at hz;cases hz)⟩ rfl Zs Zs rfl ⟨trivial,trivial,cT 0,trivial,trivial,trivial⟩ trivial fun⟨lo,hi⟩ ⟨VB,YB,tA,yy⟩=>?_
   dsimp only at VB YB tA yy ⊢
   refine Za ?_
   refine aG rfl (fun h=>?_) (fun h=>?_)
   rotate_left
   ·have h0:lo=hi:=by have:=ab h;omega
    subst h0
    refine Ze ?_
    refine an lo ⟨YB,tA,yy⟩ aj rfl Zs Zs rfl Zl Zl
   have h0:lo<hi:=by have:=ae h;omega
   have hq:(lo+hi) / 2<B.length:=by omega
   have hz:=aa hq
   have okz:=okB _ (aP hq)
   have uP:Value.int .i64 (IntKind.i64.wrap (tQ .u64 (IntKind.u64.wrap (((P.length+1+lo:Nat):Int)+((P.length+1+hi:Nat):Int))) 1))=Value.int .i64 ((P.length+1+(lo+hi) / 2:Nat):Int):=by
    rw[Nl _ _ Zo]
    exact aN (fun z:Nat=>Value.int .i64 (z:Int)) Zo
   have hq1:lo<=(lo+hi) / 2:=by omega
   have hq2:(lo+hi) / 2<hi:=by omega
   generalize B[(lo+hi) / 2]=z at *
   generalize (lo+hi) / 2=q at *
   have hgz:(P++([x]++(B++S)))[P.length+1+q]?=some z:=by
    rw[aW Zo,show P.length+1+q - P.length=q+1 by omega]
    show(x::(B++S))[q+1]?=some z
    rw[bg,aV hq]
    exact hz
   have Ua:(P++([x]++(B++S)))[P.length]?=some x:=tH P (B++S) x
   refine Zg ?_
   refine u2 39 (.a (.v (.int .i64 ((P.length+1+q:Nat):Int)))) rfl trivial (fun _=>uP) ?_
   refine u2 12 (.a (.v (.int .i64 ((P.length+1+q:Nat):Int)))) rfl trivial (fun _=>uP) ?_
   refine ck [(0,.pure),(1,.pure),(2,.pure),(3,.pure),(4,.quiet),(5,.pure),(6,.pure),(7,.pure),(8,.quiet),(9,.dP),(10,.pure)] mixed Zk (aM TT rfl ?_)
   refine Zr ?_
   refine br TT Z Z Z Z Z Z Z Z Z ⟨by omega,by omega⟩ (Zr ?_)
   refine jD 0 (off:=(P.length+1+q)*6) TT (dJ z) Z Z Z Z Z (nz _ _ rfl) Z Z Z Z Z (fun j c hc=>iJ hgz j c hc) (df 0 z) (Zr ?_)
   refine br TT Z Z Z Z Z Z Z Z Z ⟨by omega,by omega⟩ (Zr ?_)
   refine jD 0 (off:=P.length*6) TT (dJ x) Z Z Z Z Z (nz _ _ rfl) Z Z Z Z Z (fun j c hc=>iJ Ua j c hc) (df 0 x) (Zr ?_)
   refine aT (ys:=[.agg (dJ z),.agg (dJ x)]) Z Z Z Z Z Tryz.call124 ⟨df 0 z,df 0 x,trivial⟩ (A7 σ z x okz okx) fun v hv=>⟨.a (.v (.int .i64 (Lib.compareBytes z.z x.z))),trivial,hv.symm,?_⟩
   refine gX ?_
   refine aG rfl (fun h=>?_) (fun h=>?_)
   ·have h:fX z x=true:=h
    refine Zc ?_
    refine an (⟨q+1,hi⟩:Qi) ⟨hq2,YB,fun y hy=>by
     obtain⟨i,rU,ey⟩:=qb hy
     have rU:i<q+1:=rU
     exact mI.RV (hB.le mI ey hz Zo) h,yy⟩ (by dsimp only;omega) rfl ?_ Zs rfl ⟨trivial,trivial,cT 0,trivial,trivial,trivial⟩ trivial
    refine⟨rfl,rfl,rfl,?_,rfl,trivial⟩
    exact aN (fun z=>some (SV.a (AT.v (Value.int .i64 z)))) (show((P.length+1+q:Nat):Int)+1=((P.length+1+(q+1):Nat):Int) by omega)
   ·have h:fX z x=false:=h
    refine Zc ?_
    refine an (⟨lo,q⟩:Qi) ⟨hq1,by dsimp only;omega,tA,fun y hy=>by
     obtain⟨i,rU,ey⟩:=qd hy
     exact mI.tr _ _ _ h (hB.le mI hz ey rU)⟩ (by dsimp only;omega) rfl Zs Zs rfl ⟨trivial,trivial,cT 0,trivial,trivial,trivial⟩ trivial
  refine Zd ?_
  refine bX (fun(_:Nat)=>σ) (fun u=>[(0,.a (.v (.slice (some ⟨gb,0,none⟩) n cap))),(10,.a (.v (.int .i64 ((P.length+1+t:Nat):Int)))),(13,.a (.v (.int .i64 ((P.length+u:Nat):Int))))]) (fun _=>[]) (fun u=>[lZ (some ⟨gb,0,none⟩) n cap (P++(B.take u++(x::(B.drop u++S))))]) 0
   (fun u=>u<=t) (fun u=>t - u) 0 (ay _) rfl Zs Zs rfl Zl Zl fun u hu=>?_
  refine Zg ?_
  refine aG rfl (fun h=>?_) (fun h=>?_)
  rotate_left
  ·have h0:u=t:=by have:=ab h;omega
   subst h0
   refine Zg ?_
   refine dq TT rfl fun β w' _ _=>?_
   refine⟨rfl,B.take u++x::B.drop u,gD.left mI hB h1 h2,?_,?_⟩
   ·rw[af,List.length_cons,aE,bm,b8]
    omega
   ·show [_]=[_]
    simp only[av,aZ]
  have h:=ae h
  have tZ:u<t:=by omega
  have hy:=aa (show u<B.length by omega)
  have hdu:B.drop u=B[u]::B.drop (u+1):=aB Zo
  have htu:B.take (u+1)=B.take u++[B[u]]:=ak Zo
  generalize B[u]=y at *
  have KD:P++(B.take u++(x::(B.drop u++S)))=(P++B.take u)++x::y::(B.drop (u+1)++S):=by
   rw[hdu]
   simp only[av,aZ]
  have AO:(P++B.take u)++y::x::(B.drop (u+1)++S)=P++(B.take (u+1)++(x::(B.drop (u+1)++S))):=by
   rw[htu]
   simp only[av,aZ,cF]
  have hU:(P++B.take u).length=P.length+u:=by rw[af,aE];omega
  have hW:(B.drop (u+1)++S).length+u+1=B.length+S.length:=by rw[af,bm];omega
  rw[KD]
  generalize P++B.take u=U at *
  generalize hRd:B.drop (u+1)++S=R at *
  have ZH:(U++x::y::R).length=n:=by
   simp only[af,List.length_cons]
   omega
  have Qe:=Dg U R x y
  have Ua:=tH U (y::R) x
  refine Zd ?_
  refine ck [(0,.pure),(1,.pure),(2,.pure),(3,.pure),(4,.pure),(5,.pure),(6,.pure),(7,.pure),(8,.pure),(9,.quiet),(10,.pure),(11,.pure),(12,.pure),(13,.quiet),(14,.pure),(15,.sink),(16,.pure),(17,.sink)] mixed Zk (aM TT rfl ?_)
  refine Zr ?_
  refine eO Z Z Z Z Z Z Zo (Zr ?_)
  refine eO Z Z Z Z Z Z Zo (Zr ?_)
  refine br TT Z Z Z Z Z Z Z Z Z ⟨by omega,by omega⟩ (Zr ?_)
  refine jD 0 (off:=(U.length+1)*6) TT (dJ y) Z Z Z Z Z (nz _ _ Zo) Z Z Z Z Z (fun q c hc=>iJ Qe q c hc) (df 0 y) (Zr ?_)
  refine br TT Z Z Z Z Z Z Z Z Z ⟨by omega,by omega⟩ (Zr ?_)
  refine jD 0 (off:=U.length*6) TT (dJ x) Z Z Z Z Z (nz _ _ Zo) Z Z Z Z Z (fun q c hc=>iJ Ua q c hc) (df 0 x) (Zr ?_)
  refine br TT Z Z Z Z Z Z Z Z Z ⟨by omega,by omega⟩ (Zr ?_)
  refine p6 0 (off:=U.length*6) (cs:=dJ y) (A':=[lZ (some ⟨gb,0,none⟩) n cap ((U++x::y::R).set U.length y)]) TT Z Z Z Z (nz _ _ Zo) Z Z Z Z Z (by show U.length*6+6<=n*6;omega) (df 0 y) rfl ?_ (Zr ?_)
  ·show [_]=[_]
   unfold lZ
   rw[<-nK y Zo]
  refine br TT Z Z Z Z Z Z Z Z Z ⟨by omega,by omega⟩ (Zr ?_)
  refine p6 0 (off:=(U.length+1)*6) (cs:=dJ x) (A':=[lZ (some ⟨gb,0,none⟩) n cap (((U++x::y::R).set U.length y).set (U.length+1) x)]) TT Z Z Z Z (nz _ _ Zo) Z Z Z Z Z (by show(U.length+1)*6+6<=n*6;omega) (df 0 x) rfl ?_ (Zr ?_)
  ·show [_]=[_]
   unfold lZ
   rw[<-nK x (by rw[dh];omega)]
  rw[Od]
  refine Zc ?_
  refine an (u+1) Zo Zo rfl ?_ Zs ?_ Zl Zl
  ·refine⟨rfl,rfl,?_,trivial⟩
   exact aN (fun z=>some (SV.a (AT.v (Value.int .i64 z)))) (show((P.length+u:Nat):Int)+1=((P.length+(u+1):Nat):Int) by omega)
  ·show [_]=[_]
   rw[hRd,<-AO]
 have Ma:A.length≠1:=by
  have:=ab (show decide ((m':Int) - P.length=1)=false from h)
  omega
 refine Zg ?_
 refine aG rfl (fun h=>?_) (fun h=>?_)
 ·have h:(b':Int) - m'=1:=ae h
  obtain⟨y,rfl⟩:∃ y,B=[y]:=by
   match B,hB0,(show B.length=1 by omega) with
   | [y],_,_=>exact⟨y,rfl⟩
  have oky:=okB y (aU.2 rfl)
  have hm:m'=P.length+A.length:=by omega
  have hn:P.length+A.length+1+S.length=n:=hn
  subst hm
  refine Zd ?_
  refine fm (fun _=>σ) (fun(t:Nat)=>[(0,.a (.v (.slice (some ⟨gb,0,none⟩) n cap))),(2,.a (.v (.int .i64 ((P.length+A.length:Nat):Int)))),(14,.a (.v (.int .i64 ((P.length+t:Nat):Int))))]) (fun _=>[]) (fun _=>[lZ (some ⟨gb,0,none⟩) n cap (P++(A++([y]++S)))]) 0 (fun t=>t<=A.length/\(∀ z∈A.take t,fX y z=false)/\∀ z∈A.drop t,fX y z=true) ?_ (fun t ⟨ht,h1,h2⟩=>?_)
  ·refine bX (fun(_:Qi)=>σ) (fun t=>[(0,.a (.v (.slice (some ⟨gb,0,none⟩) n cap))),(2,.a (.v (.int .i64 ((P.length+A.length:Nat):Int)))),(4,.a (.fn (.func 124) [])),(14,.a (.v (.int .i64 ((P.length+t.lo:Nat):Int)))),(15,.a (.v (.int .i64 ((P.length+t.hi:Nat):Int))))]) (fun _=>[]) (fun _=>[lZ (some ⟨gb,0,none⟩) n cap (P++(A++([y]++S)))]) 0
    (fun t=>t.lo<=t.hi/\t.hi<=A.length/\(∀ z∈A.take t.lo,fX y z=false)/\∀ z∈A.drop t.hi,fX y z=true) (fun t=>t.hi - t.lo) ⟨0,A.length⟩ ⟨ay _,aq _,fun z hz=>(by cases hz),fun z hz=>(by rw[bC] at hz;cases hz)⟩ rfl Zs Zs rfl ⟨trivial,trivial,cT 0,trivial,trivial,trivial⟩ trivial fun⟨lo,hi⟩ ⟨VB,YB,tA,yy⟩=>?_
   dsimp only at VB YB tA yy ⊢
   refine Za ?_
   refine aG rfl (fun h=>?_) (fun h=>?_)
   rotate_left
   ·have h0:lo=hi:=by have:=ab h;omega
    subst h0
    refine Ze ?_
    refine an lo ⟨YB,tA,yy⟩ aj rfl Zs Zs rfl Zl Zl
   have h0:lo<hi:=by have:=ae h;omega
   have hq:(lo+hi) / 2<A.length:=by omega
   have hz:=aa hq
   have okz:=okA _ (aP hq)
   have uP:Value.int .i64 (IntKind.i64.wrap (tQ .u64 (IntKind.u64.wrap (((P.length+lo:Nat):Int)+((P.length+hi:Nat):Int))) 1))=Value.int .i64 ((P.length+(lo+hi) / 2:Nat):Int):=by
    rw[Nl _ _ Zo]
    exact aN (fun z:Nat=>Value.int .i64 (z:Int)) Zo
   have hq1:lo<=(lo+hi) / 2:=by omega
   have hq2:(lo+hi) / 2<hi:=by omega
   generalize A[(lo+hi) / 2]=z at *
   generalize (lo+hi) / 2=q at *
   have hgz:(P++(A++([y]++S)))[P.length+q]?=some z:=by
    rw[aW Zo,show P.length+q - P.length=q by omega,aV hq]
    exact hz
   have Qe:(P++(A++([y]++S)))[P.length+A.length]?=some y:=by
    rw[aW Zo,show P.length+A.length - P.length=A.length by omega]
    exact tH A S y
   refine Zg ?_
   refine u2 91 (.a (.v (.int .i64 ((P.length+q:Nat):Int)))) rfl trivial (fun _=>uP) ?_
   refine u2 16 (.a (.v (.int .i64 ((P.length+q:Nat):Int)))) rfl trivial (fun _=>uP) ?_
   refine ck [(0,.pure),(1,.pure),(2,.pure),(3,.pure),(4,.quiet),(5,.pure),(6,.pure),(7,.pure),(8,.quiet),(9,.dP),(10,.pure),(11,.pure)] mixed Zk (aM TT rfl ?_)
   refine Zr ?_
   refine br TT Z Z Z Z Z Z Z Z Z ⟨by omega,by omega⟩ (Zr ?_)
   refine jD 0 (off:=(P.length+A.length)*6) TT (dJ y) Z Z Z Z Z (nz _ _ rfl) Z Z Z Z Z (fun j c hc=>iJ Qe j c hc) (df 0 y) (Zr ?_)
   refine br TT Z Z Z Z Z Z Z Z Z ⟨by omega,by omega⟩ (Zr ?_)
   refine jD 0 (off:=(P.length+q)*6) TT (dJ z) Z Z Z Z Z (nz _ _ rfl) Z Z Z Z Z (fun j c hc=>iJ hgz j c hc) (df 0 z) (Zr ?_)
   refine aT (ys:=[.agg (dJ y),.agg (dJ z)]) Z Z Z Z Z Tryz.call124 ⟨df 0 y,df 0 z,trivial⟩ (A7 σ y z oky okz) fun v hv=>⟨.a (.v (.int .i64 (Lib.compareBytes y.z z.z))),trivial,hv.symm,?_⟩
   refine gX ?_
   refine aG rfl (fun h=>?_) (fun h=>?_)
   ·have h:(!fX y z)=true:=h
    have h:fX y z=false:=by simpa using h
    refine Zc ?_
    refine an (⟨q+1,hi⟩:Qi) ⟨hq2,YB,fun x hx=>by
     obtain⟨i,rU,ex⟩:=qb hx
     have rU:i<q+1:=rU
     exact mI.tr _ _ _ (hA.le mI ex hz Zo) h,yy⟩ (by dsimp only;omega) rfl ?_ Zs rfl ⟨trivial,trivial,cT 0,trivial,trivial,trivial⟩ trivial
    refine⟨rfl,rfl,rfl,?_,rfl,trivial⟩
    exact aN (fun z=>some (SV.a (AT.v (Value.int .i64 z)))) (show((P.length+q:Nat):Int)+1=((P.length+(q+1):Nat):Int) by omega)
   ·have h:(!fX y z)=false:=h
    have h:fX y z=true:=by simpa using h
    refine Zc ?_
    refine an (⟨lo,q⟩:Qi) ⟨hq1,by dsimp only;omega,tA,fun x hx=>by
     obtain⟨i,rU,ex⟩:=qd hx
     exact mI.WJ h (hA.le mI hz ex rU)⟩ (by dsimp only;omega) rfl Zs Zs rfl ⟨trivial,trivial,cT 0,trivial,trivial,trivial⟩ trivial
  refine Zd ?_
  refine bX (fun(_:Nat)=>σ) (fun u=>[(0,.a (.v (.slice (some ⟨gb,0,none⟩) n cap))),(14,.a (.v (.int .i64 ((P.length+t:Nat):Int)))),(17,.a (.v (.int .i64 ((P.length+u:Nat):Int))))]) (fun _=>[]) (fun u=>[lZ (some ⟨gb,0,none⟩) n cap (P++(A.take u++(y::(A.drop u++S))))]) 0
   (fun u=>t<=u/\u<=A.length) (fun u=>u) A.length ⟨ht,aq _⟩ rfl Zs Zs ?_ ⟨trivial,trivial,trivial,trivial⟩ trivial fun u ⟨hu,hul⟩=>?_
  ·show [_]=[_]
   rw[aI,bC]
   rfl
  refine Za ?_
  refine aG rfl (fun h=>?_) (fun h=>?_)
  rotate_left
  ·have h0:u=t:=by
    have:=ab (show decide (((P.length+u:Nat):Int) > ((P.length+t:Nat):Int))=false from h)
    omega
   subst h0
   refine Zg ?_
   refine dq TT rfl fun β w' _ _=>?_
   refine⟨rfl,A.take u++y::A.drop u,(gD.refl hA).ins mI h2 h1,?_,?_⟩
   ·rw[af,List.length_cons,aE,bm,b8]
    omega
   ·show [_]=[_]
    simp only[av,aZ]
  have tZ:t<u:=by
   have:=ae (show decide (((P.length+u:Nat):Int) > ((P.length+t:Nat):Int))=true from h)
   omega
  obtain⟨q,rfl⟩:∃ q,u=q+1:=⟨u - 1,by omega⟩
  have htq:A.take (q+1)=A.take q++[A[q]]:=ak Zo
  have hdq:A.drop q=A[q]::A.drop (q+1):=aB Zo
  generalize A[q]=z at *
  have KD:P++(A.take (q+1)++(y::(A.drop (q+1)++S)))=(P++A.take q)++z::y::(A.drop (q+1)++S):=by
   rw[htq]
   simp only[av,aZ,cF]
  have AO:(P++A.take q)++y::z::(A.drop (q+1)++S)=P++(A.take q++(y::(A.drop q++S))):=by
   rw[hdq]
   simp only[av,aZ]
  have hU:(P++A.take q).length=P.length+q:=by rw[af,aE];omega
  have hW:(A.drop (q+1)++S).length+q+1=A.length+S.length:=by rw[af,bm];omega
  rw[KD]
  generalize P++A.take q=U at *
  generalize A.drop (q+1)++S=R at *
  have ZH:(U++z::y::R).length=n:=by
   simp only[af,List.length_cons]
   omega
  have Qe:=Dg U R z y
  have hgz:=tH U (y::R) z
  refine Zd ?_
  refine ck [(0,.pure),(1,.pure),(2,.pure),(3,.pure),(4,.pure),(5,.pure),(6,.pure),(7,.pure),(8,.pure),(9,.quiet),(10,.pure),(11,.pure),(12,.pure),(13,.quiet),(14,.pure),(15,.sink),(16,.pure),(17,.sink)] mixed Zk (aM TT rfl ?_)
  refine Zr ?_
  refine iY Z Z Z Z Z Z Zo (Zr ?_)
  refine iY Z Z Z Z Z Z Zo (Zr ?_)
  refine br TT Z Z Z Z Z Z Z Z Z ⟨by omega,by omega⟩ (Zr ?_)
  refine jD 0 (off:=U.length*6) TT (dJ z) Z Z Z Z Z (nz _ _ Zo) Z Z Z Z Z (fun q c hc=>iJ hgz q c hc) (df 0 z) (Zr ?_)
  refine br TT Z Z Z Z Z Z Z Z Z ⟨by omega,by omega⟩ (Zr ?_)
  refine jD 0 (off:=(U.length+1)*6) TT (dJ y) Z Z Z Z Z (nz _ _ Zo) Z Z Z Z Z (fun q c hc=>iJ Qe q c hc) (df 0 y) (Zr ?_)
  refine br TT Z Z Z Z Z Z Z Z Z ⟨by omega,by omega⟩ (Zr ?_)
  refine p6 0 (off:=(U.length+1)*6) (cs:=dJ z) (A':=[lZ (some ⟨gb,0,none⟩) n cap ((U++z::y::R).set (U.length+1) z)]) TT Z Z Z Z (nz _ _ Zo) Z Z Z Z Z (by show(U.length+1)*6+6<=n*6;omega) (df 0 z) rfl ?_ (Zr ?_)
  ·show [_]=[_]
   unfold lZ
   rw[<-nK z Zo]
  refine br TT Z Z Z Z Z Z Z Z Z ⟨by omega,by omega⟩ (Zr ?_)
  refine p6 0 (off:=U.length*6) (cs:=dJ y) (A':=[lZ (some ⟨gb,0,none⟩) n cap (((U++z::y::R).set (U.length+1) z).set U.length y)]) TT Z Z Z Z (nz _ _ Zo) Z Z Z Z Z (by show U.length*6+6<=n*6;omega) (df 0 y) rfl ?_ (Zr ?_)
  ·show [_]=[_]
   unfold lZ
   rw[<-nK y (by rw[dh];omega)]
  rw[Ib]
  refine Zg ?_
  refine an q ⟨by omega,by omega⟩ Zo rfl ?_ Zs ?_ Zl Zl
  ·refine⟨rfl,rfl,?_,trivial⟩
   exact aN (fun z=>some (SV.a (AT.v (Value.int .i64 z)))) (show((P.length+(q+1):Nat):Int) - 1=((P.length+q:Nat):Int) by omega)
  ·show [_]=[_]
   rw[<-AO]
 have hB1:B.length≠1:=by
  have:=ab (show decide ((b':Int) - m'=1)=false from h)
  omega
 have WY:Value.int .i64 (IntKind.i64.wrap (tQ .u64 (IntKind.u64.wrap ((P.length:Int)+(b':Nat))) 1))=Value.int .i64 ((P.length+(A.length+B.length) / 2:Nat):Int):=by
  rw[Nl _ _ Zo]
  exact aN (fun z:Nat=>Value.int .i64 (z:Int)) Zo
 have ar6:(A.length+B.length) / 2<A.length+B.length:=by omega
 have ar7:2*((A.length+B.length) / 2)<=A.length+B.length/\A.length+B.length<=2*((A.length+B.length) / 2)+1:=by omega
 generalize (A.length+B.length) / 2=md at *
 refine Zg ?_
 refine cr 135 (.a (.v (.int .i64 ((P.length+md:Nat):Int)))) rfl trivial (fun _=>WY) ?_
 refine cr 18 (.a (.v (.int .i64 ((P.length+md:Nat):Int)))) rfl trivial (fun _=>WY) ?_
 refine Zr ?_
 refine eO Z Z Z Z Z Z Zo (Zr ?_)
 refine Za ?_
 refine ji (fun(_:Qi)=>σ) (fun t=>[(0,.a (.v (.slice (some ⟨gb,0,none⟩) n cap))),(1,.a (.v (.int .i64 P.length))),(2,.a (.v (.int .i64 (m':Nat)))),(3,.a (.v (.int .i64 (b':Nat)))),(4,.a (.fn (.func 124) [])),(18,.a (.v (.int .i64 ((P.length+md:Nat):Int)))),(19,.a (.v (.int .i64 (((P.length+md:Nat):Int)+(m':Nat))))),(20,.a (.v (.int .i64 ((P.length+t.lo:Nat):Int)))),(21,.a (.v (.int .i64 ((P.length+t.hi:Nat):Int))))]) (fun _=>[]) (fun _=>[lZ (some ⟨gb,0,none⟩) n cap (P++(A++(B++S)))]) 0
  (fun t=>t.lo<=t.hi/\t.hi<=A.length/\t.hi<=md/\md<=B.length+t.lo/\(t.lo=0\/md=B.length+t.lo)/\(t.hi=md\/t.hi=A.length)) ?_ (fun⟨l0,r0⟩ ⟨i1,i2,i3,i4,i5,i6⟩=>?_)
 ·refine aG rfl (fun h=>?_) (fun h=>?_)
  ·have h:=ae h
   refine Zg ?_
   refine an (⟨md - B.length,md⟩:Qi) ⟨by dsimp only;omega,by dsimp only;omega,by dsimp only;omega,by dsimp only;omega,.inr (by dsimp only;omega),.inl rfl⟩ aj rfl ?_ Zs rfl ⟨trivial,trivial,trivial,trivial,cT 0,trivial,trivial,trivial,trivial,trivial⟩ trivial
   refine⟨rfl,rfl,rfl,rfl,rfl,rfl,rfl,?_,rfl,trivial⟩
   exact aN (fun z=>some (SV.a (AT.v (Value.int .i64 z)))) (show((P.length+md:Nat):Int)+m' - b'=((P.length+(md - B.length):Nat):Int) by omega)
  ·have h:=ab h
   refine Zg ?_
   refine an (⟨0,A.length⟩:Qi) ⟨ay _,aq _,by dsimp only;omega,by dsimp only;omega,.inl rfl,.inr rfl⟩ aj rfl ?_ Zs rfl ⟨trivial,trivial,trivial,trivial,cT 0,trivial,trivial,trivial,trivial,trivial⟩ trivial
   refine⟨rfl,rfl,rfl,rfl,rfl,rfl,rfl,rfl,?_,trivial⟩
   exact aN (fun z=>some (SV.a (AT.v (Value.int .i64 z)))) (show(m':Int)=((P.length+A.length:Nat):Int) by omega)
 dsimp only at i1 i2 i3 i4 i5 i6 ⊢
 refine Zg ?_
 refine fm (fun _=>σ) (fun(s:Nat)=>[(0,.a (.v (.slice (some ⟨gb,0,none⟩) n cap))),(1,.a (.v (.int .i64 P.length))),(2,.a (.v (.int .i64 (m':Nat)))),(3,.a (.v (.int .i64 (b':Nat)))),(4,.a (.fn (.func 124) [])),(18,.a (.v (.int .i64 ((P.length+md:Nat):Int)))),(19,.a (.v (.int .i64 (((P.length+md:Nat):Int)+(m':Nat))))),(20,.a (.v (.int .i64 ((P.length+s:Nat):Int))))]) (fun _=>[]) (fun _=>[lZ (some ⟨gb,0,none⟩) n cap (P++(A++(B++S)))]) 0
  (fun s=>s<=A.length/\s<=md/\md<=B.length+s/\(s=0\/B.length<=md - s\/∃ x y,A[s - 1]?=some x/\B[md - s]?=some y/\fX y x=false)/\(md - s=0\/A.length<=s\/∃ x y,A[s]?=some x/\B[md - s - 1]?=some y/\fX y x=true)) ?_ (fun s ⟨k1,k2,k3,k4,k5⟩=>?_)
 ·refine bX (fun(_:Qi)=>σ) (fun t=>[(0,.a (.v (.slice (some ⟨gb,0,none⟩) n cap))),(1,.a (.v (.int .i64 P.length))),(2,.a (.v (.int .i64 (m':Nat)))),(3,.a (.v (.int .i64 (b':Nat)))),(4,.a (.fn (.func 124) [])),(18,.a (.v (.int .i64 ((P.length+md:Nat):Int)))),(19,.a (.v (.int .i64 (((P.length+md:Nat):Int)+(m':Nat))))),(20,.a (.v (.int .i64 ((P.length+t.lo:Nat):Int)))),(21,.a (.v (.int .i64 ((P.length+t.hi:Nat):Int)))),(22,.a (.v (.int .i64 (((P.length+md:Nat):Int)+(m':Nat) - 1))))]) (fun _=>[]) (fun _=>[lZ (some ⟨gb,0,none⟩) n cap (P++(A++(B++S)))]) 0
   (fun t=>l0<=t.lo/\t.lo<=t.hi/\t.hi<=r0/\(t.lo=l0\/∃ x y,A[t.lo - 1]?=some x/\B[md - t.lo]?=some y/\fX y x=false)/\(t.hi=r0\/∃ x y,A[t.hi]?=some x/\B[md - t.hi - 1]?=some y/\fX y x=true)) (fun t=>t.hi - t.lo) ⟨l0,r0⟩ ⟨aq _,i1,aq _,.inl rfl,.inl rfl⟩ rfl Zs Zs rfl ⟨trivial,trivial,trivial,trivial,cT 0,trivial,trivial,trivial,trivial,trivial,trivial⟩ trivial fun⟨lo,hi⟩ ⟨j1,j2,j3,j4,j5⟩=>?_
  dsimp only at j1 j2 j3 j4 j5 ⊢
  refine Za ?_
  refine aG rfl (fun h=>?_) (fun h=>?_)
  rotate_left
  ·have h0:lo=hi:=by have:=ab h;omega
   subst h0
   refine Ze ?_
   refine an lo ⟨by omega,by omega,by omega,?_,?_⟩ aj rfl Zs Zs rfl ⟨trivial,trivial,trivial,trivial,cT 0,trivial,trivial,trivial,trivial⟩ trivial
   ·rcases j4 with j4 | j4
    ·rcases i5 with i5 | i5
     ·exact .inl Zo
     ·exact .inr (.inl Zo)
    ·exact .inr (.inr j4)
   ·rcases j5 with j5 | j5
    ·rcases i6 with i6 | i6
     ·exact .inl Zo
     ·exact .inr (.inl Zo)
    ·exact .inr (.inr j5)
  have h0:lo<hi:=by have:=ae h;omega
  have uP:Value.int .i64 (IntKind.i64.wrap (tQ .u64 (IntKind.u64.wrap (((P.length+lo:Nat):Int)+((P.length+hi:Nat):Int))) 1))=Value.int .i64 ((P.length+(lo+hi) / 2:Nat):Int):=by
   rw[Nl _ _ Zo]
   exact aN (fun z:Nat=>Value.int .i64 (z:Int)) Zo
  have hq1:lo<=(lo+hi) / 2:=by omega
  have hq2:(lo+hi) / 2<hi:=by omega
  generalize (lo+hi) / 2=q at *
  have hqa:q<A.length:=by omega
  have Vw:md - q - 1<B.length:=by omega
  have hqm:q<md:=by omega
  have hx:=aa hqa
  have hy:=aa Vw
  have okx:=okA _ (aP hqa)
  have oky:=okB _ (aP Vw)
  generalize A[q]=x at *
  generalize B[md - q - 1]=y at *
  have Ua:(P++(A++(B++S)))[P.length+q]?=some x:=by
   rw[aW Zo,show P.length+q - P.length=q by omega,aV hqa]
   exact hx
  have Qe:(P++(A++(B++S)))[P.length+(A.length+(md - q - 1))]?=some y:=by
   rw[aW Zo,show P.length+(A.length+(md - q - 1)) - P.length=A.length+(md - q - 1) by omega,aW Zo,show A.length+(md - q - 1) - A.length=md - q - 1 by omega,aV Vw]
   exact hy
  refine Zg ?_
  refine u2 157 (.a (.v (.int .i64 ((P.length+q:Nat):Int)))) rfl trivial (fun _=>uP) ?_
  refine u2 23 (.a (.v (.int .i64 ((P.length+q:Nat):Int)))) rfl trivial (fun _=>uP) ?_
  refine ck [(0,.pure),(1,.pure),(2,.pure),(3,.pure),(4,.pure),(5,.pure),(6,.quiet),(7,.pure),(8,.pure),(9,.pure),(10,.quiet),(11,.dP),(12,.pure),(13,.pure)] mixed Zk (aM TT rfl ?_)
  refine Zr ?_
  refine iY Z Z Z Z Z Z Zo (Zr ?_)
  refine br TT Z Z Z Z Z Z Z Z Z ⟨by omega,by omega⟩ (Zr ?_)
  refine jD 0 (off:=(P.length+(A.length+(md - q - 1)))*6) TT (dJ y) Z Z Z Z Z (nz _ _ Zo) Z Z Z Z Z (fun j c hc=>iJ Qe j c hc) (df 0 y) (Zr ?_)
  refine br TT Z Z Z Z Z Z Z Z Z ⟨by omega,by omega⟩ (Zr ?_)
  refine jD 0 (off:=(P.length+q)*6) TT (dJ x) Z Z Z Z Z (nz _ _ rfl) Z Z Z Z Z (fun j c hc=>iJ Ua j c hc) (df 0 x) (Zr ?_)
  refine aT (ys:=[.agg (dJ y),.agg (dJ x)]) Z Z Z Z Z Tryz.call124 ⟨df 0 y,df 0 x,trivial⟩ (A7 σ y x oky okx) fun v hv=>⟨.a (.v (.int .i64 (Lib.compareBytes y.z x.z))),trivial,hv.symm,?_⟩
  refine gX ?_
  refine aG rfl (fun h=>?_) (fun h=>?_)
  ·have h:(!fX y x)=true:=h
   have h:fX y x=false:=by simpa using h
   refine Zc ?_
   refine an (⟨q+1,hi⟩:Qi) ⟨by dsimp only;omega,hq2,j3,.inr ⟨x,y,hx,by rw[<-hy,Nat.sub_sub],h⟩,j5⟩ (by dsimp only;omega) rfl ?_ Zs rfl ⟨trivial,trivial,trivial,trivial,cT 0,trivial,trivial,trivial,trivial,trivial,trivial⟩ trivial
   refine⟨rfl,rfl,rfl,rfl,rfl,rfl,rfl,?_,rfl,rfl,trivial⟩
   exact aN (fun z=>some (SV.a (AT.v (Value.int .i64 z)))) (show((P.length+q:Nat):Int)+1=((P.length+(q+1):Nat):Int) by omega)
  ·have h:(!fX y x)=false:=h
   have h:fX y x=true:=by simpa using h
   refine Zc ?_
   refine an (⟨lo,q⟩:Qi) ⟨j1,hq1,by dsimp only;omega,j4,.inr ⟨x,y,hx,hy,h⟩⟩ (by dsimp only;omega) rfl Zs Zs rfl ⟨trivial,trivial,trivial,trivial,cT 0,trivial,trivial,trivial,trivial,trivial,trivial⟩ trivial
 have e1:(A.take s).length=s:=by rw[aE];omega
 have e2:(A.drop s).length=A.length - s:=bm
 have e3:(B.take (md - s)).length=md - s:=by rw[aE];omega
 have e4:(B.drop (md - s)).length=B.length - (md - s):=bm
 have Sv:=fun S1 S2=>gD.half (S1:=S1) (S2:=S2) mI hA hB k4 k5
 have eA:A=A.take s++A.drop s:=(cK _ _).symm
 have eB:B=B.take (md - s)++B.drop (md - s):=(cK _ _).symm
 have sA1:BB fX (A.take s):=hA.sublist (List.take_sublist _ _)
 have sA2:BB fX (A.drop s):=hA.sublist (List.drop_sublist _ _)
 have sB1:BB fX (B.take (md - s)):=hB.sublist (List.take_sublist _ _)
 have sB2:BB fX (B.drop (md - s)):=hB.sublist (List.drop_sublist _ _)
 have oA1:∀ v∈A.take s,qV σ v:=fun v hv=>okA v (dr hv)
 have oA2:∀ v∈A.drop s,qV σ v:=fun v hv=>okA v (fZ hv)
 have oB1:∀ v∈B.take (md - s),qV σ v:=fun v hv=>okB v (dr hv)
 have oB2:∀ v∈B.drop (md - s),qV σ v:=fun v hv=>okB v (fZ hv)
 have ew:P++(A++(B++S))=(P++A.take s)++(A.drop s++(B.take (md - s)++(B.drop (md - s)++S))):=by
  conv=>lhs;rw[eA,eB]
  simp only[av]
 rw[ew]
 generalize A.take s=A1 at *
 generalize A.drop s=A2 at *
 generalize B.take (md - s)=B1 at *
 generalize B.drop (md - s)=B2 at *
 have Da:((P.length+md:Nat):Int)+m' - ((P.length+s:Nat):Int)=((P.length+A.length+(md - s):Nat):Int):=by omega
 refine gz ?_
 refine KG TT rfl ?_
 refine iY Z Z Z Z Z Z Zo (Zr ?_)
 refine iu ?_
 refine u2 24 (.a (.v (.int .i64 ((P.length+A.length+(md - s):Nat):Int)))) rfl trivial (fun _=>aN (Value.int .i64) Da) ?_
 have nA2:A2.length=0->A2=[]:=aY
 have nB1:B1.length=0->B1=[]:=aY
 have nA1:A1.length=0->A1=[]:=aY
 have nB2:B2.length=0->B2=[]:=aY
 refine gz ?_
 refine ji (fun(s1:al)=>s1) (fun _=>[(0,.a (.v (.slice (some ⟨gb,0,none⟩) n cap))),(1,.a (.v (.int .i64 P.length))),(3,.a (.v (.int .i64 (b':Nat)))),(4,.a (.fn (.func 124) [])),(18,.a (.v (.int .i64 ((P.length+md:Nat):Int)))),(20,.a (.v (.int .i64 ((P.length+s:Nat):Int)))),(24,.a (.v (.int .i64 ((P.length+A.length+(md - s):Nat):Int))))]) (fun _=>[]) (fun _=>[lZ (some ⟨gb,0,none⟩) n cap ((P++A1)++(B1++(A2++(B2++S))))]) 0 (fun s1=>σ.le s1) ?_ (fun s1 cP=>?_)
 ·have uO:A2=[]\/B1=[]->[lZ (some ⟨gb,0,none⟩) n cap ((P++A1)++(B1++(A2++(B2++S))))]=[lZ (some ⟨gb,0,none⟩) n cap ((P++A1)++(A2++(B1++(B2++S))))]:=fun h=>by
   rcases h with rfl | rfl<;>rfl
  refine gz ?_
  refine KG TT rfl ?_
  refine ax 181 rfl (fun h=>?_) (fun h=>?_)
  rotate_left
  ·have h:=ab h
   refine pC ?_
   refine an σ (al.le_refl _) aj rfl Zs Zs (uO (.inl (nA2 Zo))) ⟨trivial,trivial,trivial,cT 0,trivial,trivial,trivial,trivial⟩ trivial
  have h:=ae h
  refine gX ?_
  refine aG rfl (fun h1=>?_) (fun h1=>?_)
  rotate_left
  ·have h1:=ab h1
   refine Zc ?_
   refine an σ (al.le_refl _) aj rfl Zs Zs (uO (.inr (nB1 Zo))) ⟨trivial,trivial,trivial,cT 0,trivial,trivial,trivial,trivial⟩ trivial
  have h1:=ae h1
  have hPA:(P++A1).length=P.length+s:=by rw[af];omega
  refine Za ?_
  refine dT [0] (A0:=[lZ (some ⟨gb,0,none⟩) n cap ((P++A1)++(A2++(B1++(B2++S))))]) (Ar:=[]) Z Z Z Z Z Z Z Tryz.call240 ⟨trivial,trivial,trivial,trivial,cT 0,trivial⟩ (aa3 σ (P++A1) A2 B1 (B2++S) Zo Zo n (by rw[af,af];omega) hl _ cap _ _ _ Zo Zo Zo) fun v s1 A' cP ⟨hv,hA⟩=>⟨.ik [],Zl,hv.symm,?_⟩
  subst hA
  refine lP ?_
  refine an s1 cP aj rfl Zs Zs rfl ⟨trivial,trivial,trivial,cT 0,trivial,trivial,trivial,trivial⟩ trivial
 have ew2:(P++A1)++(B1++(A2++(B2++S)))=P++(A1++(B1++(A2++(B2++S)))):=by simp only[av]
 rw[ew2]
 refine gz ?_
 refine ji (fun(t:Y2S)=>t.s) (fun _=>[(0,.a (.v (.slice (some ⟨gb,0,none⟩) n cap))),(3,.a (.v (.int .i64 (b':Nat)))),(4,.a (.fn (.func 124) [])),(18,.a (.v (.int .i64 ((P.length+md:Nat):Int)))),(24,.a (.v (.int .i64 ((P.length+A.length+(md - s):Nat):Int))))]) (fun _=>[]) (fun t=>[lZ (some ⟨gb,0,none⟩) n cap (P++(t.M++(A2++(B2++S))))]) 0 (fun t=>σ.le t.s/\gD fX t.M (A1++B1)/\t.M.length=A1.length+B1.length) ?_ (fun⟨s2,M1⟩ ⟨cw,hM1,an6⟩=>?_)
 ·have uO:A1=[]\/B1=[]->gD fX (A1++B1) (A1++B1):=fun h=>by
   rcases h with rfl | rfl
   ·exact gD.refl sB1
   ·rw[aL];exact gD.refl sA1
  have Sg:[lZ (some ⟨gb,0,none⟩) n cap (P++((A1++B1)++(A2++(B2++S))))]=[lZ (some ⟨gb,0,none⟩) n cap (P++(A1++(B1++(A2++(B2++S)))))]:=by rw[av A1]
  refine gz ?_
  refine KG TT rfl ?_
  refine ax 195 rfl (fun h=>?_) (fun h=>?_)
  rotate_left
  ·have h:=ab h
   refine pC ?_
   refine an (⟨s1,A1++B1⟩:Y2S) ⟨cP,uO (.inl (nA1 Zo)),af⟩ aj rfl Zs Zs Sg ⟨trivial,trivial,cT 0,trivial,trivial,trivial⟩ trivial
  have h:=ae h
  refine gX ?_
  refine aG rfl (fun h1=>?_) (fun h1=>?_)
  rotate_left
  ·have h1:=ab h1
   refine Zc ?_
   refine an (⟨s1,A1++B1⟩:Y2S) ⟨cP,uO (.inr (nB1 Zo)),af⟩ aj rfl Zs Zs Sg ⟨trivial,trivial,cT 0,trivial,trivial,trivial⟩ trivial
  have h1:=ae h1
  refine Za ?_
  refine dT [0] (A0:=[lZ (some ⟨gb,0,none⟩) n cap (P++(A1++(B1++(A2++(B2++S)))))]) (Ar:=[]) Z Z Z Z Z Z Z Tryz.call221 ⟨trivial,trivial,trivial,trivial,cT 0,trivial⟩ (ih s1 P A1 B1 (A2++(B2++S)) Zo sA1 sB1 Zo Zo (fun v hv=>(oA1 v hv).mono cP) (fun v hv=>(oB1 v hv).mono cP) n (by rw[af,af];omega) hl _ cap _ _ _ Zo Zo Zo) fun v s2 A' cw ⟨hv,M,hM,Qg,hA⟩=>⟨.ik [],Zl,hv.symm,?_⟩
  subst hA
  refine lP ?_
  refine an (⟨s2,M⟩:Y2S) ⟨al.le_trans cP cw,hM,Qg⟩ aj rfl Zs Zs rfl ⟨trivial,trivial,cT 0,trivial,trivial,trivial⟩ trivial
 dsimp only at cw hM1 an6 ⊢
 have hPM:(P++M1).length=P.length+md:=by rw[af];omega
 have ew3:P++(M1++(A2++(B2++S)))=(P++M1)++(A2++(B2++S)):=by simp only[av]
 have uO:A2=[]\/B2=[]->gD fX (A2++B2) (A2++B2):=fun h=>by
  rcases h with rfl | rfl
  ·exact gD.refl sB2
  ·rw[aL];exact gD.refl sA2
 have Sg:[lZ (some ⟨gb,0,none⟩) n cap (P++(M1++(A2++(B2++S))))]=[lZ (some ⟨gb,0,none⟩) n cap (P++((M1++(A2++B2))++S))]:=by simp only[av]
 refine gz ?_
 refine KG TT rfl ?_
 refine ax 209 rfl (fun h=>?_) (fun h=>?_)
 rotate_left
 ·have h:=ab h
  refine pC ?_
  refine nU TT rfl fun β w' _ _=>?_
  exact⟨rfl,M1++(A2++B2),Sv _ _ hM1 (uO (.inl (nA2 Zo))),by simp only[af];omega,Sg⟩
 have h:=ae h
 refine gX ?_
 refine aG rfl (fun h1=>?_) (fun h1=>?_)
 rotate_left
 ·have h1:=ab h1
  refine Zc ?_
  refine nU TT rfl fun β w' _ _=>?_
  exact⟨rfl,M1++(A2++B2),Sv _ _ hM1 (uO (.inr (nB2 Zo))),by simp only[af];omega,Sg⟩
 have h1:=ae h1
 rw[ew3]
 refine Za ?_
 refine dT [0] (A0:=[lZ (some ⟨gb,0,none⟩) n cap ((P++M1)++(A2++(B2++S)))]) (Ar:=[]) Z Z Z Z Z Z Z Tryz.call221 ⟨trivial,trivial,trivial,trivial,cT 0,trivial⟩ (ih s2 (P++M1) A2 B2 S Zo sA2 sB2 Zo Zo (fun v hv=>(oA2 v hv).mono cw) (fun v hv=>(oB2 v hv).mono cw) n Zo hl _ cap _ _ _ Zo Zo Zo) fun v s3 A' kV ⟨hv,M,hM,Qg,hA⟩=>⟨.ik [],Zl,hv.symm,?_⟩
 subst hA
 refine lP ?_
 refine nU TT rfl fun β w' _ _=>?_
 refine⟨rfl,M1++M,Sv _ _ hM1 hM,by rw[af];omega,?_⟩
 show [_]=[_]
 simp only[av]
end Go.Sy
namespace Go.Sy
open Go.Proofs
structure StS where
 s:al
 E:List Vd
 L0:List Vd
 R:List Vd
structure SuS where
 s:al
 bs:Nat
 D:List Vd
structure SvS where
 s:al
 E:List Vd
 L0:List Vd
 R:List Vd
 K:List Vd
theorem QB(σ:al)(L:List Vd)(okL:∀ v∈L,qV σ v)(n:Nat)(hn:L.length=n)(hl:n<=1000000)(ao:Option Addr)(cap:Nat):
  pV Tryz.prog 186 [.a (.v (.slice ao n cap)),.a (.v (.int .i64 n)),.a (.fn (.func 124) [])] σ [lZ ao n cap L] (fun v _ A'=>v=.tuple #[]/\∃ M,gD fX M L/\M.length=n/\A'=[lZ ao n cap M]):=by
 refine fk Tryz.func186 Z Z ⟨trivial,trivial,cT 0,trivial⟩ fun w=>?_
 refine Zd ?_
 refine bX (fun(t:StS)=>t.s) (fun t=>[(0,.a (.v (.slice ao n cap))),(1,.a (.v (.int .i64 n))),(2,.a (.fn (.func 124) [])),(6,.a (.v (.int .i64 20))),(7,.a (.v (.int .i64 (t.E.length:Nat)))),(8,.a (.v (.int .i64 ((t.E.length+20:Nat):Int))))]) (fun _=>[]) (fun t=>[lZ ao n cap (t.E++t.R)]) 0
  (fun t=>σ.le t.s/\Hi 20 t.E t.L0/\L=t.L0++t.R/\t.E.length+t.R.length=n) (fun t=>t.R.length) ⟨σ,[],[],L⟩ ⟨al.le_refl _,Hi.nil,rfl,by show 0+L.length=n;omega⟩ rfl Zs Zs rfl ⟨trivial,trivial,cT 0,trivial,trivial,trivial,trivial⟩ trivial fun⟨s,E,L0,R⟩ ⟨hle,hD,hL,hlen⟩=>?_
 dsimp only at hle hD hL hlen ⊢
 have WE:∀ v∈R,qV s v:=fun v hv=>(okL v (by rw[hL];exact gH _ hv)).mono hle
 refine Za ?_
 refine aG rfl (fun h=>?_) (fun h=>?_)
 ·have h:=ae h
  have eR:R=R.take 20++R.drop 20:=(cK _ _).symm
  have e1:(R.take 20).length=20:=by rw[aE];omega
  generalize R.take 20=M at *
  generalize R.drop 20=S at *
  subst eR
  rw[af] at hlen
  refine Zd ?_
  refine dT [0] (A0:=[lZ ao n cap (E++(M++S))]) (Ar:=[]) Z Z Z Z Z Z Z Tryz.call220 ⟨trivial,trivial,trivial,cT 0,trivial⟩ (Fu s E M S (fun v hv=>WE v (eW _ hv)) n Zo hl ao cap _ _ rfl Zo) fun v s1 A' cP ⟨hv,M',YT,Qg,hA⟩=>⟨.ik [],Zl,hv.symm,?_⟩
  subst hA
  refine pC ?_
  have lJ:(E++M').length=E.length+20:=by rw[af];omega
  refine an (⟨s1,E++M',L0++M,S⟩:StS) ⟨al.le_trans hle cP,hD.snoc YT Zo e1,by dsimp only;rw[hL,av],by dsimp only;omega⟩ (by dsimp only;rw[af];omega) rfl ?_ Zs ?_ ⟨trivial,trivial,cT 0,trivial,trivial,trivial,trivial⟩ trivial
  ·refine⟨rfl,rfl,rfl,rfl,?_,?_,trivial⟩
   ·exact aN (fun z=>some (SV.a (AT.v (Value.int .i64 z)))) (show((E.length+20:Nat):Int)=(((E++M').length:Nat):Int) by omega)
   ·exact aN (fun z=>some (SV.a (AT.v (Value.int .i64 z)))) (show((E.length+20:Nat):Int)+20=(((E++M').length+20:Nat):Int) by omega)
  ·show [_]=[_]
   dsimp only
   rw[av]
 have h:=ab h
 have er:E++R=E++(R++[]):=by rw[aL]
 rw[er]
 refine Ze ?_
 refine dT [0] (A0:=[lZ ao n cap (E++(R++[]))]) (Ar:=[]) Z Z Z Z Z Z Z Tryz.call220 ⟨trivial,trivial,trivial,cT 0,trivial⟩ (Fu s E R [] WE n (by rw[List.length_nil];omega) hl ao cap _ _ rfl Zo) fun v s1 A' cP ⟨hv,R',hR',hRl,hA⟩=>⟨.ik [],Zl,hv.symm,?_⟩
 subst hA
 have ag1:=hD.run (BD.last (bs:=20) hRl Zo hR')
 rw[<-hL] at ag1
 have hle:=al.le_trans hle cP
 rw[show R'++[]=R' from aL _]
 have JL:(E++R').length=n:=by rw[af];omega
 generalize E++R'=D0 at *
 clear hRl hR' hD hlen er WE
 refine Hz ?_
 refine bX (fun(t:SuS)=>t.s) (fun t=>[(0,.a (.v (.slice ao n cap))),(1,.a (.v (.int .i64 n))),(2,.a (.fn (.func 124) [])),(6,.a (.v (.int .i64 (t.bs:Nat))))]) (fun _=>[]) (fun t=>[lZ ao n cap t.D]) 0
  (fun t=>σ.le t.s/\0<t.bs/\BD t.bs t.D L/\t.D.length=n) (fun t=>n - t.bs) ⟨s1,20,D0⟩ ⟨hle,by show 0<20;omega,ag1,JL⟩ rfl Zs Zs rfl ⟨trivial,trivial,cT 0,trivial,trivial⟩ trivial fun⟨s,bs,D⟩ ⟨hle,hbs,hR,JL⟩=>?_
 dsimp only at hle hbs hR JL ⊢
 refine Za ?_
 refine aG rfl (fun h=>?_) (fun h=>?_)
 rotate_left
 ·have h:=ab h
  refine Ze ?_
  refine nU TT rfl fun β w' _ _=>?_
  exact⟨rfl,D,hR.small Zo,JL,rfl⟩
 have h:=ae h
 have hbn:bs<n:=by omega
 refine Zd ?_
 refine CD Z Z Z Z Z Z Zo (aM TT rfl ?_)
 refine Zd ?_
 refine bX (fun(t:SvS)=>t.s) (fun t=>[(0,.a (.v (.slice ao n cap))),(1,.a (.v (.int .i64 n))),(2,.a (.fn (.func 124) [])),(6,.a (.v (.int .i64 bs))),(7,.a (.v (.int .i64 (t.E.length:Nat)))),(8,.a (.v (.int .i64 ((t.E.length+2*bs:Nat):Int))))]) (fun _=>[]) (fun t=>[lZ ao n cap (t.E++t.R)]) 0
  (fun t=>σ.le t.s/\Hi (2*bs) t.E t.L0/\BD bs t.R t.K/\L=t.L0++t.K/\t.E.length+t.R.length=n) (fun t=>t.R.length) ⟨s,[],[],D,L⟩ ⟨hle,Hi.nil,hR,rfl,by show 0+D.length=n;omega⟩ rfl ?_ Zs rfl ⟨trivial,trivial,cT 0,trivial,trivial,trivial,trivial⟩ trivial fun⟨s,E,L0,R,K⟩ ⟨hle,hD,hR,hL,hlen⟩=>?_
 ·refine⟨rfl,rfl,rfl,rfl,rfl,?_,trivial⟩
  exact aN (fun z=>some (SV.a (AT.v (Value.int .i64 z)))) (show(2:Int)*bs=(((([]:List Vd).length+2*bs:Nat)):Int) by rw[List.length_nil];omega)
 dsimp only at hle hD hR hL hlen ⊢
 have WE:∀ v∈R,qV s v:=fun v hv=>(okL v (by rw[hL];exact gH _ (hR.mem hv))).mono hle
 refine Za ?_
 refine aG rfl (fun h=>?_) (fun h=>?_)
 ·have h:=ae h
  obtain⟨A,B,R',KA,KB,K',rfl,rfl,hA,hB,hKA,hKB,sA,sB,hR'⟩:=hR.two hbs Zo
  rw[af,af] at hlen
  refine Zg ?_
  refine dT [0] (A0:=[lZ ao n cap (E++(A++(B++R')))]) (Ar:=[]) Z Z Z Z Z Z Z Tryz.call221 ⟨trivial,trivial,trivial,trivial,cT 0,trivial⟩ (Wz (A.length+B.length) s E A B R' (aq _) sA.Oj sB.Oj Zo Zo (fun v hv=>WE v (eW _ hv)) (fun v hv=>WE v (gH _ (eW _ hv))) n Zo hl ao cap _ _ _ rfl Zo Zo) fun v s1 A' cP ⟨hv,M,hM,Qg,hA'⟩=>⟨.ik [],Zl,hv.symm,?_⟩
  subst hA'
  refine gX ?_
  refine CD Z Z Z Z Z Z Zo (aM TT rfl ?_)
  refine Zc ?_
  have lJ:(E++M).length=E.length+2*bs:=by rw[af];omega
  refine an (⟨s1,E++M,L0++(KA++KB),R',K'⟩:SvS) ⟨al.le_trans hle cP,hD.snoc (hM.Z6 sA sB) Zo (by rw[af];omega),hR',by dsimp only;rw[hL];simp only[av],by dsimp only;omega⟩ (by dsimp only;simp only[af];omega) rfl ?_ Zs ?_ ⟨trivial,trivial,cT 0,trivial,trivial,trivial,trivial⟩ trivial
  ·refine⟨rfl,rfl,rfl,rfl,?_,?_,trivial⟩
   ·exact aN (fun z=>some (SV.a (AT.v (Value.int .i64 z)))) (show((E.length+2*bs:Nat):Int)=(((E++M).length:Nat):Int) by omega)
   ·exact aN (fun z=>some (SV.a (AT.v (Value.int .i64 z)))) (show((E.length+2*bs:Nat):Int)+2*(bs:Int)=(((E++M).length+2*bs:Nat):Int) by omega)
  ·show [_]=[_]
   dsimp only
   rw[av]
 have h:=ab h
 refine Zg ?_
 refine aG rfl (fun h1=>?_) (fun h1=>?_)
 ·have h1:=ae h1
  obtain⟨A,B,KA,KB,rfl,rfl,hA,hKA,sA,hRB⟩:=hR.one Zo
  rw[af] at hlen
  have sB:=hRB.small Zo
  have hBl:=hRB.len
  have er:E++(A++B)=E++(A++(B++[])):=by rw[aL]
  rw[er]
  refine Za ?_
  refine dT [0] (A0:=[lZ ao n cap (E++(A++(B++[])))]) (Ar:=[]) Z Z Z Z Z Z Z Tryz.call221 ⟨trivial,trivial,trivial,trivial,cT 0,trivial⟩ (Wz (A.length+B.length) s E A B [] (aq _) sA.Oj sB.Oj Zo Zo (fun v hv=>WE v (eW _ hv)) (fun v hv=>WE v (gH _ hv)) n (by rw[List.length_nil];omega) hl ao cap _ _ _ rfl Zo Zo) fun v s1 A' cP ⟨hv,M,hM,Qg,hA'⟩=>⟨.ik [],Zl,hv.symm,?_⟩
  subst hA'
  refine gX ?_
  refine CD Z Z Z Z Z Z Zo (aM TT rfl ?_)
  refine Zc ?_
  refine an (⟨s1,2*bs,E++M⟩:SuS) ⟨al.le_trans hle cP,by dsimp only;omega,by dsimp only;rw[hL];exact hD.run (BD.last (by rw[af];omega) Zo (hM.Z6 sA sB)),by dsimp only;rw[af];omega⟩ (by dsimp only;omega) rfl ?_ Zs ?_ ⟨trivial,trivial,cT 0,trivial,trivial⟩ trivial
  ·refine⟨rfl,rfl,rfl,?_,trivial⟩
   exact aN (fun z=>some (SV.a (AT.v (Value.int .i64 z)))) (show(bs:Int)*2=((2*bs:Nat):Int) by omega)
  ·show [_]=[_]
   rw[show M++[]=M from aL _]
 ·have h1:=ab h1
  have sR:=hR.small Zo
  have hRl:=hR.len
  refine Zc ?_
  refine CD Z Z Z Z Z Z Zo (aM TT rfl ?_)
  refine Zc ?_
  refine an (⟨s,2*bs,E++R⟩:SuS) ⟨hle,by dsimp only;omega,by dsimp only;rw[hL];exact hD.run (BD.last hRl Zo sR),by dsimp only;rw[af];omega⟩ (by dsimp only;omega) rfl ?_ Zs rfl ⟨trivial,trivial,cT 0,trivial,trivial⟩ trivial
  refine⟨rfl,rfl,rfl,?_,trivial⟩
  exact aN (fun z=>some (SV.a (AT.v (Value.int .i64 z)))) (show(bs:Int)*2=((2*bs:Nat):Int) by omega)
theorem Gb(σ:al)(L:List Vd)(okL:∀ v∈L,qV σ v)(n:Nat)(hn:L.length=n)(hl:n<=1000000)(ao:Option Addr)(cap:Nat):
  pV Tryz.prog 123 [.a (.v (.slice ao n cap)),.a (.fn (.func 124) [])] σ [lZ ao n cap L] (fun v _ A'=>v=.tuple #[]/\∃ M,gD fX M L/\M.length=n/\A'=[lZ ao n cap M]):=by
 refine fk Tryz.func123 Z Z ⟨trivial,cT 0,trivial⟩ fun w=>?_
 refine Za ?_
 refine dT [0] (A0:=[lZ ao n cap L]) (Ar:=[]) Z Z Z Z Z Z Z Tryz.call186 ⟨trivial,trivial,cT 0,trivial⟩ (QB σ L okL n hn hl ao cap) fun v s1 A' cP ⟨hv,M,hM,Qg,hA⟩=>⟨.ik [],Zl,hv.symm,?_⟩
 subst hA
 refine lP ?_
 refine nU TT rfl fun β w' _ _=>?_
 exact⟨rfl,M,hM,Qg,rfl⟩
end Go.Sy
namespace Go.Sy
open Go.Proofs
section
variable {cf:Cf} {Q:Exit->Act->World->Prop} {σ:al} {env:Env} {hp:HP} {A:List AE} {nh:Nat} {it:Item} {rest:List Item}
theorem U8{d:Nat}{x y:Operand}{t yt e:TypeId}{T:List (Nat×TI)}(hT:cu cf.P T){ti:TI}{ao:Option Addr}{n c n' c':Nat}(fL:it.o.op=.binOp .neq t x y yt)(hd:it.o.dst=some d)(hg:bt it.guard env=some true)(hN:Nat.blt d cf.N=true)(hx:bP env x=some (.a (.v (.slice ao n c))))(hy:bP env y=some (.a (.v (.slice none n' c'))))(ht:eX T t=some ti)(xi:ti.kind=.slice e)(hk:OJ cf rest Q σ ((d,.a (.b (!ao.isNone)))::env) hp A nh): OJ cf (it::rest) Q σ env hp A nh:=by
 refine jB (.a (.b (!ao.isNone))) hd hg hN trivial (fun _ a β ha w=>?_) hk
 have Bn:=qz (hT _ _ ht) xi
 have h1:a.eval x=.slice ao n c:=aD ha hx
 have h2:a.eval y=.slice none n' c':=aD ha hy
 have hE:(Op.equal t (.slice ao n c) (.slice none n' c')).run cf.P w=.ok ao.isNone w:=ER Bn 9999 ao n c n' c' w
 have hG:(eqGuard .neq t x y (.slice ao n c) (.slice none n' c')).run cf.P w=.ok () w:=rfl
 have hB:(binOp .neq t (.slice ao n c) (.slice none n' c')).run cf.P w=.ok (.bool (!ao.isNone)) w:=by
  simp only[binOp,Sem.run_bind,hE,Result.andThen_ok,Sem.run_pure]
 simp only[execOp,fL,h1,h2,Sem.run_bind,hG,hB,Result.andThen_ok,Sem.run_pure]
 rfl
end
def DR (ds:List eh) (line:Int) (p q:dz) (T:List cq):Prop :=
 if dm p=true/\dm q=true then gD (O0 (qZ ds)) T ((lX (fun k=>decide (k=line)) ds).filter fun x=>P8 (cj p) (cj q) (qZ ds x)) else T=[]
theorem gD.items{κ:cq->List UInt8}{M V:List Vd}(h:gD fX M V)(hz:∀ v∈V,v.z=κ v.it): gD (O0 κ) (M.map Vd.it) (V.map Vd.it):=by
 have hm:∀ v∈M,v.z=κ v.it:=fun v hv=>hz v ((h.mem mI).1 hv)
 refine⟨?_,fun x=>?_⟩
 ·unfold BB
  rw[List.pairwise_map]
  have hs:=h.Oj
  unfold BB at hs
  refine List.Pairwise.imp_of_mem ?_ hs
  intro a b ha hb YQ
  unfold O0
  rw[<-hm a ha,<-hm b hb]
  exact YQ
 ·rw[List.filter_map,List.filter_map]
  congr 1
  by_cases he:∃ v0∈V,v0.z=κ x
  ·obtain⟨v0,_,he⟩:=he
   have hc:=h.cls v0
   have key:∀ v,v.z=κ v.it->(eqv (O0 κ) x ∘ Vd.it) v=eqv fX v0 v:=fun v hv=>by
    show eqv (O0 κ) x v.it=_
    unfold eqv O0 fX
    rw[<-hv,<-he]
   rw[List.filter_congr (fun v hv=>key v (hm v hv)),List.filter_congr (fun v hv=>key v (hz v hv))]
   exact hc
  ·have key:∀ v,v∈V->(eqv (O0 κ) x ∘ Vd.it) v=false:=fun v hv=>by
    show eqv (O0 κ) x v.it=false
    rw[<-Bool.not_eq_true,ai6]
    intro e
    exact he ⟨v,hv,by rw[hz v hv,e]⟩
   rw[List.filter_eq_nil_iff.2 (fun v hv=>by rw[key v ((h.mem mI).1 hv)];decide),List.filter_eq_nil_iff.2 (fun v hv=>by rw[key v hv];decide)]
theorem N7(V:List Vd)(x:Vd): BK V++(dJ x).map AT.val=BK (V++[x]):=by
 simp[BK]
theorem El{α β:Type}{l:List α}{k:Nat}{x:α}(f:α->β)(h:l[k]?=some x): (l.take (k+1)).map f=(l.take k).map f++[f x]:=by
 obtain⟨hk,rfl⟩:=ah.1 h
 rw[ak hk,aF]
 rfl
structure BtS where
 s:al
 k:Nat
 V:List Vd
 so:Option Addr
 sc:Nat
structure BxS where
 k:Nat
 oo:Option Addr
 oc:Nat
theorem P2(σ:al)(m:Int)(hm:σ.cell ⟨0,0,none⟩=some (.int .i64 m))(X:kR)(IX:iS σ X)(hl:X.ds.length<=100)(hd:∀ d∈X.ds,d.ids.length=d.L.length/\d.L.length<=10000)(ho:X.ds.Pairwise fun x y=>x.id<y.id)(hF:yn X)(line:Int)(p q:dz)(hp:p.n.dg.size<=bJ/\p.s.size<=1000000)(hq:q.n.dg.size<=bJ/\q.s.size<=1000000):
  fa Tryz.prog 47 [.agg (aA X),.a (.v (.int .i64 line)),.agg (cc p),.agg (cc q)] σ (fun v bD=>∃ T oo oc,v=.slice oo T.length oc/\DR X.ds line p q T/\T.length<=1000000/\(∀ x∈T,x∈lX (fun k=>decide (k=line)) X.ds)/\bu bD oo T.length oc 5 (eP T)):=by
 refine ek Tryz.func47 Z Z ⟨az 0 X,trivial,bT 0 p,bT 0 q,trivial⟩ fun w=>?_
 refine Za ?_
 refine ck [(0,.quiet),(2,.quiet),(1,.dP),(3,.dP),(4,.pure),(5,.pure)] mixed Zk (aM TT rfl ?_)
 refine cr 18 (.agg (cc p)) rfl (bT _ _) (fun _=>rfl) ?_
 refine bN (ys:=[.agg (cc p)]) Z Z Z Z Z Tryz.call117 ⟨bT 0 p,trivial⟩ (Gh σ m hm p hp) fun v s1 cP ⟨wo,wc,hv,HW,hn⟩=>⟨.a (.v (.slice wo (cj p).length wc)),trivial,hv.symm,?_⟩
 have IX:=IX.mono cP
 have hm:=cP.cell hm
 refine Zr ?_
 refine cr 20 (.agg (cc q)) rfl (bT _ _) (fun _=>rfl) ?_
 refine bN (ys:=[.agg (cc q)]) Z Z Z Z Z Tryz.call117 ⟨bT 0 q,trivial⟩ (Gh s1 m hm q hq) fun v s2 cw ⟨xo,xc,hv,HX,qt⟩=>⟨.a (.v (.slice xo (cj q).length xc)),trivial,hv.symm,?_⟩
 have IX:=IX.mono cw
 have hm:=cw.cell hm
 have HW:=HW.mono cw
 refine pC ?_
 by_cases Vv:dm p=true
 rotate_left
 ·have h:dm p=false:=by simpa using Vv
  have CW:=hn (qC.2 h)
  subst CW
  refine ax 24 rfl (fun _=>?_) (fun h=>absurd h (by simp))
  refine gn ?_
  refine aw TT rfl fun β w' _ _=>?_
  exact⟨[],none,0,rfl,by unfold DR;rw[ai (fun h=>Vv h.1)],ay _,fun x hx=>(by cases hx),bu.nil _ none 0 5⟩
 obtain⟨wa,rfl⟩:=HW.Wj (List.length_pos_iff.2 (qm Vv))
 refine ax 24 rfl (fun h=>absurd h (by simp)) (fun _=>?_)
 refine pC ?_
 by_cases Vu:dm q=true
 rotate_left
 ·have h:dm q=false:=by simpa using Vu
  have CW:=qt (qC.2 h)
  subst CW
  refine aG rfl (fun _=>?_) (fun h=>absurd h (by simp))
  refine Zb ?_
  refine aw TT rfl fun β w' _ _=>?_
  exact⟨[],none,0,rfl,by unfold DR;rw[ai (fun h=>Vu h.2)],ay _,fun x hx=>(by cases hx),bu.nil _ none 0 5⟩
 obtain⟨xa,rfl⟩:=HX.Wj (List.length_pos_iff.2 (qm Vu))
 refine aG rfl (fun h=>absurd h (by simp)) (fun _=>?_)
 have hlen:=xJ (q:=fun k=>decide (k=line)) (n:=10000) (k:=100) (fun d h=>(hd d h).2) hl
 refine Zd ?_
 refine cr 28 (.agg (aA X)) rfl (az _ _) (fun _=>rfl) ?_
 refine dT [] (A0:=[]) (Ar:=[]) (ys:=[.agg (aA X),.a (.v (.int .i64 line))]) Z Z Z Z Z Z Z Tryz.call100 ⟨az 0 X,trivial,trivial⟩ (Wo s2 X IX Zo (fun d h=>⟨(hd d h).1,by have:=(hd d h).2;omega⟩) line) fun v s3 A' kV ⟨oo,oc,hv,j6,hA⟩=>⟨.a (.v (.slice oo (lX (fun k=>decide (k=line)) X.ds).length oc)),trivial,hv.symm,?_⟩
 subst hA
 refine iI 0 Z Z Z fun s4 pM hS=>?_
 have HO:=ny hS j6
 have Ns:=al.le_trans kV pM
 have IX:=IX.mono Ns
 have hm:=Ns.cell hm
 have HW:=HW.mono Ns
 have HX:=HX.mono Ns
 generalize hLi:lX (fun k=>decide (k=line)) X.ds=Li at *
 refine Hz ?_
 refine dV 220 6 ?_
 refine bX (fun(t:BtS)=>t.s) (fun t=>[(4,.a (.p 0 0)),(9,.a (.v (.slice (some wa) (cj p).length wc))),(10,.a (.v (.slice (some xa) (cj q).length xc))),(11,.a (.v (.slice t.so t.V.length t.sc))),(30,.a (.v (.slice oo Li.length oc))),(31,.a (.v (.int .i64 Li.length))),(32,.a (.v (.int .i64 (t.k:Nat))))]) (fun _=>[(0,.loc 60,aA X)]) (fun t=>[lZ t.so t.V.length t.sc t.V]) 1
  (fun t=>s4.le t.s/\t.k<=Li.length/\t.V.map Vd.it=(Li.take t.k).filter (fun x=>P8 (cj p) (cj q) (qZ X.ds x))/\(∀ v∈t.V,qV t.s v/\v.z=qZ X.ds v.it)/\t.V.length<=t.sc) (fun t=>Li.length - t.k) ⟨s4,0,[],none,0⟩ ⟨al.le_refl _,ay _,rfl,fun v hv=>(by cases hv),aq _⟩ rfl Zs Zs rfl Zl Zl fun⟨s,k,V,so,sc⟩ ⟨hle,hk,hV,NA,pb⟩=>?_
 dsimp only at hle hk hV NA pb ⊢
 have IX:=IX.mono hle
 have hm:=hle.cell hm
 have HW:=HW.mono hle
 have HX:=HX.mono hle
 have HO:=HO.mono hle
 have hVl:V.length<=k:=by
  have:=aN List.length hV
  rw[aR] at this
  have h2:=lx (fun x=>P8 (cj p) (cj q) (qZ X.ds x)) (Li.take k)
  rw[aE] at h2
  omega
 refine Za ?_
 refine aG rfl (fun h=>?_) (fun h=>?_)
 ·have cz:k<Li.length:=by have:=ae h;omega
  have hx:=aa cz
  have bU:=ld hx
  have mi:Li.take (k+1)=Li.take k++[Li[k]]:=ak cz
  generalize Li[k]=x at *
  have hB:=Fs s m hm X IX Zo ho hF x
  generalize hz:qZ X.ds x=z at *
  have l8:∀ b:Bool,P8 (cj p) (cj q) z=b->(Li.take (k+1)).filter (fun x=>P8 (cj p) (cj q) (qZ X.ds x))=V.map Vd.it++if b then [x] else []:=fun b hb=>by
   rw[mi,eu,hV,dS,hz,hb]
   cases b<;>rfl
  refine Zd ?_
  refine bk TT Z Z Z Z Z Z Z Z Z HO Zo bU (Zr ?_)
  refine Za ?_
  refine cr 36 (.agg (aA X)) rfl (az _ _) (fun _=>rfl) ?_
  refine cr 37 (.agg (cm x)) rfl (b6 _ _) (fun _=>rfl) ?_
  refine bN (ys:=[.agg (aA X),.agg (cm x)]) Z Z Z Z Z Tryz.call121 ⟨az 0 X,b6 0 x,trivial⟩ hB fun v s' nY ⟨zo,zc,hv,HZ,hnz⟩=>⟨.a (.v (.slice zo z.length zc)),trivial,hv.symm,?_⟩
  have hle:=al.le_trans hle nY
  have NA:∀ v∈V,qV s' v/\v.z=qZ X.ds v.it:=fun v hv=>⟨(NA v hv).1.mono nY,(NA v hv).2⟩
  have HW:=HW.mono nY
  have HX:=HX.mono nY
  refine gX ?_
  refine U8 TT Z Z Z Z Z Z Z Z (Zr ?_)
  by_cases hz0:z=[]
  ·have hzo:=hnz hz0
   subst hzo
   have hb:=l8 false (by rw[hz0];rfl)
   refine ax 41 rfl (fun h=>absurd h (by simp)) (fun _=>?_)
   refine pC ?_
   refine an (⟨s',k+1,V,so,sc⟩:BtS) ⟨hle,cz,by dsimp only;rw[hb];exact(aL _).symm,NA,pb⟩ (by dsimp only;omega) rfl Zs Zs rfl Zl Zl
  obtain⟨za,rfl⟩:=HZ.Wj (List.length_pos_iff.2 hz0)
  refine ax 41 rfl (fun _=>?_) (fun h=>absurd h (by simp))
  refine Zr ?_
  refine aT Z Z Z Z Z Tryz.call122 Zl (xg s' z (cj p) (some za) zc HZ (some wa) wc HW) fun v hv=>⟨.a (.v (.int .i64 (Lib.compareBytes z (cj p)))),trivial,hv.symm,?_⟩
  refine Zr ?_
  refine ax 47 rfl (fun h1=>?_) (fun h1=>?_)
  rotate_left
  ·have h1:¬ 0<=Lib.compareBytes z (cj p):=by have:=ab h1;omega
   have hb:=l8 false (by rw[<-Bool.not_eq_true,vE];exact fun h=>h1 h.2.1)
   refine pC ?_
   refine an (⟨s',k+1,V,so,sc⟩:BtS) ⟨hle,cz,by dsimp only;rw[hb];exact(aL _).symm,NA,pb⟩ (by dsimp only;omega) rfl Zs Zs rfl Zl Zl
  have h1:0<=Lib.compareBytes z (cj p):=by have:=ae h1;omega
  refine Zr ?_
  refine aT Z Z Z Z Z Tryz.call122 Zl (xg s' z (cj q) (some za) zc HZ (some xa) xc HX) fun v hv=>⟨.a (.v (.int .i64 (Lib.compareBytes z (cj q)))),trivial,hv.symm,?_⟩
  refine gX ?_
  refine aG rfl (fun h2=>?_) (fun h2=>?_)
  rotate_left
  ·have h2:¬ Lib.compareBytes z (cj q)<0:=ab h2
   have hb:=l8 false (by rw[<-Bool.not_eq_true,vE];exact fun h=>h2 h.2.2)
   refine Zc ?_
   refine an (⟨s',k+1,V,so,sc⟩:BtS) ⟨hle,cz,by dsimp only;rw[hb];exact(aL _).symm,NA,pb⟩ (by dsimp only;omega) rfl Zs Zs rfl Zl Zl
  have h2:Lib.compareBytes z (cj q)<0:=ae h2
  have hb:=l8 true (vE.2 ⟨hz0,h1,h2⟩)
  refine Za ?_
  refine bl TT 0 Z Z Z Z Z Z Z Z Z Z Z Z Z Z Z Z Z Z (df 0 ⟨some za,zc,z,x⟩) rfl Zo (by show(V.length+1)*64<=_;omega) fun Om It aq7=>aM TT rfl ?_
  refine Zc ?_
  have lJ:(V++[(⟨some za,zc,z,x⟩:Vd)]).length=V.length+1:=by simp
  refine an (⟨s',k+1,V++[⟨some za,zc,z,x⟩],Om,It⟩:BtS) ⟨hle,cz,by dsimp only;rw[hb,aF];rfl,fun v hv=>?_,by dsimp only;omega⟩ (by dsimp only;omega) rfl ?_ Zs ?_ Zl Zl
  ·rcases bz.1 hv with hv | hv
   ·exact NA v hv
   ·rw[aU] at hv
    subst hv
    exact⟨HZ,hz.symm⟩
  ·dsimp only
   rw[lJ]
   (repeat first | exact trivial | refine⟨rfl,?_⟩)
  ·show [_]=[_]
   dsimp only
   unfold lZ
   rw[lJ,<-N7]
   rfl
 have fQ:k=Li.length:=by have:=ab h;omega
 rw[fQ,aI] at hV
 refine Ze ?_
 refine dT [0] (A0:=[lZ so V.length sc V]) (Ar:=[]) Z Z Z Z Z Z Z Tryz.call123 ⟨trivial,cT 0,trivial⟩ (Gb s V (fun v hv=>(NA v hv).1) V.length rfl Zo so sc) fun v s5 A' wX ⟨hv,M,hM,Qg,hA⟩=>⟨.ik [],Zl,hv.symm,?_⟩
 subst hA
 have hT:=hM.items (κ:=qZ X.ds) (fun v hv=>(NA v hv).2)
 rw[hV] at hT
 have hbt:DR X.ds line p q (M.map Vd.it):=by
  unfold DR
  rw[au ⟨Vv,Vu⟩,hLi]
  exact hT
 have sm:∀ x∈M.map Vd.it,x∈Li:=fun x hx=>(jw.1 ((hT.mem (ab8 _)).1 hx)).1
 refine Zr ?_
 refine iu ?_
 refine dV 71 5 ?_
 refine Zd ?_
 refine bX (fun(_:BxS)=>s5) (fun t=>[(15,.a (.v (.slice t.oo ((M.take t.k).map Vd.it).length t.oc))),(62,.a (.v (.slice so V.length sc))),(63,.a (.v (.int .i64 V.length))),(64,.a (.v (.int .i64 (t.k:Nat))))]) (fun _=>[]) (fun t=>[lZ so V.length sc M,Hq t.oo t.oc ((M.take t.k).map Vd.it)]) 0
  (fun t=>t.k<=M.length/\t.k<=t.oc) (fun t=>M.length - t.k) ⟨0,none,0⟩ ⟨ay _,aq _⟩ rfl Zs Zs rfl Zl Zl fun⟨k,oo,oc⟩ ⟨hk,j6⟩=>?_
 dsimp only at hk j6 ⊢
 have LU:((M.take k).map Vd.it).length=k:=by rw[aR,aE];omega
 refine Za ?_
 refine aG rfl (fun h=>?_) (fun h=>?_)
 ·have cz:k<M.length:=by have:=ae h;omega
  have hx:=aa cz
  have hsu:=El Vd.it hx
  generalize M[k]=y at *
  refine jd 0 (E:=lZ so V.length sc M) rfl (show 0<V.length by omega) fun gb rV=>?_
  have rV:so=some ⟨gb,0,none⟩:=rV
  subst rV
  refine Zd ?_
  refine br TT Z Z Z Z Z Z Z Z Z ⟨by omega,by omega⟩ (Zr ?_)
  refine jD 0 (off:=k*6) TT (dJ y) Z Z Z Z Z (af9 gb _ _ rfl) Z Z Z Z Z (fun j c hc=>iJ hx j c hc) (df 0 y) (Zr ?_)
  refine Za ?_
  refine bl TT 1 Z Z Z Z Z Z Z Z Z Z Z Z Z Z Z Z Z Z (b6 0 y.it) rfl Zo (by rw[LU];show(k+1)*40<=_;omega) fun om nE lS=>aM TT rfl ?_
  refine Zc ?_
  rw[LU] at lS
  have lJ:((M.take (k+1)).map Vd.it).length=k+1:=by rw[aR,aE];omega
  refine an (⟨k+1,om,nE⟩:BxS) ⟨cz,by dsimp only;omega⟩ (by dsimp only;omega) rfl ?_ Zs ?_ Zl Zl
  ·dsimp only
   rw[lJ,LU]
   (repeat first | exact trivial | refine⟨rfl,?_⟩)
  ·show [_,_]=[_,_]
   dsimp only
   unfold Hq
   rw[lJ,LU,hsu,<-sj]
   rfl
 have fQ:k=M.length:=by have:=ab h;omega
 subst fQ
 rw[aI] at LU ⊢
 refine Ze ?_
 refine dD 1 Z Z fun s6 AR hS=>?_
 refine aw TT rfl fun β w' _ _=>?_
 exact⟨M.map Vd.it,oo,oc,rfl,hbt,by rw[LU,Qg];omega,fun x hx=>sm x hx,ny hS (by rw[LU];exact j6)⟩
end Go.Sy
namespace Go.Sy
open Go.Proofs
theorem Bt(p:dz): qO [p]=(cj p,if dm p=true then 0 else 1):=by
 rw[J5]
 unfold cj
 cases dm p<;>rfl
theorem QV(σ:al)(r:aH)(h1:r.n.dg.size<=bJ)(h2:r.s.size<=1000000):
  fa Tryz.prog 134 [.agg (di r)] σ (fun v bD=>∃ bo bc,v=.tuple #[.slice bo (cj (iT r).1).length bc,.bool ((iT r).2&&dm (iT r).1)]/\bu bD bo (cj (iT r).1).length bc 1 (gM (cj (iT r).1))):=by
 have lj:=yT r h1 h2
 refine ek Tryz.func134 Z Z ⟨fP 0 r,trivial⟩ fun w=>?_
 refine Za ?_
 refine aT (ys:=[.agg (dN (aJ.mk r.kd r.b r.n r.s [] [] []) none 0 none 0)]) Z Z Z Z Z Tryz.call194 ⟨dF 0 _ _ _ _ _,trivial⟩ (Wl σ (aJ.mk r.kd r.b r.n r.s [] [] []) none 0 none 0) fun v hv=>⟨.ik [.agg (cc (iT r).1),.a (.b (iT r).2)],(by intro x hx;simp only[bM,dA,or_false] at hx;rcases hx with rfl | rfl;exact bT 0 _;trivial),hv.symm,?_⟩
 generalize (iT r).1=p at *
 generalize (iT r).2=ok at *
 refine gX ?_
 refine gP 2 1 7 rfl (bT 0 _) rfl (by decide) fun g5=>?_
 refine iI 0 Z Z Z fun s1 cP hS=>?_
 have HP:bu s1 (some ⟨g5,0,none⟩) ([p]:List dz).length 1 7 (m6 [p]):=qn (t:=105) (l:=[p]) hS (aq _)
 have hE:=vP s1 [p] (by show 1<=_;omega) (fun q hq=>by rw[aU] at hq;subst hq;exact lj) _ _ HP
 rw[Bt] at hE
 refine bN Z Z Z Z Z Tryz.call133 ⟨trivial,trivial⟩ hE fun v s2 cw ⟨bo,bc,hv,HB⟩=>⟨.ik [.a (.v (.slice bo (cj p).length bc)),.a (.v (.int .i64 (if dm p=true then 0 else 1)))],Zl,hv.symm,?_⟩
 refine gX ?_
 refine ax 29 rfl (fun h=>?_) (fun h=>?_)
 ·subst h
  refine gn ?_
  refine aw TT rfl fun β w' _ _=>?_
  refine⟨bo,bc,?_,HB⟩
  show Value.tuple #[.slice bo (cj p).length bc,.bool (decide ((if dm p=true then (0:Int) else 1)=0))]=_
  congr 3
  cases dm p<;>rfl
 ·subst h
  refine gn ?_
  refine aw TT rfl fun β w' _ _=>?_
  exact⟨bo,bc,rfl,HB⟩
structure EqS where
 s:al
 k:Nat
 o:List cq
 oo:Option Addr
 oc:Nat
theorem Nc{ds:List eh}{x:cq}{r:aH}(h:recAt ds x=some r)(hf:((iT r).2&&dm (iT r).1)=true): qZ ds x=cj (iT r).1:=by
 unfold qZ
 rw[h]
 rw[aQ] at hf
 dsimp only
 rw[au hf.1]
theorem Nd{ds:List eh}{x:cq}{r:aH}(h:recAt ds x=some r)(hf:((iT r).2&&dm (iT r).1)=false): qZ ds x=[]:=by
 unfold qZ
 rw[h]
 dsimp only
 split
 ·rename_i h1
  rw[h1,cp] at hf
  exact qC.2 hf
 ·rfl
theorem Q9(σ:al)(X:kR)(IX:iS σ X)(hl:X.ds.length<=100)(hd:∀ d∈X.ds,d.ids.length=d.L.length/\d.L.length<=10000)(ho:X.ds.Pairwise fun x y=>x.id<y.id)(hF:yn X)(line:Int)(p:dz)(hp:p.n.dg.size<=bJ/\p.s.size<=1000000):
  fa Tryz.prog 55 [.agg (aA X),.a (.v (.int .i64 line)),.agg (cc p)] σ (fun v bD=>∃ oo oc,v=.slice oo (Dn X.ds line p).length oc/\bu bD oo (Dn X.ds line p).length oc 5 (eP (Dn X.ds line p))):=by
 refine ek Tryz.func55 Z Z ⟨az 0 X,trivial,bT 0 p,trivial⟩ fun w=>?_
 refine Za ?_
 refine gP 2 1 7 rfl (bT 0 _) rfl (by decide) fun g5=>?_
 refine iI 0 Z Z Z fun s1 cP hS=>?_
 have HP:bu s1 (some ⟨g5,0,none⟩) ([p]:List dz).length 1 7 (m6 [p]):=qn (t:=105) (l:=[p]) hS (aq _)
 have hE:=vP s1 [p] (by show 1<=_;omega) (fun q hq=>by rw[aU] at hq;subst hq;exact hp) _ _ HP
 rw[Bt] at hE
 refine bN Z Z Z Z Z Tryz.call133 ⟨trivial,trivial⟩ hE fun v s2 cw ⟨wo,wc,hv,HW⟩=>⟨.ik [.a (.v (.slice wo (cj p).length wc)),.a (.v (.int .i64 (if dm p=true then 0 else 1)))],Zl,hv.symm,?_⟩
 generalize hEi:(if dm p=true then (0:Int) else 1)=Ei at *
 have IX:=IX.mono (al.le_trans cP cw)
 refine gX ?_
 refine cr 20 (.agg (aA X)) rfl (az _ _) (fun _=>rfl) ?_
 refine bN (ys:=[.agg (aA X),.a (.v (.int .i64 line))]) Z Z Z Z Z Tryz.call128 ⟨az 0 X,trivial,trivial⟩ (Q5 s2 X IX Zo (fun d h=>⟨(hd d h).1,by have:=(hd d h).2;omega⟩) line) fun v s3 kV ⟨lo,lc,hv,HO⟩=>⟨.a (.v (.slice lo (lX (fun k=>decide (k=line)) X.ds).length lc)),trivial,hv.symm,?_⟩
 have IX:=IX.mono kV
 have HW:=HW.mono kV
 have hlen:=xJ (q:=fun k=>decide (k=line)) (n:=10000) (k:=100) (fun d h=>(hd d h).2) hl
 have sm:=fun x=>Gr (q:=fun k=>decide (k=line)) (ds:=X.ds) (x:=x)
 generalize hLi:lX (fun k=>decide (k=line)) X.ds=Li at *
 refine Hz ?_
 refine dV 122 5 ?_
 refine bX (fun(t:EqS)=>t.s) (fun t=>[(3,.a (.p 0 0)),(7,.a (.v (.slice wo (cj p).length wc))),(8,.a (.v (.int .i64 Ei))),(9,.a (.v (.slice t.oo t.o.length t.oc))),(10,.a (.v (.slice lo Li.length lc))),(11,.a (.v (.int .i64 (t.k:Nat))))]) (fun _=>[(0,.loc 114,aA X)]) (fun t=>[UO t.oo t.oc t.o]) 1
  (fun t=>s3.le t.s/\t.k<=Li.length/\(t.k=0\/dm p=true)/\t.o=(Li.take t.k).filter (fun x=>decide (qZ X.ds x=cj p))/\t.o.length<=t.oc) (fun t=>Li.length - t.k) ⟨s3,0,[],none,0⟩ ⟨al.le_refl _,ay _,.inl rfl,rfl,aq _⟩ rfl Zs Zs rfl Zl Zl fun⟨s,k,o,oo,oc⟩ ⟨hle,hk,W3,ZC,j6⟩=>?_
 dsimp only at hle hk W3 ZC j6 ⊢
 have IX:=IX.mono hle
 have HW:=HW.mono hle
 have HO:=HO.mono hle
 have Hs:o.length<=k:=by
  rw[ZC]
  refine ep (lx _ _) ?_
  rw[aE]
  omega
 have Da:(k=Li.length\/dm p≠true)->o=Dn X.ds line p:=fun h=>by
  unfold Dn
  by_cases hr:dm p=true
  ·rw[au hr,hLi,ZC]
   rcases h with h | h
   ·rw[h,aI]
   ·exact absurd hr h
  ·rw[ai hr,ZC]
   rcases W3 with h0 | h0
   ·rw[h0]
    rfl
   ·exact absurd h0 hr
 refine Za ?_
 refine ax 27 rfl (fun h=>?_) (fun h=>?_)
 rotate_left
 ·have fQ:k=Li.length:=by have:=ab h;omega
  refine D2 ?_
  refine dD 0 Z Z fun s9 GN hS=>?_
  refine aw TT rfl fun β w' _ _=>?_
  rw[<-Da (.inl fQ)]
  exact⟨oo,oc,rfl,vk hS j6⟩
 have cz:k<Li.length:=by have:=ae h;omega
 refine gX ?_
 refine aG rfl (fun h=>?_) (fun h=>?_)
 rotate_left
 ·have hr:dm p≠true:=fun hr=>by
   have h:=ab h
   rw[<-hEi,au hr] at h
   exact h rfl
  refine Ze ?_
  refine dD 0 Z Z fun s9 GN hS=>?_
  refine aw TT rfl fun β w' _ _=>?_
  rw[<-Da (.inr hr)]
  exact⟨oo,oc,rfl,vk hS j6⟩
 have hr:dm p=true:=by
  have h:=ae h
  apply jJ
  intro hr
  rw[<-hEi,ai hr] at h
  exact absurd h (by decide)
 have hx:=aa cz
 have bU:=ld hx
 obtain⟨pp,n,d,r,Yj,Yo,yu⟩:=sm Li[k] (aP cz)
 have mi:Li.take (k+1)=Li.take k++[Li[k]]:=ak cz
 generalize Li[k]=x at *
 subst yu
 have Er:=IG ho Yj Yo
 have L3:=hF d (aC Yj) r (aC Yo)
 refine Zd ?_
 refine ck [(0,.quiet),(1,.pure),(2,.pure),(3,.pure),(4,.quiet),(5,.dP),(6,.dP),(7,.pure),(8,.pure),(9,.pure),(10,.pure),(11,.pure)] mixed Zk (aM TT rfl ?_)
 refine Zr ?_
 refine bk TT Z Z Z Z Z Z Z Z Z HO Zo bU (Zr ?_)
 refine cr 34 (.agg (aA X)) rfl (az _ _) (fun _=>rfl) ?_
 refine cr 38 (.agg (cm (dZ d.id r n))) rfl (b6 _ _) (fun _=>rfl) ?_
 refine aT (ys:=[.agg (aA X),.agg (cm (dZ d.id r n))]) Z Z Z Z Z Tryz.call135 ⟨az 0 X,b6 0 _,trivial⟩ (ET s X IX Zo ho pp n d r Yj Yo) fun v hv=>⟨.agg (di r),fP _ _,hv.symm,?_⟩
 refine Zr ?_
 refine bN (ys:=[.agg (di r)]) Z Z Z Z Z Tryz.call134 ⟨fP 0 r,trivial⟩ (QV s r L3.1 L3.2) fun v s' nY ⟨bo,bc,hv,HB⟩=>⟨.ik [.a (.v (.slice bo (cj (iT r).1).length bc)),.a (.b ((iT r).2&&dm (iT r).1))],Zl,hv.symm,?_⟩
 have hle:=al.le_trans hle nY
 have HW:=HW.mono nY
 have HO:=HO.mono nY
 have VD:=Nc (ds:=X.ds) Er
 have hi2:=Nd (ds:=X.ds) Er
 have jv:=qm hr
 generalize ((iT r).2&&dm (iT r).1)=fl at *
 generalize cj (iT r).1=z at *
 generalize dZ d.id r n=x at *
 have ua:qZ X.ds x≠cj p->o=(Li.take (k+1)).filter (fun x=>decide (qZ X.ds x=cj p)):=fun h=>by
  rw[mi,eu,<-ZC,dS,ai (by simpa using h),nJ,aL]
 refine gX ?_
 refine ax 44 rfl (fun h=>?_) (fun h=>?_)
 rotate_left
 ·have hs:=ua (by rw[hi2 h];exact fun h=>jv h.symm)
  refine pC ?_
  refine an (⟨s',k+1,o,oo,oc⟩:EqS) ⟨hle,cz,.inr hr,hs,j6⟩ (by dsimp only;omega) rfl Zs Zs rfl Zl Zl
 have VD:=VD h
 refine Zr ?_
 refine sf TT Z Z Z Z Z Z Z Z Z Z Z Z HB (Zr ?_)
 refine sf TT Z Z Z Z Z Z Z Z Z Z Z Z HW (Zr ?_)
 refine Za ?_
 refine aG rfl (fun h=>?_) (fun h=>?_)
 ·have h:z=cj p:=Bk (ae h)
  have hs:o++[x]=(Li.take (k+1)).filter (fun x=>decide (qZ X.ds x=cj p)):=by
   rw[mi,eu,<-ZC,dS,au (by rw[VD,h];simp),nJ]
  refine Za ?_
  refine bk TT Z Z Z Z Z Z Z Z Z HO Zo bU (Zr ?_)
  refine bl TT 0 Z Z Z Z Z Z Z Z Z Z Z Z Z Z Z Z Z Z (b6 0 x) rfl Zo (by show(o.length+1)*40<=_;omega) fun om nE lS=>aM TT rfl ?_
  refine Zc ?_
  have lJ:(o++[x]).length=o.length+1:=by simp
  refine an (⟨s',k+1,o++[x],om,nE⟩:EqS) ⟨hle,cz,.inr hr,hs,by dsimp only;omega⟩ (by dsimp only;omega) rfl ?_ Zs ?_ Zl Zl
  ·dsimp only
   rw[lJ]
   (repeat first | exact trivial | refine⟨rfl,?_⟩)
  ·show [_]=[_]
   dsimp only
   unfold UO
   rw[lJ,<-sj]
   rfl
 ·have h:¬ z=cj p:=fun e=>ab h (by rw[e])
  have hs:=ua (by rw[VD];exact h)
  refine Zc ?_
  refine an (⟨s',k+1,o,oo,oc⟩:EqS) ⟨hle,cz,.inr hr,hs,j6⟩ (by dsimp only;omega) rfl Zs Zs rfl Zl Zl
end Go.Sy
namespace Go.Sy
open Go.Proofs
theorem Bv: ∀ a b:List UInt8,ug a b=Lib.compareBytes a b
 | [],[]=>rfl
 | [],_::_=>rfl
 | _::_,[]=>rfl
 | x::a,y::b=>by
  unfold ug Lib.compareBytes
  rw[Bv a b]
def ni (V:List Vd):List (List AT):=V.map fun v=>[.v (.slice v.zo v.z.length v.zc)]
theorem N5{V:List Vd}{i:Nat}{v:Vd}(h:V[i]?=some v): (ni V)[i]?=some [.v (.slice v.zo v.z.length v.zc)]:=by unfold ni;rw[aO,h];rfl
theorem u9(V:List Vd): ∀ r∈ni V,r.length=1/\(∀ c∈r,c.lt 0)/\r.all AT.one=true:=by
 intro r hr
 obtain⟨v,_,rfl⟩:=bL.1 hr
 exact⟨rfl,fun c hc=>by rw[aU] at hc;subst hc;trivial,rfl⟩
theorem xl(a b:List Vd): ni (a++b)=ni a++ni b:=aF
def zrE (bo:Option Addr) (bc:Nat) (V:List Vd):AE:=⟨bo,V.length,bc,149,1,(ni V).flatten.map AT.val⟩
theorem N4{σ:al}{bo:Option Addr}{bc:Nat}{V:List Vd}(hS:b9 σ (zrE bo bc V))(hc:V.length<=bc): bu σ bo V.length bc 1 (ni V) :=
 hS.sl rfl (fun r hr=>⟨(u9 V r hr).1,(u9 V r hr).2.1⟩) (by simp[ni]) rfl hc
def jy (V:List Vd):List cq:=V.map Vd.it
structure TN where
 s:al
 k:Nat
 V:List Vd
 oo:Option Addr
 oc:Nat
 bo:Option Addr
 bc:Nat
theorem Lc(σ:al)(X:kR)(IX:iS σ X)(hl:X.ds.length<=100)(hd:∀ d∈X.ds,d.ids.length=d.L.length/\d.L.length<=10000)(ho:X.ds.Pairwise fun x y=>x.id<y.id)(hF:yn X)(line:Int)(p q:dz)(hp:p.n.dg.size<=bJ/\p.s.size<=1000000)(hq:q.n.dg.size<=bJ/\q.s.size<=1000000)(kM:(cj p).length<=10000000)(Vw:(cj q).length<=10000000)(hxb:∀ x,(qZ X.ds x).length<=10000000):
  fa Tryz.prog 56 [.agg (aA X),.a (.v (.int .i64 line)),.agg (cc p),.agg (cc q)] σ (fun v bD=>∃ T oo oc,v=.slice oo T.length oc/\DR X.ds line p q T/\bu bD oo T.length oc 5 (eP T)):=by
 refine ek Tryz.func56 Z Z ⟨az 0 X,trivial,bT 0 p,bT 0 q,trivial⟩ fun w=>?_
 refine Za ?_
 refine gP 3 1 7 rfl (bT 0 _) rfl (by decide) fun g5=>?_
 refine iI 0 Z Z Z fun s1 cP hS=>?_
 have HP:bu s1 (some ⟨g5,0,none⟩) ([p]:List dz).length 1 7 (m6 [p]):=qn (t:=105) (l:=[p]) hS (aq _)
 have hE:=vP s1 [p] (by show 1<=_;omega) (fun q hq=>by rw[aU] at hq;subst hq;exact hp) _ _ HP
 rw[Bt] at hE
 refine bN Z Z Z Z Z Tryz.call133 ⟨trivial,trivial⟩ hE fun v s2 cw ⟨wo,wc,hv,HW⟩=>⟨.ik [.a (.v (.slice wo (cj p).length wc)),.a (.v (.int .i64 (if dm p=true then 0 else 1)))],Zl,hv.symm,?_⟩
 generalize hEi:(if dm p=true then (0:Int) else 1)=Ei at *
 refine gX ?_
 refine gP 4 1 7 rfl (bT 0 _) rfl (by decide) fun g6=>?_
 refine iI 0 Z Z Z fun s3 kV hS=>?_
 have HP2:bu s3 (some ⟨g6,0,none⟩) ([q]:List dz).length 1 7 (m6 [q]):=qn (t:=105) (l:=[q]) hS (aq _)
 have hE2:=vP s3 [q] (by show 1<=_;omega) (fun r hr=>by rw[aU] at hr;subst hr;exact hq) _ _ HP2
 rw[Bt] at hE2
 refine bN Z Z Z Z Z Tryz.call133 ⟨trivial,trivial⟩ hE2 fun v s4 pM ⟨xo,xc,hv,HX⟩=>⟨.ik [.a (.v (.slice xo (cj q).length xc)),.a (.v (.int .i64 (if dm q=true then 0 else 1)))],Zl,hv.symm,?_⟩
 generalize hFi:(if dm q=true then (0:Int) else 1)=Fi at *
 have Sq:=al.le_trans (al.le_trans cP cw) (al.le_trans kV pM)
 have IX:=IX.mono Sq
 have HW:=HW.mono (al.le_trans kV pM)
 refine gX ?_
 refine cr 34 (.agg (aA X)) rfl (az _ _) (fun _=>rfl) ?_
 refine bN (ys:=[.agg (aA X),.a (.v (.int .i64 line))]) Z Z Z Z Z Tryz.call128 ⟨az 0 X,trivial,trivial⟩ (Q5 s4 X IX Zo (fun d h=>⟨(hd d h).1,by have:=(hd d h).2;omega⟩) line) fun v s5 wX ⟨lo,lc,hv,HO⟩=>⟨.a (.v (.slice lo (lX (fun k=>decide (k=line)) X.ds).length lc)),trivial,hv.symm,?_⟩
 have IX:=IX.mono wX
 have HW:=HW.mono wX
 have HX:=HX.mono wX
 have hlen:=xJ (q:=fun k=>decide (k=line)) (n:=10000) (k:=100) (fun d h=>(hd d h).2) hl
 have sm:=fun x=>Gr (q:=fun k=>decide (k=line)) (ds:=X.ds) (x:=x)
 generalize hLi:lX (fun k=>decide (k=line)) X.ds=Li at *
 refine Hz ?_
 refine bX (fun(t:TN)=>t.s) (fun t=>[(4,.a (.p 0 0)),(9,.a (.v (.slice wo (cj p).length wc))),(10,.a (.v (.int .i64 Ei))),(11,.a (.v (.slice xo (cj q).length xc))),(12,.a (.v (.int .i64 Fi))),(13,.a (.v (.slice t.oo t.V.length t.oc))),(14,.a (.v (.slice t.bo t.V.length t.bc))),(15,.a (.v (.slice lo Li.length lc))),(16,.a (.v (.int .i64 (t.k:Nat))))]) (fun _=>[(0,.loc 114,aA X)]) (fun _=>[]) 1
  (fun t=>s5.le t.s/\t.k<=Li.length/\(t.k=0\/dm p=true/\dm q=true)/\(∃ W,gD fX t.V W/\jy W=(Li.take t.k).filter (fun x=>P8 (cj p) (cj q) (qZ X.ds x))/\∀ v∈W,qV t.s v/\v.z=qZ X.ds v.it)/\t.V.length<=t.k/\bu t.s t.oo t.V.length t.oc 5 (eP (jy t.V))/\bu t.s t.bo t.V.length t.bc 1 (ni t.V)) (fun t=>Li.length - t.k) ⟨s5,0,[],none,0,none,0⟩
  ⟨al.le_refl _,ay _,.inl rfl,⟨[],gD.refl List.Pairwise.nil,rfl,fun v hv=>(by cases hv)⟩,aq _,bu.nil _ _ _ _,bu.nil _ _ _ _⟩ rfl Zs Zs rfl Zl Zl fun⟨s,k,V,oo,oc,bo,bc⟩ ⟨hle,hk,W3,⟨W,YR,hWi,Nz⟩,hVk,HV,HB⟩=>?_
 dsimp only at hle hk W3 YR hWi Nz hVk HV HB ⊢
 have IX:=IX.mono hle
 have HW:=HW.mono hle
 have HX:=HX.mono hle
 have HO:=HO.mono hle
 have NA:∀ v∈V,qV s v/\v.z=qZ X.ds v.it:=fun v hv=>Nz v ((YR.mem mI).1 hv)
 have Da:(k=Li.length\/¬ (dm p=true/\dm q=true))->DR X.ds line p q (jy V):=fun h=>by
  unfold DR
  by_cases hr:dm p=true/\dm q=true
  ·rw[au hr,hLi]
   have h1:=YR.items (κ:=qZ X.ds) (fun v hv=>(Nz v hv).2)
   rcases h with h | h
   ·have h2:W.map Vd.it=_:=hWi
    rw[h2,h,aI] at h1
    exact h1
   ·exact absurd hr h
  ·rw[ai hr]
   rcases W3 with h0 | h0
   ·have:V=[]:=aY Zo
    rw[this]
    rfl
   ·exact absurd h0 hr
 have WR:(jy V).length=V.length:=aR ..
 refine Za ?_
 refine ax 41 rfl (fun h=>?_) (fun h=>?_)
 rotate_left
 ·have fQ:k=Li.length:=by have:=ab h;omega
  refine D2 ?_
  refine aw TT rfl fun β w' _ _=>?_
  exact⟨jy V,oo,oc,by rw[WR];rfl,Da (.inl fQ),by rw[WR];exact HV⟩
 have cz:k<Li.length:=by have:=ae h;omega
 refine Zr ?_
 refine ax 45 rfl (fun h=>?_) (fun h=>?_)
 rotate_left
 ·have hr:dm p≠true:=fun hr=>by
   have h:=ab h
   rw[<-hEi,au hr] at h
   exact h rfl
  refine D2 ?_
  refine aw TT rfl fun β w' _ _=>?_
  exact⟨jy V,oo,oc,by rw[WR];rfl,Da (.inr fun h=>hr h.1),by rw[WR];exact HV⟩
 have Vv:dm p=true:=by
  have h:=ae h
  apply jJ
  intro hr
  rw[<-hEi,ai hr] at h
  exact absurd h (by decide)
 refine gX ?_
 refine aG rfl (fun h=>?_) (fun h=>?_)
 rotate_left
 ·have hr:dm q≠true:=fun hr=>by
   have h:=ab h
   rw[<-hFi,au hr] at h
   exact h rfl
  refine Ze ?_
  refine aw TT rfl fun β w' _ _=>?_
  exact⟨jy V,oo,oc,by rw[WR];rfl,Da (.inr fun h=>hr h.2),by rw[WR];exact HV⟩
 have Vu:dm q=true:=by
  have h:=ae h
  apply jJ
  intro hr
  rw[<-hFi,ai hr] at h
  exact absurd h (by decide)
 have hx:=aa cz
 have bU:=ld hx
 obtain⟨pp,n,d,r,Yj,Yo,yu⟩:=sm Li[k] (aP cz)
 have mi:Li.take (k+1)=Li.take k++[Li[k]]:=ak cz
 generalize Li[k]=x at *
 subst yu
 have Er:=IG ho Yj Yo
 have L3:=hF d (aC Yj) r (aC Yo)
 refine Zd ?_
 refine ck [(0,.quiet),(1,.pure),(2,.pure),(3,.pure),(4,.quiet),(5,.dP),(6,.dP),(7,.pure),(8,.pure),(9,.pure),(10,.pure),(11,.pure)] mixed Zk (aM TT rfl ?_)
 refine Zr ?_
 refine bk TT Z Z Z Z Z Z Z Z Z HO Zo bU (Zr ?_)
 refine cr 52 (.agg (aA X)) rfl (az _ _) (fun _=>rfl) ?_
 refine cr 56 (.agg (cm (dZ d.id r n))) rfl (b6 _ _) (fun _=>rfl) ?_
 refine aT (ys:=[.agg (aA X),.agg (cm (dZ d.id r n))]) Z Z Z Z Z Tryz.call135 ⟨az 0 X,b6 0 _,trivial⟩ (ET s X IX Zo ho pp n d r Yj Yo) fun v hv=>⟨.agg (di r),fP _ _,hv.symm,?_⟩
 refine Zr ?_
 refine bN (ys:=[.agg (di r)]) Z Z Z Z Z Tryz.call134 ⟨fP 0 r,trivial⟩ (QV s r L3.1 L3.2) fun v s' nY ⟨zo,zc,hv,HZ⟩=>⟨.ik [.a (.v (.slice zo (cj (iT r).1).length zc)),.a (.b ((iT r).2&&dm (iT r).1))],Zl,hv.symm,?_⟩
 have hle:=al.le_trans hle nY
 have HW:=HW.mono nY
 have HX:=HX.mono nY
 have HO:=HO.mono nY
 have HV:=HV.mono nY
 have HB:=HB.mono nY
 have Nz:∀ v∈W,qV s' v/\v.z=qZ X.ds v.it:=fun v hv=>⟨(Nz v hv).1.mono nY,(Nz v hv).2⟩
 have NA:∀ v∈V,qV s' v/\v.z=qZ X.ds v.it:=fun v hv=>Nz v ((YR.mem mI).1 hv)
 have VD:=Nc (ds:=X.ds) Er
 have hi2:=Nd (ds:=X.ds) Er
 have Jw:=hxb (dZ d.id r n)
 have X4:((iT r).2&&dm (iT r).1)=true->cj (iT r).1≠[]:=fun h=>by
  rw[aQ] at h
  exact qm h.2
 generalize ((iT r).2&&dm (iT r).1)=fl at *
 generalize cj (iT r).1=z at *
 generalize dZ d.id r n=x at *
 have l8:∀ b:Bool,P8 (cj p) (cj q) (qZ X.ds x)=b->(Li.take (k+1)).filter (fun x=>P8 (cj p) (cj q) (qZ X.ds x))=jy W++if b then [x] else []:=fun b hb=>by
  rw[mi,eu,hWi,dS,hb]
  cases b<;>rfl
 have ua:P8 (cj p) (cj q) (qZ X.ds x)=false->∃ W,gD fX V W/\jy W=(Li.take (k+1)).filter (fun x=>P8 (cj p) (cj q) (qZ X.ds x))/\∀ v∈W,qV s' v/\v.z=qZ X.ds v.it:=fun h=>⟨W,YR,by rw[l8 false h];exact(aL _).symm,Nz⟩
 refine gX ?_
 refine ax 63 rfl (fun h=>?_) (fun h=>?_)
 ·have h:fl=false:=by simpa using h
  have hs:=ua (by rw[hi2 h];rfl)
  refine pC ?_
  refine an (⟨s',k+1,V,oo,oc,bo,bc⟩:TN) ⟨hle,cz,.inr ⟨Vv,Vu⟩,hs,by dsimp only;omega,HV,HB⟩ (by dsimp only;omega) rfl Zs Zs rfl Zl Zl
 have Nv:fl=true:=by simpa using h
 have VD:=VD Nv
 have X4:=X4 Nv
 rw[VD] at Jw l8 ua
 refine Zr ?_
 refine aT Z Z Z Z Z Tryz.call136 Zl (Hm s' z (cj p) Zo zo zc HZ wo wc HW) fun v hv=>⟨.a (.v (.int .i64 (Lib.compareBytes z (cj p)))),trivial,by rw[hv,Bv];rfl,?_⟩
 refine Zr ?_
 refine ax 69 rfl (fun h=>?_) (fun h=>?_)
 ·have h:Lib.compareBytes z (cj p)<0:=ae h
  have hs:=ua (by rw[<-Bool.not_eq_true,vE];exact fun e=>by omega)
  refine pC ?_
  refine an (⟨s',k+1,V,oo,oc,bo,bc⟩:TN) ⟨hle,cz,.inr ⟨Vv,Vu⟩,hs,by dsimp only;omega,HV,HB⟩ (by dsimp only;omega) rfl Zs Zs rfl Zl Zl
 have hzp:¬ Lib.compareBytes z (cj p)<0:=ab h
 refine Zr ?_
 refine aT Z Z Z Z Z Tryz.call136 Zl (Hm s' z (cj q) Zo zo zc HZ xo xc HX) fun v hv=>⟨.a (.v (.int .i64 (Lib.compareBytes z (cj q)))),trivial,by rw[hv,Bv];rfl,?_⟩
 refine gX ?_
 refine aG rfl (fun h=>?_) (fun h=>?_)
 ·have h:0<=Lib.compareBytes z (cj q):=ae h
  have hs:=ua (by rw[<-Bool.not_eq_true,vE];exact fun e=>by omega)
  refine Zg ?_
  refine an (⟨s',k+1,V,oo,oc,bo,bc⟩:TN) ⟨hle,cz,.inr ⟨Vv,Vu⟩,hs,by dsimp only;omega,HV,HB⟩ (by dsimp only;omega) rfl Zs Zs rfl Zl Zl
 have hzq:¬ 0<=Lib.compareBytes z (cj q):=ab h
 have hn:=l8 true (vE.2 ⟨X4,by omega,by omega⟩)
 have j6:=HV.pn
 have oq:=HB.pn
 have hnz:∀ y∈V,y.z.length<=10000000:=fun y hy=>by rw[(NA y hy).2];exact hxb _
 generalize hnv:(⟨zo,zc,z,x⟩:Vd)=nv at *
 have ae2:nv.z=z:=by rw[<-hnv]
 refine Zd ?_
 refine fm (fun _=>s') (fun(j:Nat)=>[(4,.a (.p 0 0)),(9,.a (.v (.slice wo (cj p).length wc))),(10,.a (.v (.int .i64 Ei))),(11,.a (.v (.slice xo (cj q).length xc))),(12,.a (.v (.int .i64 Fi))),(13,.a (.v (.slice oo V.length oc))),(14,.a (.v (.slice bo V.length bc))),(15,.a (.v (.slice lo Li.length lc))),(16,.a (.v (.int .i64 k))),(17,.a (.v (.slice zo z.length zc))),(19,.a (.v (.int .i64 j)))]) (fun _=>[(0,.loc 114,aA X)]) (fun _=>[]) 1 (fun j=>j<=V.length/\(∀ y∈V.drop j,fX nv y=true)/\∀ y∈V.take j,fX nv y=false) ?_ (fun j ⟨hj,ZM,hj2⟩=>?_)
 ·refine bX (fun(_:Nat)=>s') (fun(j:Nat)=>[(4,.a (.p 0 0)),(9,.a (.v (.slice wo (cj p).length wc))),(10,.a (.v (.int .i64 Ei))),(11,.a (.v (.slice xo (cj q).length xc))),(12,.a (.v (.int .i64 Fi))),(13,.a (.v (.slice oo V.length oc))),(14,.a (.v (.slice bo V.length bc))),(15,.a (.v (.slice lo Li.length lc))),(16,.a (.v (.int .i64 k))),(17,.a (.v (.slice zo z.length zc))),(19,.a (.v (.int .i64 j)))]) (fun _=>[(0,.loc 114,aA X)]) (fun _=>[]) 1 (fun j=>j<=V.length/\∀ y∈V.drop j,fX nv y=true) (fun j=>j) V.length ⟨aq _,fun y hy=>by rw[bC] at hy;cases hy⟩ rfl Zs Zs rfl Zl Zl fun j ⟨hj,ZM⟩=>?_
  refine Za ?_
  refine ax 79 rfl (fun h=>?_) (fun h=>?_)
  rotate_left
  ·have h0:j=0:=by
    have:=ab (show decide ((0:Int)<j)=false from h)
    omega
   subst h0
   refine D2 ?_
   refine an 0 ⟨hj,ZM,fun y hy=>(by cases hy)⟩ aj rfl Zs Zs rfl Zl Zl
  obtain⟨m,rfl⟩:∃ m,j=m+1:=⟨j - 1,by
   have:=ae (show decide ((0:Int)<j)=true from h)
   omega⟩
  have hy:=aa (show m<V.length by omega)
  have hym:=aP (show m<V.length by omega)
  have L4:V.drop m=V[m]::V.drop (m+1):=aB Zo
  have cw:=fun h1=>QD mI YR.Oj (k:=m) (x:=nv) hy h1
  generalize V[m]=y at *
  have hyz:=N5 hy
  have hyd:=NA y hym
  have Zu:=hnz y hym
  refine Zr ?_
  refine iY Z Z Z Z Z Z Zo (Zr ?_)
  refine cr 82 (.a (.v (.int .i64 m))) rfl trivial (fun _=>aN (Value.int .i64) Zo) ?_
  refine bk TT Z Z Z Z Z Z Z Z Z HB Zo hyz (Zr ?_)
  refine aT Z Z Z Z Z Tryz.call136 Zl (Hm s' y.z z Zo y.zo y.zc hyd.1 zo zc HZ) fun v hv=>⟨.a (.v (.int .i64 (Lib.compareBytes y.z z))),trivial,by rw[hv,Bv];rfl,?_⟩
  refine gX ?_
  refine aG rfl (fun h=>?_) (fun h=>?_)
  ·have h:0<Lib.compareBytes y.z z:=ae h
   have dj:fX nv y=true:=by
    unfold fX
    rw[ae2,vN,aX]
    omega
   refine Zg ?_
   refine an m ⟨by omega,fun w hw=>?_⟩ (db m) rfl ?_ Zs rfl Zl Zl
   ·rw[L4] at hw
    rcases bM.1 hw with rfl | hw
    ·exact dj
    ·exact ZM w hw
   ·refine⟨rfl,rfl,rfl,rfl,rfl,rfl,rfl,rfl,rfl,rfl,?_,trivial⟩
    exact aN (fun z=>some (SV.a (AT.v (Value.int .i64 z)))) (show((m+1:Nat):Int) - 1=(m:Nat) by omega)
  ·have h:¬ 0<Lib.compareBytes y.z z:=ab h
   have dj:fX nv y=false:=by
    unfold fX
    rw[ae2,vN,eD]
    omega
   refine Ze ?_
   refine an (m+1) ⟨hj,ZM,cw dj⟩ aj rfl Zs Zs rfl Zl Zl
 have hVV:gD fX (V.take j++nv::V.drop j) (W++[nv]):=YR.ins mI ZM hj2
 have hVl:(V.take j++nv::V.drop j).length=V.length+1:=by simp;omega
 have HVf:=HV.front (k:=j) hj
 have HVb:=HV.sub (l:=j) (k:=V.length) hj (aq _)
 have HBf:=HB.front (k:=j) hj
 have HBb:=HB.sub (l:=j) (k:=V.length) hj (aq _)
 have e1:(eP (jy V)).take j=eP (jy (V.take j)):=by unfold eP jy;rw[<-dG,<-dG]
 have e2:((eP (jy V)).take V.length).drop j=eP (jy (V.drop j)):=by unfold eP jy;rw[bY (by simp),<-dR,<-dR]
 have e3:(ni V).take j=ni (V.take j):=by unfold ni;rw[<-dG]
 have e4:((ni V).take V.length).drop j=ni (V.drop j):=by unfold ni;rw[bY (by simp),<-dR]
 rw[e1] at HVf
 rw[e2] at HVb
 rw[e3] at HBf
 rw[e4] at HBb
 refine dV 122 5 ?_
 refine Za ?_
 refine eN TT j Z Z Z Z Z Z Z Z Z Z Zo j6 (Zr ?_)
 refine dC TT 0 Z Z Z Z Z Z Z HVf Z Z Z Z Z Z Z Z Z (fun r hr=>(kB _ r hr).2.2) Zo (by show(0+j)*40<=_;omega) fun TG rR JI=>aM TT rfl ?_
 refine Za ?_
 refine bk TT Z Z Z Z Z Z Z Z Z HO Zo bU (Zr ?_)
 refine bl TT 0 Z Z Z Z Z Z Z Z Z Z Z Z Z Z Z Z Z Z (b6 0 x) rfl Zo (by show(0+j+1)*40<=_;omega) fun Xl Kg SE=>aM TT rfl ?_
 refine Za ?_
 refine dL TT j V.length Z Z Z Z Z Z Z Z Z Z (.inr ⟨_,_,rfl,rfl⟩) (.inl ⟨rfl,rfl⟩) hj j6 j6 (Zr ?_)
 refine dC TT 0 Z Z Z Z Z Z Z HVb Z Z Z Z Z Z Z Z Z (fun r hr=>(kB _ r hr).2.2) Zo (by show(0+j+1+(V.length - j))*40<=_;omega) fun ao3 Wf Xb=>aM TT rfl ?_
 refine Za ?_
 refine eN TT j Z Z Z Z Z Z Z Z Z Z Zo oq (Zr ?_)
 refine qp 149 1 ?_
 refine dC TT 1 Z Z Z Z Z Z Z HBf Z Z Z Z Z Z Z Z Z (fun r hr=>(u9 _ r hr).2.2) Zo (by show(0+j)*24<=_;omega) fun bo1 ap9 an2=>aM TT rfl ?_
 refine Za ?_
 refine bl TT 1 Z Z Z Z Z Z Z Z Z Z Z Z Z Z Z Z Z Z Zl rfl Zo (by show(0+j+1)*24<=_;omega) fun bo2 ap8 an1=>aM TT rfl ?_
 refine Za ?_
 refine dL TT j V.length Z Z Z Z Z Z Z Z Z Z (.inr ⟨_,_,rfl,rfl⟩) (.inl ⟨rfl,rfl⟩) hj oq oq (Zr ?_)
 refine dC TT 1 Z Z Z Z Z Z Z HBb Z Z Z Z Z Z Z Z Z (fun r hr=>(u9 _ r hr).2.2) Zo (by show(0+j+1+(V.length - j))*24<=_;omega) fun bo3 Xj SG=>aM TT rfl ?_
 rw[show 0+j+1+(V.length - j)=(V.take j++nv::V.drop j).length by rw[hVl];omega] at Xb SG ⊢
 refine Zg ?_
 refine dD 0 Z Z fun s6 AR x4=>?_
 refine dD 0 Z Z fun s7 uQ Fy=>?_
 have Sp:=al.le_trans AR uQ
 have hvi:jy (V.take j++nv::V.drop j)=jy (V.take j)++([x]++jy (V.drop j)):=by
  unfold jy
  rw[aF,bx,<-hnv]
  rfl
 have x4:b9 s6 (UO ao3 Wf (jy (V.take j++nv::V.drop j))):=by
  unfold UO
  rw[hvi,rz,rz,<-hvi,show(jy (V.take j++nv::V.drop j)).length=(V.take j++nv::V.drop j).length from aR ..,<-av]
  exact x4
 have hzx:(ni (V.take j++nv::V.drop j)).flatten.map AT.val=(ni (V.take j)).flatten.map AT.val++[AT.v (.slice zo z.length zc)].map AT.val++(ni (V.drop j)).flatten.map AT.val:=by
  rw[show V.take j++nv::V.drop j=V.take j++([nv]++V.drop j) from rfl,xl,xl,show ni [nv]=[[.v (.slice zo z.length zc)]] by rw[<-hnv];rfl,fj,fj,aF,aF,av]
  rfl
 have Fy:b9 s7 (zrE bo3 Xj (V.take j++nv::V.drop j)):=by
  unfold zrE
  rw[hzx]
  exact Fy
 have hV1:=vk x4 (by rw[show(jy (V.take j++nv::V.drop j)).length=(V.take j++nv::V.drop j).length from aR ..];exact Xb)
 rw[show(jy (V.take j++nv::V.drop j)).length=(V.take j++nv::V.drop j).length from aR ..] at hV1
 refine an (⟨s7,k+1,V.take j++nv::V.drop j,ao3,Wf,bo3,Xj⟩:TN) ⟨al.le_trans hle Sp,cz,.inr ⟨Vv,Vu⟩,⟨W++[nv],hVV,?_,fun v hv=>?_⟩,by dsimp only;rw[hVl];omega,hV1.mono uQ,N4 Fy SG⟩ (by dsimp only;omega) rfl Zs Zs rfl Zl Zl
 ·dsimp only
  rw[hn,<-hnv]
  unfold jy
  rw[aF]
  rfl
 ·rcases bz.1 hv with hv | hv
  ·exact⟨(Nz v hv).1.mono Sp,(Nz v hv).2⟩
  ·rw[aU] at hv
   subst hv
   rw[<-hnv]
   exact⟨HZ.mono Sp,VD.symm⟩
end Go.Sy
