/- Parts of the proof of CStreamsPlay: S7, S8, S9, P2, P3, P4, F66. No conditions. -/
import Derived.Test.YtlonlnagmfdlbaaGreatDoorM8
set_option maxRecDepth 100000
set_option maxHeartbeats 16000000
namespace Go.Sy
open Go.Proofs
theorem My(σ:al)(rows:List (List AT))(bU:∀ r∈rows,r.length=3/\r.all AT.one=true)(hl:rows.length<=1000000)(bo:Option Addr)(bc:Nat)(oq:rows.length<=bc)(i j:Nat)(iP:i<j)(hj:j<=rows.length):
  pV Tryz.prog 177 [.a (.v (.slice bo rows.length bc)),.a (.v (.int .i64 i)),.a (.v (.int .i64 j))] σ [⟨bo,rows.length,bc,211,3,rows.flatten.map AT.val⟩] (fun v _ A'=>v=.slice bo (i+(rows.length - j)) bc/\A'=[⟨bo,i+(rows.length - j),bc,211,3,(rows.take i++rows.drop j).flatten.map AT.val⟩]):=by
 have mU:∀ v∈rows.flatten.map AT.val,v.oneCell'=true:=fun v hv=>by
  obtain⟨c,hc,rfl⟩:=bL.1 hv
  obtain⟨r,hr,hc⟩:=kX.1 hc
  exact AT.one_den fy (dc.1 (bU r hr).2 c hc)
 have Nv:∀(l:List (List AT)) (k:Nat),(∀ r∈l,r.length=3)->l.flatten.take (k*3)=(l.take k).flatten/\l.flatten.drop (k*3)=(l.drop k).flatten:=fun l=>by
  induction l with
  | nil=>intro k _;simp
  | cons r l ih =>
   intro k hr
   cases k with
   | zero=>simp
   | succ k =>
    have h1:=ih k fun q hq=>hr q (ba _ hq)
    have h2:=hr r a8
    rw[dx,cX,dH,dx,List.take_append,List.drop_append,h2,show(k+1)*3 - 3=k*3 by omega,h1.1,h1.2,bY Zo,dO Zo]
    exact⟨rfl,rfl⟩
 have vF:(rows.flatten.map AT.val).take (i*3)++(rows.flatten.map AT.val).drop (j*3)=(rows.take i++rows.drop j).flatten.map AT.val:=by
  rw[<-dG,<-dR,(Nv rows i fun r hr=>(bU r hr).1).1,(Nv rows j fun r hr=>(bU r hr).1).2,<-aF,fj]
 refine fk Tryz.func177 Z Z Zl fun w=>?_
 refine Za ?_
 refine uE 0 (E:=⟨bo,rows.length,bc,211,3,rows.flatten.map AT.val⟩) rfl (by show 0<rows.length;omega) fun g1 pN=>?_
 have pN:bo=some ⟨g1,0,none⟩:=pN
 subst pN
 refine yY TT i j rows.length Z Z Z Z Z Z Z Z Z Z Z Z Z Z Zo hj oq (Zr ?_)
 refine Za ?_
 refine aG rfl (fun h=>?_) (fun h=>?_)
 ·have:=ae h
  omega
 refine Zd ?_
 refine ck [(0,.pure),(1,.pure),(2,.pure),(3,.pure),(4,.pure),(5,.pure),(6,.sink),(7,.pure)] mixed Zk (aM TT rfl ?_)
 refine eN TT i Z Z Z Z Z Z Z Z Z Z Zo oq (Zr ?_)
 refine dL TT j rows.length Z Z Z Z Z Z Z Z Z Z (.inr ⟨_,_,rfl,rfl⟩) (.inl ⟨rfl,rfl⟩) hj oq oq (Zr ?_)
 refine rM TT 0 (E:=⟨some ⟨g1,0,none⟩,rows.length,bc,211,3,rows.flatten.map AT.val⟩) i j Z Z Z Z Z Z Z Z Z Z Zo hj (by
   by_cases hjn:j=rows.length
   ·exact .inl hjn
   ·right
    rw[ai Zo]
    show some (Addr.add ⟨g1,0,none⟩ (j*3))=_
    rw[jM]) (by split<;>rfl) Z Z Z Z Z Z mU ?_
 refine Zr ?_
 rw[show(⟨some ⟨g1,0,none⟩,rows.length,bc,211,3,rows.flatten.map AT.val⟩:AE).xs.take (i*3)++(⟨some ⟨g1,0,none⟩,rows.length,bc,211,3,rows.flatten.map AT.val⟩:AE).xs.drop (j*3)=(rows.take i++rows.drop j).flatten.map AT.val from vF]
 dsimp only
 refine Za ?_
 refine dL TT (i+(rows.length - j)) rows.length Z Z Z Z Z Z Z Z Z Z (.inr ⟨_,_,rfl,rfl⟩) (.inr ⟨_,_,rfl,rfl⟩) Zo oq Zo (Zr ?_)
 refine o9 TT 0 (E:=⟨some ⟨g1,0,none⟩,i+(rows.length - j),bc,211,3,(rows.take i++rows.drop j).flatten.map AT.val⟩) (i+(rows.length - j)) Z Z Z Z Z Z Z Z (aq _) (by show _+_<=bc;omega) (by
   right
   rw[ai Zo]
   show some (Addr.add ⟨g1,0,none⟩ ((i+(rows.length - j))*3))=_
   rw[jM]) Z Z Z Z Z Z (Zr ?_)
 refine Zb ?_
 refine dq TT rfl fun β w' _ _=>?_
 exact⟨rfl,rfl⟩
theorem MA(σ:al)(rows:List (List AT))(bU:∀ r∈rows,r.length=2/\r.all AT.one=true)(hl:rows.length<=1000000)(bo:Option Addr)(bc:Nat)(oq:rows.length<=bc)(i j:Nat)(iP:i<j)(hj:j<=rows.length):
  pV Tryz.prog 113 [.a (.v (.slice bo rows.length bc)),.a (.v (.int .i64 i)),.a (.v (.int .i64 j))] σ [⟨bo,rows.length,bc,90,2,rows.flatten.map AT.val⟩] (fun v _ A'=>v=.slice bo (i+(rows.length - j)) bc/\A'=[⟨bo,i+(rows.length - j),bc,90,2,(rows.take i++rows.drop j).flatten.map AT.val⟩]):=by
 have mU:∀ v∈rows.flatten.map AT.val,v.oneCell'=true:=fun v hv=>by
  obtain⟨c,hc,rfl⟩:=bL.1 hv
  obtain⟨r,hr,hc⟩:=kX.1 hc
  exact AT.one_den fy (dc.1 (bU r hr).2 c hc)
 have Nv:∀(l:List (List AT)) (k:Nat),(∀ r∈l,r.length=2)->l.flatten.take (k*2)=(l.take k).flatten/\l.flatten.drop (k*2)=(l.drop k).flatten:=fun l=>by
  induction l with
  | nil=>intro k _;simp
  | cons r l ih =>
   intro k hr
   cases k with
   | zero=>simp
   | succ k =>
    have h1:=ih k fun q hq=>hr q (ba _ hq)
    have h2:=hr r a8
    rw[dx,cX,dH,dx,List.take_append,List.drop_append,h2,show(k+1)*2 - 2=k*2 by omega,h1.1,h1.2,bY Zo,dO Zo]
    exact⟨rfl,rfl⟩
 have vF:(rows.flatten.map AT.val).take (i*2)++(rows.flatten.map AT.val).drop (j*2)=(rows.take i++rows.drop j).flatten.map AT.val:=by
  rw[<-dG,<-dR,(Nv rows i fun r hr=>(bU r hr).1).1,(Nv rows j fun r hr=>(bU r hr).1).2,<-aF,fj]
 refine fk Tryz.func113 Z Z Zl fun w=>?_
 refine Za ?_
 refine uE 0 (E:=⟨bo,rows.length,bc,90,2,rows.flatten.map AT.val⟩) rfl (by show 0<rows.length;omega) fun g1 pN=>?_
 have pN:bo=some ⟨g1,0,none⟩:=pN
 subst pN
 refine yY TT i j rows.length Z Z Z Z Z Z Z Z Z Z Z Z Z Z Zo hj oq (Zr ?_)
 refine Za ?_
 refine aG rfl (fun h=>?_) (fun h=>?_)
 ·have:=ae h
  omega
 refine Zd ?_
 refine ck [(0,.pure),(1,.pure),(2,.pure),(3,.pure),(4,.pure),(5,.pure),(6,.sink),(7,.pure)] mixed Zk (aM TT rfl ?_)
 refine eN TT i Z Z Z Z Z Z Z Z Z Z Zo oq (Zr ?_)
 refine dL TT j rows.length Z Z Z Z Z Z Z Z Z Z (.inr ⟨_,_,rfl,rfl⟩) (.inl ⟨rfl,rfl⟩) hj oq oq (Zr ?_)
 refine rM TT 0 (E:=⟨some ⟨g1,0,none⟩,rows.length,bc,90,2,rows.flatten.map AT.val⟩) i j Z Z Z Z Z Z Z Z Z Z Zo hj (by
   by_cases hjn:j=rows.length
   ·exact .inl hjn
   ·right
    rw[ai Zo]
    show some (Addr.add ⟨g1,0,none⟩ (j*2))=_
    rw[jM]) (by split<;>rfl) Z Z Z Z Z Z mU ?_
 refine Zr ?_
 rw[show(⟨some ⟨g1,0,none⟩,rows.length,bc,90,2,rows.flatten.map AT.val⟩:AE).xs.take (i*2)++(⟨some ⟨g1,0,none⟩,rows.length,bc,90,2,rows.flatten.map AT.val⟩:AE).xs.drop (j*2)=(rows.take i++rows.drop j).flatten.map AT.val from vF]
 dsimp only
 refine Za ?_
 refine dL TT (i+(rows.length - j)) rows.length Z Z Z Z Z Z Z Z Z Z (.inr ⟨_,_,rfl,rfl⟩) (.inr ⟨_,_,rfl,rfl⟩) Zo oq Zo (Zr ?_)
 refine o9 TT 0 (E:=⟨some ⟨g1,0,none⟩,i+(rows.length - j),bc,90,2,(rows.take i++rows.drop j).flatten.map AT.val⟩) (i+(rows.length - j)) Z Z Z Z Z Z Z Z (aq _) (by show _+_<=bc;omega) (by
   right
   rw[ai Zo]
   show some (Addr.add ⟨g1,0,none⟩ ((i+(rows.length - j))*2))=_
   rw[jM]) Z Z Z Z Z Z (Zr ?_)
 refine Zb ?_
 refine dq TT rfl fun β w' _ _=>?_
 exact⟨rfl,rfl⟩
theorem Mz(σ:al)(rows:List (List AT))(bU:∀ r∈rows,r.length=1/\r.all AT.one=true)(hl:rows.length<=1000000)(bo:Option Addr)(bc:Nat)(oq:rows.length<=bc)(i j:Nat)(iP:i<j)(hj:j<=rows.length):
  pV Tryz.prog 114 [.a (.v (.slice bo rows.length bc)),.a (.v (.int .i64 i)),.a (.v (.int .i64 j))] σ [⟨bo,rows.length,bc,74,1,rows.flatten.map AT.val⟩] (fun v _ A'=>v=.slice bo (i+(rows.length - j)) bc/\A'=[⟨bo,i+(rows.length - j),bc,74,1,(rows.take i++rows.drop j).flatten.map AT.val⟩]):=by
 have mU:∀ v∈rows.flatten.map AT.val,v.oneCell'=true:=fun v hv=>by
  obtain⟨c,hc,rfl⟩:=bL.1 hv
  obtain⟨r,hr,hc⟩:=kX.1 hc
  exact AT.one_den fy (dc.1 (bU r hr).2 c hc)
 have Nv:∀(l:List (List AT)) (k:Nat),(∀ r∈l,r.length=1)->l.flatten.take (k*1)=(l.take k).flatten/\l.flatten.drop (k*1)=(l.drop k).flatten:=fun l=>by
  induction l with
  | nil=>intro k _;simp
  | cons r l ih =>
   intro k hr
   cases k with
   | zero=>simp
   | succ k =>
    have h1:=ih k fun q hq=>hr q (ba _ hq)
    have h2:=hr r a8
    rw[dx,cX,dH,dx,List.take_append,List.drop_append,h2,show(k+1)*1 - 1=k*1 by omega,h1.1,h1.2,bY Zo,dO Zo]
    exact⟨rfl,rfl⟩
 have vF:(rows.flatten.map AT.val).take (i*1)++(rows.flatten.map AT.val).drop (j*1)=(rows.take i++rows.drop j).flatten.map AT.val:=by
  rw[<-dG,<-dR,(Nv rows i fun r hr=>(bU r hr).1).1,(Nv rows j fun r hr=>(bU r hr).1).2,<-aF,fj]
 refine fk Tryz.func114 Z Z Zl fun w=>?_
 refine Za ?_
 refine uE 0 (E:=⟨bo,rows.length,bc,74,1,rows.flatten.map AT.val⟩) rfl (by show 0<rows.length;omega) fun g1 pN=>?_
 have pN:bo=some ⟨g1,0,none⟩:=pN
 subst pN
 refine yY TT i j rows.length Z Z Z Z Z Z Z Z Z Z Z Z Z Z Zo hj oq (Zr ?_)
 refine Za ?_
 refine aG rfl (fun h=>?_) (fun h=>?_)
 ·have:=ae h
  omega
 refine Zd ?_
 refine ck [(0,.pure),(1,.pure),(2,.pure),(3,.pure),(4,.pure),(5,.pure),(6,.sink),(7,.pure)] mixed Zk (aM TT rfl ?_)
 refine eN TT i Z Z Z Z Z Z Z Z Z Z Zo oq (Zr ?_)
 refine dL TT j rows.length Z Z Z Z Z Z Z Z Z Z (.inr ⟨_,_,rfl,rfl⟩) (.inl ⟨rfl,rfl⟩) hj oq oq (Zr ?_)
 refine rM TT 0 (E:=⟨some ⟨g1,0,none⟩,rows.length,bc,74,1,rows.flatten.map AT.val⟩) i j Z Z Z Z Z Z Z Z Z Z Zo hj (by
   by_cases hjn:j=rows.length
   ·exact .inl hjn
   ·right
    rw[ai Zo]
    show some (Addr.add ⟨g1,0,none⟩ (j*1))=_
    rw[jM]) (by split<;>rfl) Z Z Z Z Z Z mU ?_
 refine Zr ?_
 rw[show(⟨some ⟨g1,0,none⟩,rows.length,bc,74,1,rows.flatten.map AT.val⟩:AE).xs.take (i*1)++(⟨some ⟨g1,0,none⟩,rows.length,bc,74,1,rows.flatten.map AT.val⟩:AE).xs.drop (j*1)=(rows.take i++rows.drop j).flatten.map AT.val from vF]
 dsimp only
 refine Za ?_
 refine dL TT (i+(rows.length - j)) rows.length Z Z Z Z Z Z Z Z Z Z (.inr ⟨_,_,rfl,rfl⟩) (.inr ⟨_,_,rfl,rfl⟩) Zo oq Zo (Zr ?_)
 refine o9 TT 0 (E:=⟨some ⟨g1,0,none⟩,i+(rows.length - j),bc,74,1,(rows.take i++rows.drop j).flatten.map AT.val⟩) (i+(rows.length - j)) Z Z Z Z Z Z Z Z (aq _) (by show _+_<=bc;omega) (by
   right
   rw[ai Zo]
   show some (Addr.add ⟨g1,0,none⟩ ((i+(rows.length - j))*1))=_
   rw[jM]) Z Z Z Z Z Z (Zr ?_)
 refine Zb ?_
 refine dq TT rfl fun β w' _ _=>?_
 exact⟨rfl,rfl⟩
def cH.less (x:cH):cH:={ x with ln:=x.ln - 1 }
def gU (xs:List cH) (id:Int):Option (List cH) :=
 if Bm xs id<0 then none else
 match xs[(Bm xs id).toNat]? with
 | none=>none
 | some x=>if x.ln - 1=0 then some (xs.eraseIdx (Bm xs id).toNat) else some (xs.set (Bm xs id).toNat x.less)
def eF:List cH->List Int->Option (List cH)
 | xs,[]=>some xs
 | xs,id::ids=>(gU xs id).bind fun ys=>eF ys ids
theorem J3(xs:List cH)(j:Nat): xs.take j++xs.drop (j+1)=xs.eraseIdx j:=(jG xs j).symm
structure DgS where
 k:Nat
 cur:List cH
theorem JM(σ:al)(xs:List cH)(hl:xs.length<=1000000)(next:Int)(ao:Option Addr)(cap:Nat)(H:bu σ ao xs.length cap 3 (eI xs))(hx:∀ x∈xs,-1000000<=x.ln/\x.ln<=1000000)(ids:List Int)(hi:ids.length<=1000000)(io:Option Addr)(ic:Nat)(HI:bu σ io ids.length ic 1 (kK ids)):
  fa Tryz.prog 112 [.agg [.v (.slice ao xs.length cap),.v (.int .i64 next)],.a (.v (.slice io ids.length ic))] σ (fun v bD=>match eF xs ids with
   | none=>v=.tuple #[.agg #[.slice none 0 0,.int .i64 0],.int .i64 6]
   | some ys=>∃ bo bc,v=.tuple #[.agg #[.slice bo ys.length bc,.int .i64 next],.int .i64 0]/\bu bD bo ys.length bc 3 (eI ys)):=by
 refine ek Tryz.func112 Z Z Zl fun w=>?_
 refine Za ?_
 refine dT [] (A0:=[]) (Ar:=[]) Z Z Z Z Z Z Z Tryz.call170 (by (repeat' (first | exact trivial | exact bh rfl | exact dF _ _ _ _ _ _ | exact dw _ _ | refine kz.of ?_ | refine SV.iv ?_ | exact SV.ez | exact AT.ez | exact eQ.qv (by assumption) | constructor))) (FY σ xs hl ao cap H) fun v lQ A1 hle ⟨bo,bc,hv,oq,hA⟩=>⟨.a (.v (.slice bo xs.length bc)),trivial,hv.symm,?_⟩
 subst hA
 have HI:=HI.mono hle
 refine Hz ?_
 refine gC (fun(s:al) (_:DgS)=>s) (fun _ t=>[(2,.a (.p 0 0)),(4,.a (.p 1 0)),(13,.a (.v (.slice io ids.length ic))),(14,.a (.v (.int .i64 ids.length))),(15,.a (.v (.int .i64 (t.k:Nat))))]) (fun _ t=>[(0,.loc 57,[.v (.slice bo t.cur.length bc),.v (.int .i64 next)]),(1,.loc 57,[.v (.slice none 0 0),.v (.int .i64 0)])]) (fun _ t=>[Hp bo bc t.cur]) 2
  (fun s t=>lQ.le s/\t.k<=ids.length/\t.cur.length<=xs.length/\(∀ x∈t.cur,-1000000 - (t.k:Int)<=x.ln/\x.ln<=1000000)/\eF xs ids=eF t.cur (ids.drop t.k)) (fun _ t=>ids.length - t.k) lQ ⟨0,xs⟩ ⟨al.le_refl _,ay _,aq _,fun x h=>by have:=hx x h;dsimp only;omega,rfl⟩ rfl Zs Zs rfl Zl Zl fun s ⟨k,cur⟩ ⟨Yr,hk,nZ,hc,hd⟩=>?_
 have HI:=HI.mono Yr
 dsimp only at hk nZ hc hd ⊢
 refine Za ?_
 refine aG rfl (fun h=>?_) (fun h=>?_)
 rotate_left
 ·have fQ:k=ids.length:=by have:=ab h;omega
  rw[fQ,bC] at hd
  rw[hd]
  refine Ze ?_
  refine dD 0 Z Z fun s2 cw hS=>?_
  refine aw TT rfl fun β w' _ _=>?_
  exact⟨bo,bc,rfl,vz hS Zo⟩
 have cz:k<ids.length:=by have:=ae h;omega
 have bU:=lg (aa cz)
 rw[aB cz] at hd
 generalize ids[k]=id at *
 rw[eF] at hd
 refine Zd ?_
 refine bk TT Z Z Z Z Z Z Z Z Z HI Zo bU (Zr ?_)
 refine Za ?_
 refine uB Z Z Z Z Z Tryz.call176 Zl (fun bD h1 h2=>ai7 bD cur Zo bo bc next (vz (h2 0 _ rfl) Zo) id) fun v hv=>⟨.a (.v (.int .i64 (Bm cur id))),trivial,hv.symm,?_⟩
 refine Zr ?_
 have hb:=R7 cur id
 refine Za ?_
 refine aG rfl (fun h=>?_) (fun h=>?_)
 ·have h:Bm cur id<0:=ae h
  have e:gU cur id=none:=by unfold gU;rw[au h]
  rw[hd,e]
  refine Zb ?_
  refine aw TT rfl fun β w' _ _=>?_
  rfl
 have h:¬ Bm cur id<0:=ab h
 obtain⟨j,hj⟩:∃ j:Nat,Bm cur id=j:=⟨(Bm cur id).toNat,by omega⟩
 have m2:j<cur.length:=by omega
 have Fw:=aa m2
 have hcj:=hc _ (aP m2)
 have e:gU cur id=if cur[j].ln - 1=0 then some (cur.eraseIdx j) else some (cur.set j cur[j].less):=by
  unfold gU
  rw[ai h,hj,cd,Fw]
 rw[e] at hd
 rw[hj]
 have lY:∀ x∈cur.set j cur[j].less,-1000000 - ((k+1:Nat):Int)<=x.ln/\x.ln<=1000000:=fun x hx=>by
  rcases jI hx with hx | hx
  ·have:=hc x hx
   omega
  ·subst hx
   show -1000000 - ((k+1:Nat):Int)<=cur[j].ln - 1/\cur[j].ln - 1<=1000000
   omega
 generalize cur[j]=x at *
 refine jd 0 (E:=Hp bo bc cur) rfl (show 0<cur.length by omega) fun gb rV=>?_
 have rV:bo=some ⟨gb,0,none⟩:=rV
 subst rV
 have nz:∀ q:Nat,some (SV.a (AT.v (.pointer (some (Addr.add (Addr.add ⟨gb,0,none⟩ ((j:Int).toNat*3)) q)))))=some (SV.a (AT.v (.pointer (some ⟨gb,j*3+q,none⟩)))):=fun q=>by
  rw[cd,jM,Addr.add_lit]
 have LK:(cur.set j x.less)[j]?=some x.less:=by rw[eZ,au rfl,au m2]
 have pv:(cur.set j x.less).length=cur.length:=dh ..
 refine Zc ?_
 refine br TT Z Z Z Z Z Z Z Z Z ⟨by omega,by omega⟩ (Zr ?_)
 refine eH 0 (off:=j*3+2) (c:=.v (.int .i64 x.ln)) TT Z Z Z Z Z (nz 2) Z Z Z Z (pq Fw rfl) trivial (Zr ?_)
 refine iY Z Z Z Z Z Z Zo (aM TT rfl ?_)
 refine br TT Z Z Z Z Z Z Z Z Z ⟨by omega,by omega⟩ (Zr ?_)
 refine jC 0 (off:=j*3+2) (A':=[Hp (some ⟨gb,0,none⟩) bc (cur.set j x.less)]) TT Z Z Z Z (nz 2) Z Z Z Z Z (by show j*3+2<cur.length*3;omega) trivial rfl ?_ (Zr ?_)
 ·show [_]=[_]
  unfold Hp
  rw[<-xS (j:=2) (r':=x.less) (.v (.int .i64 (x.ln - 1))) Fw Zo rfl,pv]
 refine Za ?_
 refine br TT Z Z Z Z Z Z Z Z Z ⟨by omega,by omega⟩ (Zr ?_)
 refine eH 0 (off:=j*3+2) (c:=.v (.int .i64 (x.ln - 1))) TT Z Z Z Z Z (nz 2) Z Z Z Z (pq (j:=2) LK rfl) trivial (Zr ?_)
 refine Za ?_
 refine aG rfl (fun h0=>?_) (fun h0=>?_)
 ·have h0:x.ln - 1=0:=ae h0
  rw[au h0] at hd
  have P9:(eI (cur.set j x.less)).length=cur.length:=by simp[eI]
  have SD:=My s (eI (cur.set j x.less)) (fun r hr=>⟨(gE _ r hr).1,(gE _ r hr).2.2⟩) Zo (some ⟨gb,0,none⟩) bc Zo j (j+1) Zo Zo
  rw[P9] at SD
  have hA0:Hp (some ⟨gb,0,none⟩) bc (cur.set j x.less)=⟨some ⟨gb,0,none⟩,cur.length,bc,211,3,(eI (cur.set j x.less)).flatten.map AT.val⟩:=by unfold Hp xT;rw[pv]
  rw[hA0]
  have Ub:(cur.eraseIdx j).length=j+(cur.length - (j+1)):=by rw[List.length_eraseIdx_of_lt m2];omega
  have Ma:(⟨some ⟨gb,0,none⟩,j+(cur.length - (j+1)),bc,211,3,((eI (cur.set j x.less)).take j++(eI (cur.set j x.less)).drop (j+1)).flatten.map AT.val⟩:AE)=Hp (some ⟨gb,0,none⟩) bc (cur.eraseIdx j):=by
   have e1:(eI (cur.set j x.less)).take j++(eI (cur.set j x.less)).drop (j+1)=eI (cur.eraseIdx j):=by
    unfold eI
    rw[<-dG,<-dR,<-aF,List.take_set_of_le (aq j),List.drop_set_of_lt (db j),J3]
   unfold Hp xT
   rw[e1,Ub]
  refine Zc ?_
  refine dT [0] (A0:=[⟨some ⟨gb,0,none⟩,cur.length,bc,211,3,(eI (cur.set j x.less)).flatten.map AT.val⟩]) (Ar:=[]) Z Z Z Z Z Z Z Tryz.call177 (by (repeat' (first | exact trivial | exact bh rfl | exact dF _ _ _ _ _ _ | exact dw _ _ | refine kz.of ?_ | refine SV.iv ?_ | exact SV.ez | exact AT.ez | exact eQ.qv (by assumption) | constructor))) SD fun v nC A2 cw ⟨hv,hA⟩=>⟨.a (.v (.slice (some ⟨gb,0,none⟩) (j+(cur.length - (j+1))) bc)),trivial,hv.symm,?_⟩
  subst hA
  rw[Ma]
  refine lP ?_
  refine an (nC,(⟨k+1,cur.eraseIdx j⟩:DgS)) ⟨al.le_trans Yr cw,cz,by dsimp only;omega,fun y hy=>?_,hd⟩ (by dsimp only;omega) rfl Zs ?_ rfl Zl Zl
  ·have:=hc y (iH hy)
   dsimp only
   omega
  ·dsimp only
   rw[Ub]
   (repeat first | exact trivial | refine⟨rfl,?_⟩)
 ·have h0:¬ x.ln - 1=0:=ab h0
  rw[ai h0] at hd
  refine Zc ?_
  refine an (s,(⟨k+1,cur.set j x.less⟩:DgS)) ⟨Yr,cz,by dsimp only;omega,lY,hd⟩ (by dsimp only;omega) rfl Zs ?_ rfl Zl Zl
  dsimp only
  rw[pv]
  (repeat first | exact trivial | refine⟨rfl,?_⟩)
end Go.Sy
namespace Go.Sy
open Go.Proofs
theorem J7{xs ys:List cH}{id:Int}(h:gU xs id=some ys): ∀ y∈ys,∃ x∈xs,y.id=x.id/\y.ao=x.ao/\y.cap=x.cap/\y.st=x.st/\(y.ln=x.ln\/y.ln=x.ln - 1):=by
 unfold gU at h
 split at h
 ·cases h
 split at h
 ·cases h
 ·rename_i x hx
  have hxm:=aC hx
  split at h
  ·injection h with h
   subst h
   exact fun y hy=>⟨y,iH hy,rfl,rfl,rfl,rfl,.inl rfl⟩
  ·injection h with h
   subst h
   intro y hy
   rcases jI hy with hy | hy
   ·exact⟨y,hy,rfl,rfl,rfl,rfl,.inl rfl⟩
   ·subst hy
    exact⟨x,hxm,rfl,rfl,rfl,rfl,.inr rfl⟩
theorem uV: ∀ {ids:List Int} {xs ys:List cH},eF xs ids=some ys->∀ y∈ys,∃ x∈xs,y.id=x.id/\y.ao=x.ao/\y.cap=x.cap/\y.st=x.st
 | [],xs,ys,h=>by
  injection h with h
  subst h
  exact fun y hy=>⟨y,hy,rfl,rfl,rfl,rfl⟩
 | id::ids,xs,ys,h=>by
  rw[eF] at h
  cases h1:gU xs id with
  | none=>rw[h1] at h;cases h
  | some zs =>
   rw[h1] at h
   have h:eF zs ids=some ys:=h
   intro y hy
   obtain⟨z,hz,e1,e2,e3,e4⟩:=uV h y hy
   obtain⟨x,hx,f1,f2,f3,f4,-⟩:=J7 h1 z hz
   exact⟨x,hx,e1.trans f1,e2.trans f2,e3.trans f3,e4.trans f4⟩
theorem qk.of{σ:al}{x y:cH}(h:qk σ x)(h1:y.ao=x.ao)(h2:y.cap=x.cap)(h3:y.st=x.st): qk σ y:=by
 unfold qk at h ⊢
 rw[h1,h2,h3]
 exact h
theorem S4(l:List eh)(p:Nat): (dK l).take p++(dK l).drop (p+1)=dK (l.eraseIdx p):=by
 unfold dK
 rw[<-dG,<-dR,<-aF,<-jG]
theorem S3(l:List eh)(p:Nat): (eo l).take p++(eo l).drop (p+1)=eo (l.eraseIdx p):=by
 unfold eo
 rw[<-dG,<-dR,<-aF,<-jG]
inductive FW (X:kR) (id:Int):kR->Int->Prop
 | EA (p:Nat) (h:iC X.ds id p) (h2:lf X.ds id p=false):FW X id wj 6
 | lines (p:Nat) (h:iC X.ds id p) (d:eh) (h2:X.ds[p]?=some d) (h3:d.id=id) (h4:eF X.xs d.ids=none):FW X id wj 6
 | ok (p:Nat) (h:iC X.ds id p) (d:eh) (h2:X.ds[p]?=some d) (h3:d.id=id) (X':kR) (h4:eF X.xs d.ids=some X'.xs) (h5:X'.ds=X.ds.eraseIdx p) (h6:X'.next=X.next):FW X id X' 0
section
variable {cf:Cf} {Q:Exit->Act->World->Prop} {σ mY:al} {env:Env} {hp kM:HP} {A:List AE} {nh nb:Nat}
theorem SO{ops:Array Oper}{U je:List Nat}{n:Nat}{listed:Array Bool}{i d:Nat}{o:Oper}{x y:Operand}{xt yt:TypeId}{m k':Int}(fL:o.op=.binOp .add xt x y yt)(hi:ops[i]?=some o)(hr:(Region.ready .any ops listed).contains i=true)(hf:Region.free .any ops listed i=true)(hk:U.contains i=false)(hd:o.dst=some d)(hg:bt (j9 ops o) env=some true)(hN:Nat.blt d cf.N=true)(hx:bP env x=some (.a (.v (.int .i64 m))))(hy:bP env y=some (.a (.v (.int .i64 k'))))(hb:-9223372036854775808<=m+k'/\m+k'<=9223372036854775807)(k:GB cf ops U (je++[i]) mY kM nb n (listed.setIfInBounds i true) Q σ ((d,.a (.v (.int .i64 (m+k'))))::env) hp A nh): GB cf ops U je mY kM nb (n+1) listed Q σ env hp A nh :=
 SN (.a (.v (.int .i64 (m+k')))) hi hr hf hk hd hg hN trivial (fun a β ha w _=>by
  have h1:a.eval x=.int .i64 m:=aD ha hx
  have h2:a.eval y=.int .i64 k':=aD ha hy
  simp only[execOp,fL,h1,h2,eqGuard_at_int,Sem.run_bind,Sem.run_pure,Result.andThen_ok,Ba (IntWalk.i64_in _ hb)]
  rfl) k
end
structure DrS where
 σ:al
 bo:Option Addr
 n:Nat
 bc:Nat
 nx:Int
 e:Int
theorem TY(σ:al)(X:kR)(IX:iS σ X)(hl:X.ds.length<=1000000)(ho:X.ds.Pairwise fun x y=>x.id<y.id)(pa:X.xs.length<=1000000)(X9:∀ x∈X.xs,-1000000<=x.ln/\x.ln<=1000000)(Eu:∀ d∈X.ds,d.ids.length<=1000000)(id:Int):
  fa Tryz.prog 41 [.agg (aA X),.a (.v (.int .i64 id))] σ (fun v bD=>∃(X':kR) (e:Int),v=(SV.ik [.agg (aA X'),.a (.v (.int .i64 e))]).den fy/\iS bD X'/\FW X id X' e):=by
 refine ek Tryz.func41 Z Z ⟨az 0 X,trivial,trivial⟩ fun w=>?_
 refine Za ?_
 refine cr 11 (.agg (aA X)) rfl (az _ _) (fun _=>rfl) ?_
 refine aT (ys:=[.agg (aA X),.a (.v (.int .i64 id))]) Z Z Z Z Z Tryz.call102 ⟨az 0 X,trivial,trivial⟩ (xG σ X IX.lT hl ho id) fun v ⟨p,hv,hp⟩=>⟨.ik [.a (.v (.int .i64 p)),.a (.b (lf X.ds id p))],Zl,hv.symm,?_⟩
 refine gX ?_
 refine ax 18 rfl (fun h=>?_) (fun h=>?_)
 ·have h:lf X.ds id p=false:=by simpa using h
  refine gn ?_
  refine aw TT rfl fun β w' _ _=>?_
  exact⟨wj,6,rfl,qK _,.EA p hp h⟩
 have h:lf X.ds id p=true:=by simpa using h
 obtain⟨d,hd,hid⟩:∃ d,X.ds[p]?=some d/\d.id=id:=by
  unfold lf at h
  cases hd:X.ds[p]? with
  | none=>rw[hd] at h;cases h
  | some d=>rw[hd] at h;exact⟨d,rfl,by simpa using h⟩
 have px:=(ah.1 hd).1
 have pU:=qI hd
 have An:=IX.doc d (aC hd)
 refine gX ?_
 refine aG rfl (fun h=>absurd (ae (show decide ((X.ds.length:Int)<=p)=true from h)) Zo) (fun _=>?_)
 have hgd:=JM σ X.xs pa X.next X.go X.gc IX.gl X9 d.ids (Eu d (aC hd)) d.lo d.zg An.2
 refine Zc ?_
 refine ji (fun(t:DrS)=>t.σ) (fun t=>[(2,.a (.p 0 0)),(4,.a (.p 1 0)),(6,.a (.v (.int .i64 p))),(8,.a (.p 3 0)),(9,.a (.v (.int .i64 t.e)))]) (fun t=>[(0,.loc 60,aA X),(1,.loc 60,aA wj),(3,.loc 57,[.v (.slice t.bo t.n t.bc),.v (.int .i64 t.nx)])]) (fun _=>[]) 4
  (fun t=>σ.le t.σ/\match eF X.xs d.ids with
   | none=>t.e=6
   | some ys=>t.n=ys.length/\t.nx=X.next/\t.e=0/\bu t.σ t.bo ys.length t.bc 3 (eI ys)) ?_ (fun⟨s1,bo,n,bc,nx,e⟩ ⟨cP,ht⟩=>?_)
 ·have Sw:fa Tryz.prog 112 [.agg [.v (.slice X.go X.xs.length X.gc),.v (.int .i64 X.next)],.a (.v (.slice d.lo d.ids.length d.zg))] σ (fun v bD=>∃ t:DrS,t.σ=bD/\v=(SV.ik [.agg [.v (.slice t.bo t.n t.bc),.v (.int .i64 t.nx)],.a (.v (.int .i64 t.e))]).den fy/\match eF X.xs d.ids with
    | none=>t.e=6
    | some ys=>t.n=ys.length/\t.nx=X.next/\t.e=0/\bu t.σ t.bo ys.length t.bc 3 (eI ys)):=fun w hw=>Calls.mono (hgd w hw) fun e w' ⟨v,bD,h1,h2,h3,h4,hv⟩=>⟨v,bD,h1,h2,h3,h4,by
   cases hq:eF X.xs d.ids with
   | none =>
    rw[hq] at hv
    exact⟨⟨bD,none,0,0,0,6⟩,rfl,hv,rfl⟩
   | some ys =>
    rw[hq] at hv
    obtain⟨bo,bc,hv,HY⟩:=hv
    exact⟨⟨bD,bo,ys.length,bc,X.next,0⟩,rfl,hv,rfl,rfl,rfl,HY⟩⟩
  refine sJ 14 [0,2,4,5,8,9,10,13] mixed Zk rfl ?_
  refine gw (i:=0) TT rfl Zk Zk Z Z Z Z Z ?_
  refine gw (i:=1) TT rfl Zk Zk Z Z Z Z Z ?_
  refine gw (i:=2) TT rfl Zk Zk Z Z Z Z Z ?_
  refine gw (i:=3) TT rfl Zk Zk Z Z Z Z Z ?_
  refine gw (i:=4) TT rfl Zk Zk Z Z Z Z Z ?_
  refine Mb (i:=5) TT Z Z Zk Zk Z Z Z Z Z Z Z Z Z IX.lines Zo pU ?_
  refine gw (i:=6) TT rfl Zk Zk Z Z Z Z Z ?_
  refine qM (i:=7) (j:=11) Zk ?_ ?_
  ·refine oa Z Z Z Z Z Tryz.call112 Zl Sw fun v s1 cP ⟨t,O4,hv,ht⟩=>⟨.ik [.agg [.v (.slice t.bo t.n t.bc),.v (.int .i64 t.nx)],.a (.v (.int .i64 t.e))],Zl,hv.symm,?_⟩
   subst O4
   refine iy [(8,.pure),(9,.pure),(10,.pure),(11,.dP),(12,.sink),(13,.pure)] Z Z Zk ?_
   refine lP ?_
   refine an t ⟨cP,ht⟩ aj rfl Zs Zs rfl Zl Zl
  ·refine n9 TT Z Z Z Z Z ?_
   refine iy [(7,.dP),(8,.pure),(9,.pure),(10,.pure),(12,.sink),(13,.pure)] Z Z Zk ?_
   refine bN Z Z Z Z Z Tryz.call112 Zl Sw fun v s1 cP ⟨t,O4,hv,ht⟩=>⟨.ik [.agg [.v (.slice t.bo t.n t.bc),.v (.int .i64 t.nx)],.a (.v (.int .i64 t.e))],Zl,hv.symm,?_⟩
   subst O4
   refine lP ?_
   refine an t ⟨cP,ht⟩ aj rfl Zs Zs rfl Zl Zl
 dsimp only at cP ht ⊢
 have IX:=IX.mono cP
 cases hq:eF X.xs d.ids with
 | none =>
  rw[hq] at ht
  have ht:e=6:=ht
  subst ht
  refine Za ?_
  refine aG rfl (fun _=>?_) (fun h=>absurd h (by decide))
  refine Zb ?_
  refine aw TT rfl fun β w' _ _=>?_
  exact⟨wj,6,rfl,qK _,.lines p hp d hd hid hq⟩
 | some ys =>
  rw[hq] at ht
  obtain⟨rfl,rfl,rfl,HY⟩:=ht
  refine Za ?_
  refine aG rfl (fun h=>absurd h (by decide)) (fun _=>?_)
  have Ub:(X.ds.eraseIdx p).length=p+(X.ds.length - (p+1)):=by rw[List.length_eraseIdx_of_lt px];omega
  have hdr:(dK X.ds).length=X.ds.length:=by simp[dK]
  have DU:(eo X.ds).length=X.ds.length:=by simp[eo]
  have mK:∀(s:al),s1.le s->∀ y∈ys,qk s y:=fun s hs y hy=>by
   obtain⟨x,hx,-,e2,e3,e4⟩:=uV hq y hy
   exact((IX.ok x hx).mono hs).of e2 e3 e4
  refine Zc ?_
  refine ky 18 [0,3,4,8,11,12,15,17] [(0,.loc 60,aA X),(1,.loc 60,aA wj),(3,.loc 57,[.v (.slice bo ys.length bc),.v (.int .i64 X.next)])] mixed Zk rfl (fT Zs) ?_
  refine bQ (i:=0) TT rfl Zk Zk Z Z Z Z Z ?_
  refine bQ (i:=1) TT rfl Zk Zk Z Z Z Z Z ?_
  refine bQ (i:=3) TT rfl Zk Zk Z Z Z Z Z ?_
  refine bQ (i:=4) TT rfl Zk Zk Z Z Z Z Z ?_
  refine SO (i:=5) Z Z Zk Zk Z Z Z Z Z Z Zo ?_
  refine bQ (i:=7) TT rfl Zk Zk Z Z Z Z Z ?_
  refine bQ (i:=8) TT rfl Zk Zk Z Z Z Z Z ?_
  refine bQ (i:=9) TT rfl Zk Zk Z Z Z Z Z ?_
  refine bQ (i:=11) TT rfl Zk Zk Z Z Z Z Z ?_
  refine bQ (i:=12) TT rfl Zk Zk Z Z Z Z Z ?_
  refine SO (i:=13) Z Z Zk Zk Z Z Z Z Z Z Zo ?_
  refine dp (i:=2) Zk ?_
  refine eg [] (A0:=[]) (Ar:=[]) Z Z Z Z Z Z Z Tryz.call109 Zl (FG s1 X.ds hl X.o X.c IX.lT) fun v s2 A2 cw ⟨qo,qc,hv,GF,hA⟩=>⟨.a (.v (.slice qo X.ds.length qc)),trivial,hv.symm,?_⟩
  subst hA
  have SD:=MA s2 (dK X.ds) (fun r hr=>⟨(fR _ r hr).1,(fR _ r hr).2.2⟩) Zo qo qc Zo p (p+1) Zo Zo
  rw[hdr,S4] at SD
  refine dp (i:=6) Zk ?_
  refine eg [0] (A0:=[⟨qo,X.ds.length,qc,90,2,(dK X.ds).flatten.map AT.val⟩]) (Ar:=[]) Z Z Z Z Z Z Z Tryz.call113 Zl SD fun v s3 A3 kV ⟨hv,hA⟩=>⟨.a (.v (.slice qo (p+(X.ds.length - (p+1))) qc)),trivial,hv.symm,?_⟩
  subst hA
  have W2:=al.le_trans cw kV
  have HLn:=IX.lines.mono W2
  refine dp (i:=10) Zk ?_
  refine eg [0] (A0:=[]) (Ar:=[⟨qo,p+(X.ds.length - (p+1)),qc,90,2,(dK (X.ds.eraseIdx p)).flatten.map AT.val⟩]) Z Z Z Z Z Z Z Tryz.call111 Zl (Fj s3 X.ds hl X.lo X.lc HLn) fun v s4 A4 pM ⟨ro,rc,hv,zj,hA⟩=>⟨.a (.v (.slice ro X.ds.length rc)),trivial,hv.symm,?_⟩
  subst hA
  have W7:=Mz s4 (eo X.ds) (fun r hr=>⟨(gF _ r hr).1,(gF _ r hr).2.2⟩) Zo ro rc Zo p (p+1) Zo Zo
  rw[DU,S3] at W7
  refine dp (i:=14) Zk ?_
  refine eg [0,1] (A0:=[⟨ro,X.ds.length,rc,74,1,(eo X.ds).flatten.map AT.val⟩]) (Ar:=[⟨qo,p+(X.ds.length - (p+1)),qc,90,2,(dK (X.ds.eraseIdx p)).flatten.map AT.val⟩]) Z Z Z Z Z Z Z Tryz.call114 Zl W7 fun v s5 A5 wX ⟨hv,hA⟩=>⟨.a (.v (.slice ro (p+(X.ds.length - (p+1))) rc)),trivial,hv.symm,?_⟩
  subst hA
  refine eS [(15,.pure),(16,.sink),(17,.pure)] Z Z Zk ?_
  refine gn ?_
  refine dD 0 Z Z fun s6 AR x4=>?_
  refine dD 0 Z Z fun s7 uQ Fy=>?_
  have hle:=al.le_trans W2 (al.le_trans pM (al.le_trans wX (al.le_trans AR uQ)))
  rw[<-Ub] at x4 Fy ⊢
  have HL2:bu s7 ro (X.ds.eraseIdx p).length rc 1 (eo (X.ds.eraseIdx p)):=(iO (l:=X.ds.eraseIdx p) (cap:=rc) x4 Zo).mono uQ
  have HD2:bu s7 qo (X.ds.eraseIdx p).length qc 2 (dK (X.ds.eraseIdx p)):=kO (l:=X.ds.eraseIdx p) (cap:=qc) Fy Zo
  refine aw TT rfl fun β w' _ _=>?_
  refine⟨⟨X.ds.eraseIdx p,qo,qc,ys,bo,bc,X.next,ro,rc⟩,0,rfl,⟨HD2,HL2,HY.mono hle,mK s7 hle,fun e he=>?_⟩,.ok p hp d hd hid _ hq Z Z⟩
  have:=IX.doc e (iH he)
  exact⟨this.1.mono hle,this.2.mono hle⟩
end Go.Sy
namespace Go.Sy
open Go.Proofs
theorem Xx: Tryz.prog.underlying 122=some (.struct (Tryz.prog.fieldsOf 122)):=by kernel_rfl
theorem J4(m:Nat)(a b:cq)(w:World): (Op.equalIn (m+1+1) 122 (.agg (jE a)) (.agg (jE b))).run Tryz.prog w=.ok (decide (a=b)) w:=by
 rw[run_equalIn_agg w (m+1) 122 _ _ Xx Zk]
 have h:mF (Tryz.prog.fieldsOf 122).toList [(3,0),(3,1),(3,2),(3,3),(3,4)]=true:=by kernel_rfl
 generalize (Tryz.prog.fieldsOf 122).toList=fl at h
 obtain⟨f0,fl,rfl,n0,t0,o0,h⟩:=cA h
 obtain⟨f1,fl,rfl,n1,t1,o1,h⟩:=cA h
 obtain⟨f2,fl,rfl,n2,t2,o2,h⟩:=cA h
 obtain⟨f3,fl,rfl,n3,t3,o3,h⟩:=cA h
 obtain⟨f4,fl,rfl,n4,t4,o4,h⟩:=cA h
 cases fl with
 | cons _ _=>cases h
 | nil =>
  have ii:∀(f:Field) (o:Nat) (r:cq) (x:Int),f.type=3->f.offset=o->(jE r)[o]?=some (.int .i64 x)->(part f.type (jE r) f.offset).run Tryz.prog w=.ok (.int .i64 x) w:=fun f o r x ht ho hx=>jg (by rw[ht];exact pF) rfl (by rw[ho];exact hx)
  rw[cW (r:=a.doc == b.doc) n0 (ii f0 0 a _ t0 o0 rfl) (ii f0 0 b _ t0 o0 rfl) (run_equalIn_int w m f0.type .i64 .i64 a.doc b.doc (by rw[t0];exact pF))]
  rw[cW (r:=a.at_ == b.at_) n1 (ii f1 1 a _ t1 o1 rfl) (ii f1 1 b _ t1 o1 rfl) (run_equalIn_int w m f1.type .i64 .i64 a.at_ b.at_ (by rw[t1];exact pF))]
  rw[cW (r:=a.st == b.st) n2 (ii f2 2 a _ t2 o2 rfl) (ii f2 2 b _ t2 o2 rfl) (run_equalIn_int w m f2.type .i64 .i64 a.st b.st (by rw[t2];exact pF))]
  rw[cW (r:=a.en == b.en) n3 (ii f3 3 a _ t3 o3 rfl) (ii f3 3 b _ t3 o3 rfl) (run_equalIn_int w m f3.type .i64 .i64 a.en b.en (by rw[t3];exact pF))]
  rw[cW (r:=a.lv == b.lv) n4 (ii f4 4 a _ t4 o4 rfl) (ii f4 4 b _ t4 o4 rfl) (run_equalIn_int w m f4.type .i64 .i64 a.lv b.lv (by rw[t4];exact pF))]
  simp only[Op.eqFields,Sem.run_pure]
  have:(decide (a=b))=(a.doc == b.doc&&(a.at_ == b.at_&&(a.st == b.st&&(a.en == b.en&&(a.lv == b.lv))))):=by
   rw[cg]
   cases a;cases b
   simp
  rw[this]
  cases (a.doc == b.doc)<;>cases (a.at_ == b.at_)<;>cases (a.st == b.st)<;>cases (a.en == b.en)<;>cases (a.lv == b.lv)<;>rfl
section
variable {cf:Cf} {Q:Exit->Act->World->Prop} {σ:al} {env:Env} {hp:HP} {A:List AE} {nh:Nat} {it:Item} {rest:List Item}
theorem z7{d:Nat}{x y:Operand}{yt:TypeId}(a b:cq)(hP:cf.P=Tryz.prog)(fL:it.o.op=.binOp .neq 122 x y yt)(hd:it.o.dst=some d)(hg:bt it.guard env=some true)(hN:Nat.blt d cf.N=true)(hx:bP env x=some (.agg (cm a)))(hy:bP env y=some (.agg (cm b)))(hk:OJ cf rest Q σ ((d,.a (.b (!decide (a=b))))::env) hp A nh): OJ cf (it::rest) Q σ env hp A nh:=by
 refine jB (.a (.b (!decide (a=b)))) hd hg hN trivial (fun _ ac β ha w=>?_) hk
 have h1:ac.eval x=.agg (jE a):=aD ha hx
 have h2:ac.eval y=.agg (jE b):=aD ha hy
 rw[hP]
 have hG:(eqGuard .neq 122 x y (.agg (jE a)) (.agg (jE b))).run Tryz.prog w=.ok () w:=run_eqGuard_agg w _ _ _ _ _ _ Zk
 have hE:(Op.equalIn 10000 122 (.agg (jE a)) (.agg (jE b))).run Tryz.prog w=.ok (decide (a=b)) w:=J4 9998 a b w
 have hB:(binOp .neq 122 (.agg (jE a)) (.agg (jE b))).run Tryz.prog w=.ok (.bool (!decide (a=b))) w:=by
  rw[run_neq_struct,hE]
  rfl
 simp only[execOp,fL,h1,h2,Sem.run_bind,hG,hB,Result.andThen_ok,Sem.run_pure]
 rfl
end
def R4 (ao:Option Addr) (cap:Nat) (l:List cq):AE:=⟨ao,l.length,cap,122,5,pK l⟩
theorem tq{σ:al}{ao:Option Addr}{cap:Nat}{l:List cq}(hS:b9 σ (R4 ao cap l))(hc:l.length<=cap): bu σ ao l.length cap 5 (eP l) :=
 hS.sl rfl (fun r hr=>⟨(kB l r hr).1,(kB l r hr).2.1⟩) (by simp[eP]) rfl hc
structure ah3 where
 k:Nat
 oo:Option Addr
 oc:Nat
theorem oG(σ:al)(xs:List cq)(hl:xs.length<=100000000)(ao:Option Addr)(cap:Nat)(H:bu σ ao xs.length cap 5 (eP xs)):
  fa Tryz.prog 44 [.a (.v (.slice ao xs.length cap))] σ (fun v bD=>∃ bo bc,v=.slice bo xs.length bc/\bu bD bo xs.length bc 5 (eP xs)):=by
 refine ek Tryz.func44 Z Z Zl fun w=>?_
 refine Zd ?_
 refine dV 122 5 ?_
 refine bX (fun(_:ah3)=>σ) (fun t=>[(0,.a (.v (.slice ao xs.length cap))),(3,.a (.v (.slice t.oo (xs.take t.k).length t.oc))),(4,.a (.v (.int .i64 (t.k:Nat))))]) (fun _=>[]) (fun t=>[R4 t.oo t.oc (xs.take t.k)]) 0
  (fun t=>t.k<=xs.length/\t.k<=t.oc) (fun t=>xs.length - t.k) ⟨0,none,0⟩ ⟨ay _,aq _⟩ rfl Zs Zs rfl Zl Zl fun⟨k,bo,bc⟩ ⟨hk,oq⟩=>?_
 dsimp only at hk oq ⊢
 refine Za ?_
 refine aG rfl (fun h=>?_) (fun h=>?_)
 rotate_left
 ·have fQ:k=xs.length:=by have:=ab h;omega
  subst fQ
  rw[aI]
  refine Ze ?_
  refine dD 0 Z Z fun s2 cw hS=>?_
  refine aw TT rfl fun β w' _ _=>?_
  exact⟨bo,bc,rfl,tq hS oq⟩
 have cz:k<xs.length:=by have:=ae h;omega
 have uk:=ld (aa cz)
 have mi:xs.take (k+1)=xs.take k++[xs[k]]:=ak cz
 have Ys:(xs.take k).length=k:=by rw[aE];omega
 generalize xs[k]=x at *
 have LV:(xs.take (k+1)).length=k+1:=by rw[aE];omega
 have x5:R4 bo bc (xs.take k)=⟨bo,k,bc,122,5,pK (xs.take k)⟩:=by unfold R4;rw[Ys]
 rw[Ys,x5]
 refine Zd ?_
 refine ck [(0,.pure),(1,.pure),(2,.pure),(3,.pure),(4,.pure),(5,.quiet),(6,.pure),(7,.pure),(8,.pure),(9,.pure),(10,.quiet),(11,.pure),(12,.pure),(13,.pure),(14,.pure),(15,.quiet),(16,.pure),(17,.pure),(18,.pure),(19,.pure),(20,.quiet),(21,.pure),(22,.pure),(23,.pure),(24,.pure),(25,.quiet),(26,.pure),(27,.dP),(28,.sink),(29,.pure)] mixed Zk (aM TT rfl ?_)
 refine bk TT Z Z Z Z Z Z Z Z Z H Zo uk (Zr ?_)
 refine bk TT Z Z Z Z Z Z Z Z Z H Zo uk (Zr ?_)
 refine bk TT Z Z Z Z Z Z Z Z Z H Zo uk (Zr ?_)
 refine bk TT Z Z Z Z Z Z Z Z Z H Zo uk (Zr ?_)
 refine bk TT Z Z Z Z Z Z Z Z Z H Zo uk (Zr ?_)
 refine bl TT 0 Z Z Z Z Z Z Z Z Z Z Z Z Z Z Z Z Z Z Zl rfl Zo (by show(k+1)*40<=_;omega) fun iB dk gS=>aM TT rfl ?_
 refine Zc ?_
 refine an (⟨k+1,iB,dk⟩:ah3) ⟨cz,gS⟩ (by dsimp only;omega) rfl ?_ Zs ?_ Zl Zl
 ·dsimp only
  rw[LV]
  (repeat first | exact trivial | refine⟨rfl,?_⟩)
 ·show [_]=[_]
  dsimp only
  unfold R4
  rw[LV,mi,rz]
  rfl
theorem sP(σ:al)(a b:List cq)(hl:a.length<=140737488355328)(ao:Option Addr)(ac:Nat)(HA:bu σ ao a.length ac 5 (eP a))(bo:Option Addr)(bc:Nat)(HB:bu σ bo b.length bc 5 (eP b)):
  bZ Tryz.prog 43 [.a (.v (.slice ao a.length ac)),.a (.v (.slice bo b.length bc))] σ (fun v=>v=.bool (decide (a=b))):=by
 refine bW Tryz.func43 Z Z Zl fun w=>?_
 refine Za ?_
 refine aG rfl (fun h=>?_) (fun h=>?_)
 ·have h:(!decide ((a.length:Int)=b.length))=true:=h
  have jv:a≠b:=fun e=>by rw[e] at h;simp at h
  refine Zb ?_
  refine aw TT rfl fun β w' _ _=>?_
  rw[b7 jv]
  rfl
 have hlen:a.length=b.length:=by
  have h:(!decide ((a.length:Int)=b.length))=false:=h
  simp at h
  omega
 refine Zd ?_
 refine bX (fun(_:Nat)=>σ) (fun k=>[(0,.a (.v (.slice ao a.length ac))),(1,.a (.v (.slice bo b.length bc))),(5,.a (.v (.int .i64 k)))]) (fun _=>[]) (fun _=>[]) 0 (fun k=>k<=a.length/\a.take k=b.take k) (fun k=>a.length - k) 0 ⟨ay _,rfl⟩ rfl Zs Zs rfl Zl Zl fun k ⟨hk,hw⟩=>?_
 refine Za ?_
 refine aG rfl (fun h=>?_) (fun h=>?_)
 rotate_left
 ·have fQ:k=a.length:=by have:=ab h;omega
  rw[fQ,aI,hlen,aI] at hw
  refine Ze ?_
  refine aw TT rfl fun β w' _ _=>?_
  rw[bj hw]
  rfl
 have cz:k<a.length:=by have:=ae h;omega
 have Su:k<b.length:=by omega
 have uk:=ld (aa cz)
 have Qa:=ld (aa Su)
 have hta:a.take (k+1)=a.take k++[a[k]]:=ak cz
 have htb:b.take (k+1)=b.take k++[b[k]]:=ak Su
 have YQ:a=b->a[k]=b[k]:=fun e=>by subst e;rfl
 generalize a[k]=x at *
 generalize b[k]=y at *
 refine Zd ?_
 refine ck [(0,.pure),(1,.pure),(2,.pure),(3,.quiet),(4,.pure),(5,.pure),(6,.pure),(7,.quiet),(8,.pure)] mixed Zk (aM TT rfl ?_)
 refine bk TT Z Z Z Z Z Z Z Z Z HA Zo uk (Zr ?_)
 refine bk TT Z Z Z Z Z Z Z Z Z HB Zo Qa (Zr ?_)
 refine z7 x y Z Z Z Z Z Z Z (Zr ?_)
 refine Za ?_
 refine aG rfl (fun h=>?_) (fun h=>?_)
 ·have h:(!decide (x=y))=true:=h
  have jv:a≠b:=fun e=>by rw[YQ e] at h;simp at h
  refine Zb ?_
  refine aw TT rfl fun β w' _ _=>?_
  rw[b7 jv]
  rfl
 have AN:x=y:=by
  have h:(!decide (x=y))=false:=h
  simpa using h
 refine Zc ?_
 refine an (k+1) ⟨cz,by rw[hta,htb,hw,AN]⟩ Zo rfl Zs Zs rfl Zl Zl
theorem PW(σ:al)(X:kR)(IX:iS σ X)(hl:X.ds.length<=1000000)(ho:X.ds.Pairwise fun x y=>x.id<y.id)(id:Int)(hid:∃ d∈X.ds,d.id=id)(L:List aH)(R:rT L)(hs:eG L=true)(ao:Option Addr)(cap:Nat)(H:bu σ ao L.length cap 11 (cv L)):
  bZ Tryz.prog 40 [.agg (aA X),.agg [.v (.int .i64 id),.v (.slice ao L.length cap)]] σ (fun v=>v=(SV.ik [.agg (aA wj),.a (.v (.int .i64 7))]).den fy):=by
 refine bW Tryz.func40 Z Z ⟨az 0 X,Zl,trivial⟩ fun w=>?_
 refine Za ?_
 refine aT Z Z Z Z Z Tryz.call105 Zl (BC σ L R.len R.fit R.bw ao cap H) fun v hv=>⟨.a .tt,trivial,by rw[hv,hs];rfl,?_⟩
 refine pC ?_
 refine cr 16 (.agg (aA X)) rfl (az _ _) (fun _=>rfl) ?_
 refine aT (ys:=[.agg (aA X),.a (.v (.int .i64 id))]) Z Z Z Z Z Tryz.call102 ⟨az 0 X,trivial,trivial⟩ (xG σ X IX.lT hl ho id) fun v ⟨p,hv,hp⟩=>⟨.ik [.a (.v (.int .i64 p)),.a (.b (lf X.ds id p))],Zl,hv.symm,?_⟩
 have hi:lf X.ds id p=true:=by
  have h1:=tJ ho hp
  cases hb:lf X.ds id p with
  | true=>rfl
  | false =>
   rw[hb,ai (by decide),List.find?_eq_none] at h1
   obtain⟨d,hd,he⟩:=hid
   exact absurd (h1 d hd) (by simp[he])
 rw[hi]
 refine gX ?_
 refine aG rfl (fun _=>?_) (fun h=>absurd h (by decide))
 refine Zb ?_
 refine aw TT rfl fun β w' _ _=>?_
 rfl
end Go.Sy
namespace Go.Sy
open Go.Proofs
theorem Ol{L:List aH}(h:eG L=true): kr 0 L:=by
 unfold eG lK at h
 rw[aX] at h
 split at h
 ·exact absurd h (by decide)
 ·rename_i hn
  have Al:gK L=true:=by
   cases e:gK L with
   | true=>rfl
   | false=>exact absurd (.inr (.inl e)) hn
  unfold gK at Al
  rw[aQ] at Al
  exact rn L 0 [] _ Al.1
theorem TX(σ:al)(X:kR)(id:Int)(L:List aH)(R:rT L)(hs:eG L=false)(ao:Option Addr)(cap:Nat)(H:bu σ ao L.length cap 11 (cv L)):
  bZ Tryz.prog 40 [.agg (aA X),.agg [.v (.int .i64 id),.v (.slice ao L.length cap)]] σ (fun v=>v=(SV.ik [.agg (aA wj),.a (.v (.int .i64 2))]).den fy):=by
 refine bW Tryz.func40 Z Z ⟨az 0 X,Zl,trivial⟩ fun w=>?_
 refine Zg ?_
 refine aT Z Z Z Z Z Tryz.call105 Zl (BC σ L R.len R.fit R.bw ao cap H) fun v hv=>⟨.a .ff,trivial,by rw[hv,hs];rfl,?_⟩
 refine pC ?_
 refine aw TT rfl fun β w' _ _=>?_
 rfl
structure Xq where
 σ:al
 ps:List fH
 bo:Option Addr
 bc:Nat
 io:Option Addr
 ic:Nat
theorem Ku(σ:al)(X:kR)(IX:iS σ X)(ho:X.ds.Pairwise fun x y=>x.id<y.id)(id:Int)(L:List aH)(R:rT L)(hL:L.length<=100000)(hs:eG L=true)(ao:Option Addr)(cap:Nat)(H:bu σ ao L.length cap 11 (cv L))(hid:∀ d∈X.ds,d.id≠id)(Db:X.ds.length<=1000)(m:Nat)(lj:nI m ⟨X.xs,X.next,[]⟩)(hm:m+L.length<=1000000):
  fa Tryz.prog 40 [.agg (aA X),.agg [.v (.int .i64 id),.v (.slice ao L.length cap)]] σ (fun v bD=>∃(X':kR) (p:Nat) (ps:List fH) (io:Option Addr) (ic:Nat),v=(SV.ik [.agg (aA X'),.a (.v (.int .i64 0))]).den fy/\iS bD X'/\iC X.ds id p /\
   ps.map fH.ss=fq L/\X'.ds=X.ds.take p++⟨id,ao,cap,L,io,ic,(bS ⟨X.xs,X.next,[]⟩ ps).ids⟩::X.ds.drop p/\X'.xs=(bS ⟨X.xs,X.next,[]⟩ ps).xs/\X'.next=(bS ⟨X.xs,X.next,[]⟩ ps).next/\nI (m+L.length) ⟨X'.xs,X'.next,[]⟩):=by
 have GM:=Ol hs
 refine ek Tryz.func40 Z Z ⟨az 0 X,Zl,trivial⟩ fun w=>?_
 refine Zg ?_
 refine aT Z Z Z Z Z Tryz.call105 Zl (BC σ L R.len R.fit R.bw ao cap H) fun v hv=>⟨.a .tt,trivial,by rw[hv,hs];rfl,?_⟩
 refine pC ?_
 refine cr 16 (.agg (aA X)) rfl (az _ _) (fun _=>rfl) ?_
 refine aT Z Z Z Z Z Tryz.call102 Zl (xG σ X IX.lT Zo ho id) fun v ⟨p,hv,hp⟩=>⟨.ik [.a (.v (.int .i64 p)),.a .ff],Zl,?_,?_⟩
 ·rw[hv]
  have:lf X.ds id p=false:=by
   unfold lf
   cases h:X.ds[p]? with
   | none=>rfl
   | some d=>exact b7 (hid d (aC h))
  rw[this]
  rfl
 have GG:=hp.le
 refine pC ?_
 have px:∀ {ps:List fH},ps.map fH.ss=fq L->ps.length=L.length:=fun {ps} h=>by
  have h2:=aN List.length h
  rw[aR] at h2
  rw[h2]
  exact m5 _ _
 refine ji (fun(t:Xq)=>t.σ) (fun t=>[(2,.a (.p 0 0)),(3,.a (.p 1 0)),(4,.a (.p 2 0)),(6,.a (.v (.int .i64 p))),(8,.a (.p 3 0)),(9,.a (.v (.slice t.io (bS ⟨X.xs,X.next,[]⟩ t.ps).ids.length t.ic)))])
  (fun t=>[(0,.loc 60,aA X),(1,.loc 90,[.v (.int .i64 id),.v (.slice ao L.length cap)]),(2,.loc 60,[.v (.slice none 0 0),.v (.slice none 0 0),.v (.int .i64 0),.v (.slice none 0 0)]),(3,.loc 57,[.v (.slice t.bo (bS ⟨X.xs,X.next,[]⟩ t.ps).xs.length t.bc),.v (.int .i64 (bS ⟨X.xs,X.next,[]⟩ t.ps).next)])]) (fun _=>[]) 4
  (fun t=>σ.le t.σ/\t.ps.map fH.ss=fq L/\(∀ p∈t.ps,uh t.σ p)/\bu t.σ t.bo (bS ⟨X.xs,X.next,[]⟩ t.ps).xs.length t.bc 3 (eI (bS ⟨X.xs,X.next,[]⟩ t.ps).xs)/\bu t.σ t.io (bS ⟨X.xs,X.next,[]⟩ t.ps).ids.length t.ic 1 (kK (bS ⟨X.xs,X.next,[]⟩ t.ps).ids)) ?_ (fun t ht=>?_)
 ·have Ak:=fun(s:al) (hle:σ.le s)=>Wn s L R hL hs GM ao cap (H.mono hle)
  have pP:=fun(s:al) (hle:σ.le s) (ps:List fH) (ou:ps.map fH.ss=fq L) (mK:∀ p∈ps,uh s p) (po:Option Addr) (pc:Nat) (P:bu s po ps.length pc 1 (oH ps)) =>
   ah5 s X.xs X.next X.go X.gc (IX.gl.mono hle) (fun x hx=>(IX.ok x hx).mono hle) ps po pc P mK m lj (by rw[px ou];omega)
  refine sJ 12 [0,2,6,7,8,11] mixed Zk rfl ?_
  refine gw (i:=0) TT rfl Zk Zk Z Z Z Z Z ?_
  refine gw (i:=1) TT rfl Zk Zk Z Z Z Z Z ?_
  refine gw (i:=2) TT rfl Zk Zk Z Z Z Z Z ?_
  refine gw (i:=3) TT rfl Zk Zk Z Z Z Z Z ?_
  refine qM (i:=4) (j:=9) Zk ?_ ?_
  ·refine oa Z Z Z Z Z Tryz.call107 Zl (Ak σ (al.le_refl _)) fun v s1 cP ⟨ps,po,pc,hv,P,mK,ou⟩=>⟨.a (.v (.slice po ps.length pc)),trivial,hv.symm,?_⟩
   refine qM (i:=5) (j:=9) Zk ?_ ?_
   ·refine oa Z Z Z Z Z Tryz.call106 Zl (pP s1 cP ps ou mK po pc P) fun v s2 cw ⟨bo,bc,io,ic,hv,HB,HI⟩=>⟨.ik [.agg [.v (.slice bo (bS ⟨X.xs,X.next,[]⟩ ps).xs.length bc),.v (.int .i64 (bS ⟨X.xs,X.next,[]⟩ ps).next)],.a (.v (.slice io (bS ⟨X.xs,X.next,[]⟩ ps).ids.length ic))],Zl,hv.symm,?_⟩
    refine iy [(6,.pure),(7,.pure),(8,.pure),(9,.dP),(10,.sink),(11,.pure)] Z Z Zk ?_
    refine pC ?_
    refine an (⟨s2,ps,bo,bc,io,ic⟩:Xq) ⟨al.le_trans cP cw,ou,fun p hp=>(mK p hp).mono cw,HB,HI⟩ aj rfl Zs Zs rfl Zl Zl
   ·refine n9 TT Z Z Z Z Z ?_
    refine iy [(5,.dP),(6,.pure),(7,.pure),(8,.pure),(10,.sink),(11,.pure)] Z Z Zk ?_
    refine bN Z Z Z Z Z Tryz.call106 Zl (pP s1 cP ps ou mK po pc P) fun v s2 cw ⟨bo,bc,io,ic,hv,HB,HI⟩=>⟨.ik [.agg [.v (.slice bo (bS ⟨X.xs,X.next,[]⟩ ps).xs.length bc),.v (.int .i64 (bS ⟨X.xs,X.next,[]⟩ ps).next)],.a (.v (.slice io (bS ⟨X.xs,X.next,[]⟩ ps).ids.length ic))],Zl,hv.symm,?_⟩
    refine pC ?_
    refine an (⟨s2,ps,bo,bc,io,ic⟩:Xq) ⟨al.le_trans cP cw,ou,fun p hp=>(mK p hp).mono cw,HB,HI⟩ aj rfl Zs Zs rfl Zl Zl
  ·refine n9 TT Z Z Z Z Z ?_
   refine iy [(4,.dP),(5,.dP),(6,.pure),(7,.pure),(8,.pure),(10,.sink),(11,.pure)] Z Z Zk ?_
   refine bN Z Z Z Z Z Tryz.call107 Zl (Ak σ (al.le_refl _)) fun v s1 cP ⟨ps,po,pc,hv,P,mK,ou⟩=>⟨.a (.v (.slice po ps.length pc)),trivial,hv.symm,?_⟩
   refine Zr ?_
   refine bN Z Z Z Z Z Tryz.call106 Zl (pP s1 cP ps ou mK po pc P) fun v s2 cw ⟨bo,bc,io,ic,hv,HB,HI⟩=>⟨.ik [.agg [.v (.slice bo (bS ⟨X.xs,X.next,[]⟩ ps).xs.length bc),.v (.int .i64 (bS ⟨X.xs,X.next,[]⟩ ps).next)],.a (.v (.slice io (bS ⟨X.xs,X.next,[]⟩ ps).ids.length ic))],Zl,hv.symm,?_⟩
   refine pC ?_
   refine an (⟨s2,ps,bo,bc,io,ic⟩:Xq) ⟨al.le_trans cP cw,ou,fun p hp=>(mK p hp).mono cw,HB,HI⟩ aj rfl Zs Zs rfl Zl Zl
 obtain⟨s0,ps,bo,bc,io,ic⟩:=t
 obtain⟨ow,ou,mK,HB,HI⟩:=ht
 dsimp only at ow ou mK HB HI ⊢
 have hlen:=px ou
 have x2:=qU ps lj
 rw[hlen] at x2
 have YD:=sO (s:=⟨X.xs,X.next,[]⟩) ps (fun x hx=>(IX.ok x hx).mono ow) mK
 have Sx:nI (m+L.length) ⟨(bS ⟨X.xs,X.next,[]⟩ ps).xs,(bS ⟨X.xs,X.next,[]⟩ ps).next,[]⟩:=⟨x2.xs,ay _,x2.next,x2.ln⟩
 generalize YU:bS ⟨X.xs,X.next,[]⟩ ps=G at *
 generalize Pf:(⟨id,ao,cap,L,io,ic,G.ids⟩:eh)=d at *
 have VH:gL d=[.v (.int .i64 id),.v (.slice ao L.length cap)]:=by rw[<-Pf];rfl
 have hli:vA d=[.v (.slice io G.ids.length ic)]:=by rw[<-Pf];rfl
 have iZ:∀(s:al) (so:Option Addr) (sc:Nat) (to:Option Addr) (tc:Nat),s0.le s->bu s so (X.ds.take p++d::X.ds.drop p).length sc 2 (dK (X.ds.take p++d::X.ds.drop p))->bu s to (X.ds.take p++d::X.ds.drop p).length tc 1 (eo (X.ds.take p++d::X.ds.drop p)) ->
   ∃(X':kR) (p':Nat) (UZ:List fH) (XZ:Option Addr) (X0:Nat),(SV.ik [.agg [.v (.slice so (X.ds.take p++d::X.ds.drop p).length sc),.v (.slice bo G.xs.length bc),.v (.int .i64 G.next),.v (.slice to (X.ds.take p++d::X.ds.drop p).length tc)],.a (.v (.int .i64 0))]).den fy=(SV.ik [.agg (aA X'),.a (.v (.int .i64 0))]).den fy/\iS s X'/\iC X.ds id p' /\
   UZ.map fH.ss=fq L/\X'.ds=X.ds.take p'++⟨id,ao,cap,L,XZ,X0,(bS ⟨X.xs,X.next,[]⟩ UZ).ids⟩::X.ds.drop p'/\X'.xs=(bS ⟨X.xs,X.next,[]⟩ UZ).xs/\X'.next=(bS ⟨X.xs,X.next,[]⟩ UZ).next/\nI (m+L.length) ⟨X'.xs,X'.next,[]⟩:=by
  intro s so sc to tc hle HD HL
  refine⟨⟨X.ds.take p++d::X.ds.drop p,so,sc,G.xs,bo,bc,G.next,to,tc⟩,p,ps,io,ic,rfl,⟨HD,HL,HB.mono hle,fun x hx=>(YD x hx).mono hle,fun e he=>?_⟩,hp,ou,by rw[YU,<-Pf],by rw[YU],by rw[YU],Sx⟩
  rw[bz,bM] at he
  rcases he with he | rfl | he
  ·have:=IX.doc e (dr he)
   exact⟨this.1.mono (al.le_trans ow hle),this.2.mono (al.le_trans ow hle)⟩
  ·subst Pf
   exact⟨H.mono (al.le_trans ow hle),HI.mono hle⟩
  ·have:=IX.doc e (fZ he)
   exact⟨this.1.mono (al.le_trans ow hle),this.2.mono (al.le_trans ow hle)⟩
 have HDc:=IX.lT.mono ow
 have HLc:=IX.lines.mono ow
 refine gz ?_
 refine ky 18 [0,3,8,11,12,15,17] [(0,.loc 60,aA X),(1,.loc 90,[.v (.int .i64 id),.v (.slice ao L.length cap)]),(3,.loc 57,[.v (.slice bo G.xs.length bc),.v (.int .i64 G.next)])] mixed Zk rfl (fT Zs) ?_
 refine bQ (i:=0) TT rfl Zk Zk Z Z Z Z Z ?_
 refine bQ (i:=1) TT rfl Zk Zk Z Z Z Z Z ?_
 refine bQ (i:=3) TT rfl Zk Zk Z Z Z Z Z ?_
 refine bQ (i:=4) TT rfl Zk Zk Z Z Z Z Z ?_
 refine bQ (i:=7) TT rfl Zk Zk Z Z Z Z Z ?_
 refine bQ (i:=8) TT rfl Zk Zk Z Z Z Z Z ?_
 refine bQ (i:=9) TT rfl Zk Zk Z Z Z Z Z ?_
 refine bQ (i:=11) TT rfl Zk Zk Z Z Z Z Z ?_
 refine bQ (i:=12) TT rfl Zk Zk Z Z Z Z Z ?_
 have hle:s0.le s0:=al.le_refl _
 have K2:=fun(s:al) (h:s0.le s)=>FG s X.ds Zo X.o X.c (HDc.mono h)
 have Um:=fun(s:al) (h:s0.le s)=>Fj s X.ds Zo X.lo X.lc (HLc.mono h)
 have k5:=fun(s:al) (g:Nat) (hS:b9 s ⟨some ⟨g,0,none⟩,1,1,90,2,[AT.v (.int .i64 id),AT.v (.slice ao L.length cap)].map AT.val⟩)=>(kO (cap:=1) (l:=[d]) (by unfold GZ uX dK;rw[List.map_singleton,VH];exact hS) (aq _):bu s (some ⟨g,0,none⟩) 1 1 2 (dK [d]))
 have Vm:=fun(s:al) (g:Nat) (hS:b9 s ⟨some ⟨g,0,none⟩,1,1,74,1,[AT.v (.slice io G.ids.length ic)].map AT.val⟩)=>(iO (cap:=1) (l:=[d]) (by unfold zf vS eo;rw[List.map_singleton,hli];exact hS) (aq _):bu s (some ⟨g,0,none⟩) 1 1 1 (eo [d]))
 have K6:=fun(s:al) (g:Nat) (V:bu s (some ⟨g,0,none⟩) 1 1 2 (dK [d])) (hP:pd s g) (qo:Option Addr) (qc:Nat) (GF:X.ds.length<=qc)=>Tg s X.ds Zo p GG qo qc GF d g 1 V hP
 have Ul:=fun(s:al) (g:Nat) (V:bu s (some ⟨g,0,none⟩) 1 1 1 (eo [d])) (hP:pd s g) (ro:Option Addr) (rc:Nat) (zj:X.ds.length<=rc)=>RT s X.ds Zo p GG ro rc zj d g 1 V hP
 refine SM (i:=2) (j:=5) (l:=13) Zk ?_ ?_ ?_
 ·refine eg [] (A0:=[]) (Ar:=[]) Z Z Z Z Z Z Z Tryz.call109 Zl (K2 _ hle) fun v s1 A' hl ⟨qo,qc,hv,GF,hA⟩=>⟨.a (.v (.slice qo X.ds.length qc)),trivial,hv.symm,?_⟩
  subst hA
  have hle:=al.le_trans hle hl
  refine od (i:=5) (j:=13) Zk ?_ ?_
  ·refine gG TT Z Z Z Z Z ?_
   refine jk 4 1 2 rfl Zl rfl (by decide) rfl fun g5=>?_
   refine ku 1 (g:=g5) Z Z (dW rfl) rfl fun s2 hl hS Br=>?_
   have hle:=al.le_trans hle hl
   have V5:=k5 _ _ hS
   refine od (i:=6) (j:=13) Zk ?_ ?_
   ·refine eg [0] (A0:=[GZ qo qc X.ds]) (Ar:=[]) Z Z Z Z Z Z Z Tryz.call108 Zl (K6 _ g5 V5 Br qo qc GF) fun v s3 A' hl ⟨so,sc,hv,pb,hA⟩=>⟨.a (.v (.slice so (X.ds.take p++d::X.ds.drop p).length sc)),trivial,hv.symm,?_⟩
    subst hA
    have hle:=al.le_trans hle hl
    refine gW 0 Z Z fun s4 hl hS=>?_
    have hle:=al.le_trans hle hl
    have HD:=kO hS pb
    refine od (i:=10) (j:=13) Zk ?_ ?_
    ·refine eg [] (A0:=[]) (Ar:=[]) Z Z Z Z Z Z Z Tryz.call111 Zl (Um _ hle) fun v s5 A' hl ⟨ro,rc,hv,zj,hA⟩=>⟨.a (.v (.slice ro X.ds.length rc)),trivial,hv.symm,?_⟩
     subst hA
     have hle:=al.le_trans hle hl
     have HD:=HD.mono hl
     refine dp (i:=13) Zk ?_
     refine gG TT Z Z Z Z Z ?_
     refine jk 5 1 1 rfl Zl rfl (by decide) rfl fun g13=>?_
     refine ku 1 (g:=g13) Z Z (dW rfl) rfl fun s6 hl hS gj=>?_
     have hle:=al.le_trans hle hl
     have HD:=HD.mono hl
     have mj:=Vm _ _ hS
     refine dp (i:=14) Zk ?_
     refine eg [0] (A0:=[zf ro rc X.ds]) (Ar:=[]) Z Z Z Z Z Z Z Tryz.call110 Zl (Ul _ g13 mj gj ro rc zj) fun v s7 A' hl ⟨to,tc,hv,DT,hA⟩=>⟨.a (.v (.slice to (X.ds.take p++d::X.ds.drop p).length tc)),trivial,hv.symm,?_⟩
     subst hA
     have hle:=al.le_trans hle hl
     have HD:=HD.mono hl
     refine gW 0 Z Z fun s8 hl hS=>?_
     have hle:=al.le_trans hle hl
     have HD:=HD.mono hl
     have HL:=iO hS DT
     refine eS [(15,.pure),(16,.sink),(17,.pure)] Z Z Zk ?_
     refine pC ?_
     refine aw TT rfl fun β w' _ _=>?_
     exact iZ _ so sc to tc hle HD HL
    ·refine gG TT Z Z Z Z Z ?_
     refine jk 5 1 1 rfl Zl rfl (by decide) rfl fun g13=>?_
     refine ku 0 (g:=g13) Z Z (dW rfl) rfl fun s9 hl hS gj=>?_
     have hle:=al.le_trans hle hl
     have HD:=HD.mono hl
     have mj:=Vm _ _ hS
     refine dp (i:=10) Zk ?_
     refine eg [] (A0:=[]) (Ar:=[]) Z Z Z Z Z Z Z Tryz.call111 Zl (Um _ hle) fun v s10 A' hl ⟨ro,rc,hv,zj,hA⟩=>⟨.a (.v (.slice ro X.ds.length rc)),trivial,hv.symm,?_⟩
     subst hA
     have hle:=al.le_trans hle hl
     have HD:=HD.mono hl
     have mj:=mj.mono hl
     have gj:=gj.mono hl
     refine dp (i:=14) Zk ?_
     refine eg [0] (A0:=[zf ro rc X.ds]) (Ar:=[]) Z Z Z Z Z Z Z Tryz.call110 Zl (Ul _ g13 mj gj ro rc zj) fun v s11 A' hl ⟨to,tc,hv,DT,hA⟩=>⟨.a (.v (.slice to (X.ds.take p++d::X.ds.drop p).length tc)),trivial,hv.symm,?_⟩
     subst hA
     have hle:=al.le_trans hle hl
     have HD:=HD.mono hl
     refine gW 0 Z Z fun s12 hl hS=>?_
     have hle:=al.le_trans hle hl
     have HD:=HD.mono hl
     have HL:=iO hS DT
     refine eS [(15,.pure),(16,.sink),(17,.pure)] Z Z Zk ?_
     refine pC ?_
     refine aw TT rfl fun β w' _ _=>?_
     exact iZ _ so sc to tc hle HD HL
   ·refine gG TT Z Z Z Z Z ?_
    refine jk 5 1 1 rfl Zl rfl (by decide) rfl fun g13=>?_
    refine ku 1 (g:=g13) Z Z (dW rfl) rfl fun s13 hl hS gj=>?_
    have hle:=al.le_trans hle hl
    have V5:=V5.mono hl
    have Br:=Br.mono hl
    have mj:=Vm _ _ hS
    refine dp (i:=6) Zk ?_
    refine eg [0] (A0:=[GZ qo qc X.ds]) (Ar:=[]) Z Z Z Z Z Z Z Tryz.call108 Zl (K6 _ g5 V5 Br qo qc GF) fun v s14 A' hl ⟨so,sc,hv,pb,hA⟩=>⟨.a (.v (.slice so (X.ds.take p++d::X.ds.drop p).length sc)),trivial,hv.symm,?_⟩
    subst hA
    have hle:=al.le_trans hle hl
    have mj:=mj.mono hl
    have gj:=gj.mono hl
    refine gW 0 Z Z fun s15 hl hS=>?_
    have hle:=al.le_trans hle hl
    have mj:=mj.mono hl
    have gj:=gj.mono hl
    have HD:=kO hS pb
    refine dp (i:=10) Zk ?_
    refine eg [] (A0:=[]) (Ar:=[]) Z Z Z Z Z Z Z Tryz.call111 Zl (Um _ hle) fun v s16 A' hl ⟨ro,rc,hv,zj,hA⟩=>⟨.a (.v (.slice ro X.ds.length rc)),trivial,hv.symm,?_⟩
    subst hA
    have hle:=al.le_trans hle hl
    have mj:=mj.mono hl
    have gj:=gj.mono hl
    have HD:=HD.mono hl
    refine dp (i:=14) Zk ?_
    refine eg [0] (A0:=[zf ro rc X.ds]) (Ar:=[]) Z Z Z Z Z Z Z Tryz.call110 Zl (Ul _ g13 mj gj ro rc zj) fun v s17 A' hl ⟨to,tc,hv,DT,hA⟩=>⟨.a (.v (.slice to (X.ds.take p++d::X.ds.drop p).length tc)),trivial,hv.symm,?_⟩
    subst hA
    have hle:=al.le_trans hle hl
    have HD:=HD.mono hl
    refine gW 0 Z Z fun s18 hl hS=>?_
    have hle:=al.le_trans hle hl
    have HD:=HD.mono hl
    have HL:=iO hS DT
    refine eS [(15,.pure),(16,.sink),(17,.pure)] Z Z Zk ?_
    refine pC ?_
    refine aw TT rfl fun β w' _ _=>?_
    exact iZ _ so sc to tc hle HD HL
  ·refine gG TT Z Z Z Z Z ?_
   refine jk 4 1 1 rfl Zl rfl (by decide) rfl fun g13=>?_
   refine ku 1 (g:=g13) Z Z (dW rfl) rfl fun s19 hl hS gj=>?_
   have hle:=al.le_trans hle hl
   have mj:=Vm _ _ hS
   refine dp (i:=5) Zk ?_
   refine gG TT Z Z Z Z Z ?_
   refine jk 5 1 2 rfl Zl rfl (by decide) rfl fun g5=>?_
   refine ku 1 (g:=g5) Z Z (dW rfl) rfl fun s20 hl hS Br=>?_
   have hle:=al.le_trans hle hl
   have mj:=mj.mono hl
   have gj:=gj.mono hl
   have V5:=k5 _ _ hS
   refine dp (i:=6) Zk ?_
   refine eg [0] (A0:=[GZ qo qc X.ds]) (Ar:=[]) Z Z Z Z Z Z Z Tryz.call108 Zl (K6 _ g5 V5 Br qo qc GF) fun v s21 A' hl ⟨so,sc,hv,pb,hA⟩=>⟨.a (.v (.slice so (X.ds.take p++d::X.ds.drop p).length sc)),trivial,hv.symm,?_⟩
   subst hA
   have hle:=al.le_trans hle hl
   have mj:=mj.mono hl
   have gj:=gj.mono hl
   refine gW 0 Z Z fun s22 hl hS=>?_
   have hle:=al.le_trans hle hl
   have mj:=mj.mono hl
   have gj:=gj.mono hl
   have HD:=kO hS pb
   refine dp (i:=10) Zk ?_
   refine eg [] (A0:=[]) (Ar:=[]) Z Z Z Z Z Z Z Tryz.call111 Zl (Um _ hle) fun v s23 A' hl ⟨ro,rc,hv,zj,hA⟩=>⟨.a (.v (.slice ro X.ds.length rc)),trivial,hv.symm,?_⟩
   subst hA
   have hle:=al.le_trans hle hl
   have mj:=mj.mono hl
   have gj:=gj.mono hl
   have HD:=HD.mono hl
   refine dp (i:=14) Zk ?_
   refine eg [0] (A0:=[zf ro rc X.ds]) (Ar:=[]) Z Z Z Z Z Z Z Tryz.call110 Zl (Ul _ g13 mj gj ro rc zj) fun v s24 A' hl ⟨to,tc,hv,DT,hA⟩=>⟨.a (.v (.slice to (X.ds.take p++d::X.ds.drop p).length tc)),trivial,hv.symm,?_⟩
   subst hA
   have hle:=al.le_trans hle hl
   have HD:=HD.mono hl
   refine gW 0 Z Z fun s25 hl hS=>?_
   have hle:=al.le_trans hle hl
   have HD:=HD.mono hl
   have HL:=iO hS DT
   refine eS [(15,.pure),(16,.sink),(17,.pure)] Z Z Zk ?_
   refine pC ?_
   refine aw TT rfl fun β w' _ _=>?_
   exact iZ _ so sc to tc hle HD HL
 ·refine gG TT Z Z Z Z Z ?_
  refine jk 4 1 2 rfl Zl rfl (by decide) rfl fun g5=>?_
  refine ku 0 (g:=g5) Z Z (dW rfl) rfl fun s26 hl hS Br=>?_
  have hle:=al.le_trans hle hl
  have V5:=k5 _ _ hS
  refine od (i:=2) (j:=13) Zk ?_ ?_
  ·refine eg [] (A0:=[]) (Ar:=[]) Z Z Z Z Z Z Z Tryz.call109 Zl (K2 _ hle) fun v s27 A' hl ⟨qo,qc,hv,GF,hA⟩=>⟨.a (.v (.slice qo X.ds.length qc)),trivial,hv.symm,?_⟩
   subst hA
   have hle:=al.le_trans hle hl
   have V5:=V5.mono hl
   have Br:=Br.mono hl
   refine od (i:=6) (j:=13) Zk ?_ ?_
   ·refine eg [0] (A0:=[GZ qo qc X.ds]) (Ar:=[]) Z Z Z Z Z Z Z Tryz.call108 Zl (K6 _ g5 V5 Br qo qc GF) fun v s28 A' hl ⟨so,sc,hv,pb,hA⟩=>⟨.a (.v (.slice so (X.ds.take p++d::X.ds.drop p).length sc)),trivial,hv.symm,?_⟩
    subst hA
    have hle:=al.le_trans hle hl
    refine gW 0 Z Z fun s29 hl hS=>?_
    have hle:=al.le_trans hle hl
    have HD:=kO hS pb
    refine od (i:=10) (j:=13) Zk ?_ ?_
    ·refine eg [] (A0:=[]) (Ar:=[]) Z Z Z Z Z Z Z Tryz.call111 Zl (Um _ hle) fun v s30 A' hl ⟨ro,rc,hv,zj,hA⟩=>⟨.a (.v (.slice ro X.ds.length rc)),trivial,hv.symm,?_⟩
     subst hA
     have hle:=al.le_trans hle hl
     have HD:=HD.mono hl
     refine dp (i:=13) Zk ?_
     refine gG TT Z Z Z Z Z ?_
     refine jk 5 1 1 rfl Zl rfl (by decide) rfl fun g13=>?_
     refine ku 1 (g:=g13) Z Z (dW rfl) rfl fun s31 hl hS gj=>?_
     have hle:=al.le_trans hle hl
     have HD:=HD.mono hl
     have mj:=Vm _ _ hS
     refine dp (i:=14) Zk ?_
     refine eg [0] (A0:=[zf ro rc X.ds]) (Ar:=[]) Z Z Z Z Z Z Z Tryz.call110 Zl (Ul _ g13 mj gj ro rc zj) fun v s32 A' hl ⟨to,tc,hv,DT,hA⟩=>⟨.a (.v (.slice to (X.ds.take p++d::X.ds.drop p).length tc)),trivial,hv.symm,?_⟩
     subst hA
     have hle:=al.le_trans hle hl
     have HD:=HD.mono hl
     refine gW 0 Z Z fun s33 hl hS=>?_
     have hle:=al.le_trans hle hl
     have HD:=HD.mono hl
     have HL:=iO hS DT
     refine eS [(15,.pure),(16,.sink),(17,.pure)] Z Z Zk ?_
     refine pC ?_
     refine aw TT rfl fun β w' _ _=>?_
     exact iZ _ so sc to tc hle HD HL
    ·refine gG TT Z Z Z Z Z ?_
     refine jk 5 1 1 rfl Zl rfl (by decide) rfl fun g13=>?_
     refine ku 0 (g:=g13) Z Z (dW rfl) rfl fun s34 hl hS gj=>?_
     have hle:=al.le_trans hle hl
     have HD:=HD.mono hl
     have mj:=Vm _ _ hS
     refine dp (i:=10) Zk ?_
     refine eg [] (A0:=[]) (Ar:=[]) Z Z Z Z Z Z Z Tryz.call111 Zl (Um _ hle) fun v s35 A' hl ⟨ro,rc,hv,zj,hA⟩=>⟨.a (.v (.slice ro X.ds.length rc)),trivial,hv.symm,?_⟩
     subst hA
     have hle:=al.le_trans hle hl
     have HD:=HD.mono hl
     have mj:=mj.mono hl
     have gj:=gj.mono hl
     refine dp (i:=14) Zk ?_
     refine eg [0] (A0:=[zf ro rc X.ds]) (Ar:=[]) Z Z Z Z Z Z Z Tryz.call110 Zl (Ul _ g13 mj gj ro rc zj) fun v s36 A' hl ⟨to,tc,hv,DT,hA⟩=>⟨.a (.v (.slice to (X.ds.take p++d::X.ds.drop p).length tc)),trivial,hv.symm,?_⟩
     subst hA
     have hle:=al.le_trans hle hl
     have HD:=HD.mono hl
     refine gW 0 Z Z fun s37 hl hS=>?_
     have hle:=al.le_trans hle hl
     have HD:=HD.mono hl
     have HL:=iO hS DT
     refine eS [(15,.pure),(16,.sink),(17,.pure)] Z Z Zk ?_
     refine pC ?_
     refine aw TT rfl fun β w' _ _=>?_
     exact iZ _ so sc to tc hle HD HL
   ·refine gG TT Z Z Z Z Z ?_
    refine jk 5 1 1 rfl Zl rfl (by decide) rfl fun g13=>?_
    refine ku 1 (g:=g13) Z Z (dW rfl) rfl fun s38 hl hS gj=>?_
    have hle:=al.le_trans hle hl
    have V5:=V5.mono hl
    have Br:=Br.mono hl
    have mj:=Vm _ _ hS
    refine dp (i:=6) Zk ?_
    refine eg [0] (A0:=[GZ qo qc X.ds]) (Ar:=[]) Z Z Z Z Z Z Z Tryz.call108 Zl (K6 _ g5 V5 Br qo qc GF) fun v s39 A' hl ⟨so,sc,hv,pb,hA⟩=>⟨.a (.v (.slice so (X.ds.take p++d::X.ds.drop p).length sc)),trivial,hv.symm,?_⟩
    subst hA
    have hle:=al.le_trans hle hl
    have mj:=mj.mono hl
    have gj:=gj.mono hl
    refine gW 0 Z Z fun s40 hl hS=>?_
    have hle:=al.le_trans hle hl
    have mj:=mj.mono hl
    have gj:=gj.mono hl
    have HD:=kO hS pb
    refine dp (i:=10) Zk ?_
    refine eg [] (A0:=[]) (Ar:=[]) Z Z Z Z Z Z Z Tryz.call111 Zl (Um _ hle) fun v s41 A' hl ⟨ro,rc,hv,zj,hA⟩=>⟨.a (.v (.slice ro X.ds.length rc)),trivial,hv.symm,?_⟩
    subst hA
    have hle:=al.le_trans hle hl
    have mj:=mj.mono hl
    have gj:=gj.mono hl
    have HD:=HD.mono hl
    refine dp (i:=14) Zk ?_
    refine eg [0] (A0:=[zf ro rc X.ds]) (Ar:=[]) Z Z Z Z Z Z Z Tryz.call110 Zl (Ul _ g13 mj gj ro rc zj) fun v s42 A' hl ⟨to,tc,hv,DT,hA⟩=>⟨.a (.v (.slice to (X.ds.take p++d::X.ds.drop p).length tc)),trivial,hv.symm,?_⟩
    subst hA
    have hle:=al.le_trans hle hl
    have HD:=HD.mono hl
    refine gW 0 Z Z fun s43 hl hS=>?_
    have hle:=al.le_trans hle hl
    have HD:=HD.mono hl
    have HL:=iO hS DT
    refine eS [(15,.pure),(16,.sink),(17,.pure)] Z Z Zk ?_
    refine pC ?_
    refine aw TT rfl fun β w' _ _=>?_
    exact iZ _ so sc to tc hle HD HL
  ·refine gG TT Z Z Z Z Z ?_
   refine jk 5 1 1 rfl Zl rfl (by decide) rfl fun g13=>?_
   refine ku 0 (g:=g13) Z Z (dW rfl) rfl fun s44 hl hS gj=>?_
   have hle:=al.le_trans hle hl
   have V5:=V5.mono hl
   have Br:=Br.mono hl
   have mj:=Vm _ _ hS
   refine dp (i:=2) Zk ?_
   refine eg [] (A0:=[]) (Ar:=[]) Z Z Z Z Z Z Z Tryz.call109 Zl (K2 _ hle) fun v s45 A' hl ⟨qo,qc,hv,GF,hA⟩=>⟨.a (.v (.slice qo X.ds.length qc)),trivial,hv.symm,?_⟩
   subst hA
   have hle:=al.le_trans hle hl
   have V5:=V5.mono hl
   have Br:=Br.mono hl
   have mj:=mj.mono hl
   have gj:=gj.mono hl
   refine dp (i:=6) Zk ?_
   refine eg [0] (A0:=[GZ qo qc X.ds]) (Ar:=[]) Z Z Z Z Z Z Z Tryz.call108 Zl (K6 _ g5 V5 Br qo qc GF) fun v s46 A' hl ⟨so,sc,hv,pb,hA⟩=>⟨.a (.v (.slice so (X.ds.take p++d::X.ds.drop p).length sc)),trivial,hv.symm,?_⟩
   subst hA
   have hle:=al.le_trans hle hl
   have mj:=mj.mono hl
   have gj:=gj.mono hl
   refine gW 0 Z Z fun s47 hl hS=>?_
   have hle:=al.le_trans hle hl
   have mj:=mj.mono hl
   have gj:=gj.mono hl
   have HD:=kO hS pb
   refine dp (i:=10) Zk ?_
   refine eg [] (A0:=[]) (Ar:=[]) Z Z Z Z Z Z Z Tryz.call111 Zl (Um _ hle) fun v s48 A' hl ⟨ro,rc,hv,zj,hA⟩=>⟨.a (.v (.slice ro X.ds.length rc)),trivial,hv.symm,?_⟩
   subst hA
   have hle:=al.le_trans hle hl
   have mj:=mj.mono hl
   have gj:=gj.mono hl
   have HD:=HD.mono hl
   refine dp (i:=14) Zk ?_
   refine eg [0] (A0:=[zf ro rc X.ds]) (Ar:=[]) Z Z Z Z Z Z Z Tryz.call110 Zl (Ul _ g13 mj gj ro rc zj) fun v s49 A' hl ⟨to,tc,hv,DT,hA⟩=>⟨.a (.v (.slice to (X.ds.take p++d::X.ds.drop p).length tc)),trivial,hv.symm,?_⟩
   subst hA
   have hle:=al.le_trans hle hl
   have HD:=HD.mono hl
   refine gW 0 Z Z fun s50 hl hS=>?_
   have hle:=al.le_trans hle hl
   have HD:=HD.mono hl
   have HL:=iO hS DT
   refine eS [(15,.pure),(16,.sink),(17,.pure)] Z Z Zk ?_
   refine pC ?_
   refine aw TT rfl fun β w' _ _=>?_
   exact iZ _ so sc to tc hle HD HL
 ·refine gG TT Z Z Z Z Z ?_
  refine jk 4 1 1 rfl Zl rfl (by decide) rfl fun g13=>?_
  refine ku 0 (g:=g13) Z Z (dW rfl) rfl fun s51 hl hS gj=>?_
  have hle:=al.le_trans hle hl
  have mj:=Vm _ _ hS
  refine od (i:=2) (j:=5) Zk ?_ ?_
  ·refine eg [] (A0:=[]) (Ar:=[]) Z Z Z Z Z Z Z Tryz.call109 Zl (K2 _ hle) fun v s52 A' hl ⟨qo,qc,hv,GF,hA⟩=>⟨.a (.v (.slice qo X.ds.length qc)),trivial,hv.symm,?_⟩
   subst hA
   have hle:=al.le_trans hle hl
   have mj:=mj.mono hl
   have gj:=gj.mono hl
   refine dp (i:=5) Zk ?_
   refine gG TT Z Z Z Z Z ?_
   refine jk 5 1 2 rfl Zl rfl (by decide) rfl fun g5=>?_
   refine ku 1 (g:=g5) Z Z (dW rfl) rfl fun s53 hl hS Br=>?_
   have hle:=al.le_trans hle hl
   have mj:=mj.mono hl
   have gj:=gj.mono hl
   have V5:=k5 _ _ hS
   refine dp (i:=6) Zk ?_
   refine eg [0] (A0:=[GZ qo qc X.ds]) (Ar:=[]) Z Z Z Z Z Z Z Tryz.call108 Zl (K6 _ g5 V5 Br qo qc GF) fun v s54 A' hl ⟨so,sc,hv,pb,hA⟩=>⟨.a (.v (.slice so (X.ds.take p++d::X.ds.drop p).length sc)),trivial,hv.symm,?_⟩
   subst hA
   have hle:=al.le_trans hle hl
   have mj:=mj.mono hl
   have gj:=gj.mono hl
   refine gW 0 Z Z fun s55 hl hS=>?_
   have hle:=al.le_trans hle hl
   have mj:=mj.mono hl
   have gj:=gj.mono hl
   have HD:=kO hS pb
   refine dp (i:=10) Zk ?_
   refine eg [] (A0:=[]) (Ar:=[]) Z Z Z Z Z Z Z Tryz.call111 Zl (Um _ hle) fun v s56 A' hl ⟨ro,rc,hv,zj,hA⟩=>⟨.a (.v (.slice ro X.ds.length rc)),trivial,hv.symm,?_⟩
   subst hA
   have hle:=al.le_trans hle hl
   have mj:=mj.mono hl
   have gj:=gj.mono hl
   have HD:=HD.mono hl
   refine dp (i:=14) Zk ?_
   refine eg [0] (A0:=[zf ro rc X.ds]) (Ar:=[]) Z Z Z Z Z Z Z Tryz.call110 Zl (Ul _ g13 mj gj ro rc zj) fun v s57 A' hl ⟨to,tc,hv,DT,hA⟩=>⟨.a (.v (.slice to (X.ds.take p++d::X.ds.drop p).length tc)),trivial,hv.symm,?_⟩
   subst hA
   have hle:=al.le_trans hle hl
   have HD:=HD.mono hl
   refine gW 0 Z Z fun s58 hl hS=>?_
   have hle:=al.le_trans hle hl
   have HD:=HD.mono hl
   have HL:=iO hS DT
   refine eS [(15,.pure),(16,.sink),(17,.pure)] Z Z Zk ?_
   refine pC ?_
   refine aw TT rfl fun β w' _ _=>?_
   exact iZ _ so sc to tc hle HD HL
  ·refine gG TT Z Z Z Z Z ?_
   refine jk 5 1 2 rfl Zl rfl (by decide) rfl fun g5=>?_
   refine ku 0 (g:=g5) Z Z (dW rfl) rfl fun s59 hl hS Br=>?_
   have hle:=al.le_trans hle hl
   have mj:=mj.mono hl
   have gj:=gj.mono hl
   have V5:=k5 _ _ hS
   refine dp (i:=2) Zk ?_
   refine eg [] (A0:=[]) (Ar:=[]) Z Z Z Z Z Z Z Tryz.call109 Zl (K2 _ hle) fun v s60 A' hl ⟨qo,qc,hv,GF,hA⟩=>⟨.a (.v (.slice qo X.ds.length qc)),trivial,hv.symm,?_⟩
   subst hA
   have hle:=al.le_trans hle hl
   have mj:=mj.mono hl
   have gj:=gj.mono hl
   have V5:=V5.mono hl
   have Br:=Br.mono hl
   refine dp (i:=6) Zk ?_
   refine eg [0] (A0:=[GZ qo qc X.ds]) (Ar:=[]) Z Z Z Z Z Z Z Tryz.call108 Zl (K6 _ g5 V5 Br qo qc GF) fun v s61 A' hl ⟨so,sc,hv,pb,hA⟩=>⟨.a (.v (.slice so (X.ds.take p++d::X.ds.drop p).length sc)),trivial,hv.symm,?_⟩
   subst hA
   have hle:=al.le_trans hle hl
   have mj:=mj.mono hl
   have gj:=gj.mono hl
   refine gW 0 Z Z fun s62 hl hS=>?_
   have hle:=al.le_trans hle hl
   have mj:=mj.mono hl
   have gj:=gj.mono hl
   have HD:=kO hS pb
   refine dp (i:=10) Zk ?_
   refine eg [] (A0:=[]) (Ar:=[]) Z Z Z Z Z Z Z Tryz.call111 Zl (Um _ hle) fun v s63 A' hl ⟨ro,rc,hv,zj,hA⟩=>⟨.a (.v (.slice ro X.ds.length rc)),trivial,hv.symm,?_⟩
   subst hA
   have hle:=al.le_trans hle hl
   have mj:=mj.mono hl
   have gj:=gj.mono hl
   have HD:=HD.mono hl
   refine dp (i:=14) Zk ?_
   refine eg [0] (A0:=[zf ro rc X.ds]) (Ar:=[]) Z Z Z Z Z Z Z Tryz.call110 Zl (Ul _ g13 mj gj ro rc zj) fun v s64 A' hl ⟨to,tc,hv,DT,hA⟩=>⟨.a (.v (.slice to (X.ds.take p++d::X.ds.drop p).length tc)),trivial,hv.symm,?_⟩
   subst hA
   have hle:=al.le_trans hle hl
   have HD:=HD.mono hl
   refine gW 0 Z Z fun s65 hl hS=>?_
   have hle:=al.le_trans hle hl
   have HD:=HD.mono hl
   have HL:=iO hS DT
   refine eS [(15,.pure),(16,.sink),(17,.pure)] Z Z Zk ?_
   refine pC ?_
   refine aw TT rfl fun β w' _ _=>?_
   exact iZ _ so sc to tc hle HD HL
end Go.Sy
namespace Go.Sy
open Go.Proofs
def wS (bo:Option Addr) (bc:Nat) (l:List cH):AE:=⟨bo,l.length,bc,300,3,xT l⟩
theorem qH{σ:al}{bo:Option Addr}{bc:Nat}{l:List cH}(h:b9 σ (wS bo bc l))(hc:l.length<=bc): bu σ bo l.length bc 3 (eI l) :=
 h.sl (E:=wS bo bc l) rfl (fun r hr=>⟨(gE l r hr).1,(gE l r hr).2.1⟩) (by simp[eI]) rfl hc
structure Xo where
 bo:Option Addr
 bc:Nat
theorem w9{α:Type}(q:α->Bool): ∀ {l:List α} {k:Nat} {x:α} (n:Nat),l[k]?=some x->q x=true->(∀ y∈l.take k,q y=false)->gT q l n=((n+k:Nat):Int)
 | [],k,x,n,h,_,_=>by simp at h
 | y::l,0,x,n,h,hq,_=>by
  simp only[bn,bf] at h
  subst h
  unfold gT
  rw[au hq]
  rfl
 | y::l,k+1,x,n,h,hq,hp=>by
  unfold gT
  rw[hp y (by rw[cX];exact a8),ai (by decide),w9 q (n+1) (by simpa using h) hq fun z hz=>hp z (by rw[cX];exact ba _ hz)]
  omega
theorem wZ{α:Type}(q:α->Bool): ∀ {l:List α} (n:Nat),(∀ y∈l,q y=false)->gT q l n = -1
 | [],_,_=>rfl
 | y::l,n,h=>by
  unfold gT
  rw[h y a8,ai (by decide)]
  exact wZ q (n+1) fun z hz=>h z (ba _ hz)
theorem UT(σ:al)(xs:List cH)(hl:xs.length<=100000000)(ao:Option Addr)(cap:Nat)(H:bu σ ao xs.length cap 3 (eI xs))(hx:∀ x∈xs,qk σ x)(s:List ByteArray)(so:Option Addr)(sc:Nat)(S:bu σ so s.length sc 1 (ib s)):
  bZ Tryz.prog 223 [.a (.v (.slice ao xs.length cap)),.a (.v (.slice so s.length sc))] σ (fun v=>v=.int .i64 (j8 xs s)):=by
 refine bW Tryz.func223 Z Z Zl fun w=>?_
 refine Zd ?_
 refine bX (fun(_:Nat)=>σ) (fun k=>[(0,.a (.v (.slice ao xs.length cap))),(1,.a (.v (.slice so s.length sc))),(5,.a (.v (.int .i64 k)))]) (fun _=>[]) (fun _=>[]) 0 (fun k=>k<=xs.length/\∀ y∈xs.take k,decide (y.st=s)=false) (fun k=>xs.length - k) 0 ⟨ay _,fun y hy=>(by cases hy)⟩ rfl Zs Zs rfl Zl Zl fun k ⟨hk,hp⟩=>?_
 refine Za ?_
 refine aG rfl (fun h=>?_) (fun h=>?_)
 rotate_left
 ·have fQ:k=xs.length:=by have:=ab h;omega
  rw[fQ,aI] at hp
  refine Ze ?_
  refine aw TT rfl fun β w' _ _=>?_
  exact aN (Value.int .i64) (wZ _ 0 hp).symm
 have cz:k<xs.length:=by have:=ae h;omega
 have O3:=aa cz
 have bU:=m8 O3
 have T9:=hx xs[k] (aP cz)
 have mi:xs.take (k+1)=xs.take k++[xs[k]]:=ak cz
 generalize xs[k]=x at *
 refine Zd ?_
 refine bk TT Z Z Z Z Z Z Z Z Z H Zo bU (Zr ?_)
 refine aT Z Z Z Z Z Tryz.call241 Zl (ED σ x.st s T9.1 x.ao so x.cap sc T9.2 S) fun v hv=>⟨.a (.b (decide (x.st=s))),trivial,hv.symm,?_⟩
 refine gX ?_
 refine aG rfl (fun h=>?_) (fun h=>?_)
 ·have e:j8 xs s=(k:Int):=by
   unfold j8
   rw[w9 _ 0 O3 h hp,cG]
  rw[e]
  refine Zb ?_
  refine aw TT rfl fun β w' _ _=>?_
  rfl
 ·refine Zc ?_
  refine an (k+1) ⟨cz,fun y hy=>?_⟩ Zo rfl Zs Zs rfl Zl Zl
  rw[mi] at hy
  rcases bz.1 hy with hy | hy
  ·exact hp y hy
  ·rw[aU] at hy
   rw[hy]
   exact h
theorem UU(σ:al)(xs:List cH)(hl:xs.length<=100000000)(ao:Option Addr)(cap:Nat)(H:bu σ ao xs.length cap 3 (eI xs))(id:Int):
  bZ Tryz.prog 222 [.a (.v (.slice ao xs.length cap)),.a (.v (.int .i64 id))] σ (fun v=>v=.int .i64 (Bm xs id)):=by
 refine bW Tryz.func222 Z Z Zl fun w=>?_
 refine Zd ?_
 refine bX (fun(_:Nat)=>σ) (fun k=>[(0,.a (.v (.slice ao xs.length cap))),(1,.a (.v (.int .i64 id))),(5,.a (.v (.int .i64 k)))]) (fun _=>[]) (fun _=>[]) 0 (fun k=>k<=xs.length/\∀ y∈xs.take k,decide (y.id=id)=false) (fun k=>xs.length - k) 0 ⟨ay _,fun y hy=>(by cases hy)⟩ rfl Zs Zs rfl Zl Zl fun k ⟨hk,hp⟩=>?_
 refine Za ?_
 refine aG rfl (fun h=>?_) (fun h=>?_)
 rotate_left
 ·have fQ:k=xs.length:=by have:=ab h;omega
  rw[fQ,aI] at hp
  refine Ze ?_
  refine aw TT rfl fun β w' _ _=>?_
  exact aN (Value.int .i64) (wZ _ 0 hp).symm
 have cz:k<xs.length:=by have:=ae h;omega
 have O3:=aa cz
 have bU:=m8 O3
 have mi:xs.take (k+1)=xs.take k++[xs[k]]:=ak cz
 generalize xs[k]=x at *
 refine Zd ?_
 refine bk TT Z Z Z Z Z Z Z Z Z H Zo bU (Zr ?_)
 refine Za ?_
 refine aG rfl (fun h=>?_) (fun h=>?_)
 ·have e:Bm xs id=(k:Int):=by
   unfold Bm
   rw[w9 _ 0 O3 h hp,cG]
  rw[e]
  refine Zb ?_
  refine aw TT rfl fun β w' _ _=>?_
  rfl
 ·refine Zc ?_
  refine an (k+1) ⟨cz,fun y hy=>?_⟩ Zo rfl Zs Zs rfl Zl Zl
  rw[mi] at hy
  rcases bz.1 hy with hy | hy
  ·exact hp y hy
  ·rw[aU] at hy
   rw[hy]
   exact h
theorem XG(σ:al)(xs:List cH)(next:Int)(ao:Option Addr)(cap:Nat)(H:bu σ ao xs.length cap 3 (eI xs))(hx:∀ x∈xs,qk σ x)(ps:List fH)(po:Option Addr)(pc:Nat)(P:bu σ po ps.length pc 1 (oH ps))(hp:∀ p∈ps,uh σ p)(m:Nat)(lj:nI m ⟨xs,next,[]⟩)(hm:m+ps.length<=1000000):
  fa Tryz.prog 188 [.agg [.v (.slice ao xs.length cap),.v (.int .i64 next)],.a (.v (.slice po ps.length pc))] σ (fun v bD=>∃ bo bc io ic,v=.tuple #[.agg #[.slice bo (bS ⟨xs,next,[]⟩ ps).xs.length bc,.int .i64 (bS ⟨xs,next,[]⟩ ps).next],.slice io (bS ⟨xs,next,[]⟩ ps).ids.length ic] /\
   bu bD bo (bS ⟨xs,next,[]⟩ ps).xs.length bc 3 (eI (bS ⟨xs,next,[]⟩ ps).xs)/\bu bD io (bS ⟨xs,next,[]⟩ ps).ids.length ic 1 (kK (bS ⟨xs,next,[]⟩ ps).ids)):=by
 have pa:=lj.xs
 dsimp only at pa
 refine ek Tryz.func188 Z Z Zl fun w=>?_
 refine Za ?_
 refine ji (fun(_:Xo)=>σ) (fun _=>[(1,.a (.v (.slice po ps.length pc))),(2,.a (.p 0 0)),(4,.a (.p 1 0)),(6,.a (.p 3 0))]) (fun s=>[(0,.loc 112,[.v (.slice ao xs.length cap),.v (.int .i64 next)]),(1,.loc 112,[.v (.slice none 0 0),.v (.int .i64 0)]),(3,.loc 112,[.v (.slice s.bo xs.length s.bc),.v (.int .i64 next)])]) (fun s=>[wS s.bo s.bc xs]) 4 (fun s=>xs.length<=s.bc) ?_ (fun⟨ZU,ZV⟩ mC=>?_)
 ·skip
  refine ky 9 [1,4,6] [(0,.loc 112,[.v (.slice ao xs.length cap),.v (.int .i64 next)])] mixed Zk rfl (fT Zs) ?_
  refine bQ (i:=1) TT rfl Zk Zk Z Z Z Z Z ?_
  refine bQ (i:=2) TT rfl Zk Zk Z Z Z Z Z ?_
  refine bQ (i:=4) TT rfl Zk Zk Z Z Z Z Z ?_
  refine bQ (i:=5) TT rfl Zk Zk Z Z Z Z Z ?_
  refine od (i:=0) (j:=7) Zk ?_ ?_
  ·refine gG TT Z Z Z Z Z ?_
   refine jk 2 0 3 rfl (fun c hc=>by cases hc) rfl (by decide) rfl fun g1=>?_
   refine od (i:=3) (j:=7) Zk ?_ ?_
   ·refine mE TT 0 Z Z Z Z Z Z Z H Z Z Z Z Z Z Z Z Z (fun r hr=>(gE _ r hr).2.2) Zo (by show(0+xs.length)*40<=_;omega) fun bo bc oq=>?_
    rw[show 0+xs.length=xs.length from cG _] at oq ⊢
    refine bQ (i:=6) TT rfl Zk Zk Z Z Z Z Z ?_
    refine dp (i:=7) Zk ?_
    refine gG TT Z Z Z Z Z ?_
    refine eS [(8,.sink)] Z Z Zk ?_
    refine lP ?_
    refine an (⟨bo,bc⟩:Xo) oq aj rfl Zs Zs rfl Zl Zl
   ·refine gG TT Z Z Z Z Z ?_
    refine dp (i:=3) Zk ?_
    refine mE TT 0 Z Z Z Z Z Z Z H Z Z Z Z Z Z Z Z Z (fun r hr=>(gE _ r hr).2.2) Zo (by show(0+xs.length)*40<=_;omega) fun bo bc oq=>?_
    rw[show 0+xs.length=xs.length from cG _] at oq ⊢
    refine eS [(6,.pure),(8,.sink)] Z Z Zk ?_
    refine lP ?_
    refine an (⟨bo,bc⟩:Xo) oq aj rfl Zs Zs rfl Zl Zl
  ·refine JN ?_
   refine gG TT Z Z Z Z Z ?_
   refine dp (i:=0) Zk ?_
   refine gG TT Z Z Z Z Z ?_
   refine jk 4 0 3 rfl (fun c hc=>by cases hc) rfl (by decide) rfl fun g1=>?_
   refine dp (i:=3) Zk ?_
   refine mE TT 0 Z Z Z Z Z Z Z H Z Z Z Z Z Z Z Z Z (fun r hr=>(gE _ r hr).2.2) Zo (by show(0+xs.length)*40<=_;omega) fun bo bc oq=>?_
   rw[show 0+xs.length=xs.length from cG _] at oq ⊢
   refine eS [(6,.pure),(8,.sink)] Z Z Zk ?_
   refine lP ?_
   refine an (⟨bo,bc⟩:Xo) oq aj rfl Zs Zs rfl Zl Zl
 dsimp only at mC ⊢
 refine Zd ?_
 refine dV 3 1 ?_
 refine gC (fun _ (_:ZY)=>σ) (fun(k:Nat) s=>[(1,.a (.v (.slice po ps.length pc))),(4,.a (.p 1 0)),(6,.a (.p 3 0)),(7,.a (.v (.slice s.io s.s.ids.length s.ic))),(8,.a (.v (.int .i64 k)))])
  (fun _ s=>[(1,.loc 112,[.v (.slice none 0 0),.v (.int .i64 0)]),(3,.loc 112,[.v (.slice s.bo s.s.xs.length s.bc),.v (.int .i64 s.s.next)])]) (fun _ s=>[wS s.bo s.bc s.s.xs,Fv s.io s.ic s.s.ids]) 4
  (fun k s=>k<=ps.length/\s.s=bS ⟨xs,next,[]⟩ (ps.take k)/\s.s.xs.length<=s.bc/\s.s.ids.length<=s.ic) (fun k _=>ps.length - k) 0 ⟨⟨xs,next,[]⟩,ZU,ZV,none,0⟩ ⟨ay _,rfl,mC,aq _⟩ rfl Zs Zs rfl Zl Zl fun k ⟨s,bo,bc,io,ic⟩ ⟨hk,hs,oq,hic⟩=>?_
 dsimp only at hs oq hic ⊢
 refine Za ?_
 refine aG rfl (fun h=>?_) (fun h=>?_)
 rotate_left
 ·have fQ:k=ps.length:=by have:=ab h;omega
  subst fQ
  rw[aI] at hs
  subst hs
  refine Ze ?_
  refine dD 0 Z Z fun nC cw x4=>?_
  refine dD 0 Z Z fun Up kV Fy=>?_
  refine aw TT rfl fun β w' _ _=>?_
  exact⟨bo,bc,io,ic,rfl,(qH x4 oq).mono kV,sk Fy hic⟩
 have cz:k<ps.length:=by have:=ae h;omega
 have bU:=BT (aa cz)
 have hpo:=hp ps[k] (aP cz)
 have l8:bS ⟨xs,next,[]⟩ (ps.take (k+1))=fV s ps[k]:=by
  rw[ak cz,hs]
  unfold bS
  rw[List.foldl_append]
  rfl
 have hF:nI 999999 s:=by
  have:=qU (ps.take k) lj
  rw[<-hs,aE] at this
  exact this.mono Zo
 have hF1:=hF.xs
 have hF2:=hF.ids
 have hF3:=hF.next
 have vF:∀ x∈s.xs,qk σ x:=by
  have:=sO (σ:=σ) (ps.take k) (s:=⟨xs,next,[]⟩) hx fun p h=>hp p (dr h)
  rw[<-hs] at this
  exact this
 clear hs
 generalize ps[k]=p at *
 refine Zd ?_
 refine ck [(0,.pure),(1,.quiet),(2,.pure),(3,.pure),(4,.pure),(5,.quiet),(6,.sink),(7,.pure)] mixed Zk (aM TT rfl ?_)
 refine Zr ?_
 refine bk TT Z Z Z Z Z Z Z Z Z P Zo bU (Zr ?_)
 refine uB Z Z Z Z Z Tryz.call223 Zl (fun bD h1 h2=>UT bD s.xs Zo bo bc (qH (h2 0 _ rfl) oq) (fun x h=>(vF x h).mono h1) p.ss p.ao p.cap (hpo.mono h1).2) fun v hv=>⟨.a (.v (.int .i64 (j8 s.xs p.ss))),trivial,hv.symm,?_⟩
 refine gX ?_
 refine ji (fun(_:ZZ)=>σ) (fun q=>[(1,.a (.v (.slice po ps.length pc))),(4,.a (.p 1 0)),(6,.a (.p 3 0)),(7,.a (.v (.slice io s.ids.length ic))),(8,.a (.v (.int .i64 k))),(9,.a (.v (.int .i64 q.j)))])
  (fun q=>[(1,.loc 112,[.v (.slice none 0 0),.v (.int .i64 0)]),(3,.loc 112,[.v (.slice q.bo q.xs.length q.bc),.v (.int .i64 q.next)])]) (fun q=>[wS q.bo q.bc q.xs,Fv io ic s.ids]) 4
  (fun q=>q.xs.length<=q.bc/\∃ x,q.xs[q.j]?=some x/\(-1000000<=x.ln/\x.ln<=1000000)/\(⟨q.xs.set q.j x.more,q.next,s.ids++[x.id]⟩:ym)=fV s p) ?_ (fun q hq=>?_)
 ·have LW:=xU s.xs p.ss
  refine aG rfl (fun h=>?_) (fun h=>?_)
  ·have h:=ae h
   have e:(s.xs++[pk s.next p]).length=s.xs.length+1:=by simp
   have pP:fV s p=⟨(s.xs++[pk s.next p]).set s.xs.length (pk s.next p).more,s.next+1,s.ids++[s.next]⟩:=by
    unfold fV
    rw[au h,dY _ _ (aq _),fM]
    rfl
   refine Za ?_
   refine ck [(0,.pure),(1,.quiet),(2,.pure),(3,.quiet),(4,.pure),(5,.pure),(6,.pure),(7,.quiet),(8,.pure),(9,.dP),(10,.sink),(11,.pure),(12,.sink)] mixed Zk (aM TT rfl ?_)
   refine Zr ?_
   refine bk TT Z Z Z Z Z Z Z Z Z P Zo bU (Zr ?_)
   refine bl TT 0 Z Z Z Z Z Z Z Z Z Z Z Z Z Z Z Z Z Z Zl rfl Zo (by show(s.xs.length+1)*40<=_;omega) fun iB dk gS=>aM TT rfl ?_
   refine Zg ?_
   refine an (⟨s.xs++[pk s.next p],s.next+1,s.xs.length,iB,dk⟩:ZZ) ⟨by dsimp only;omega,pk s.next p,by simp,by show(-1000000:Int)<=0/\(0:Int)<=1000000;omega,pP.symm⟩ aj rfl Zs ?_ ?_ Zl Zl
   ·dsimp only
    rw[e]
    (repeat first | exact trivial | refine⟨rfl,?_⟩)
   ·show [_,_]=[_,_]
    dsimp only
    unfold wS
    rw[Af,e]
    rfl
  ·have h:=ab h
   obtain⟨j,hj⟩:∃ j:Nat,j8 s.xs p.ss=j:=⟨(j8 s.xs p.ss).toNat,by omega⟩
   have m2:j<s.xs.length:=by omega
   have pP:fV s p=⟨s.xs.set j s.xs[j].more,s.next,s.ids++[s.xs[j].id]⟩:=by
    unfold fV
    rw[ai h,hj,cd,aa m2]
   rw[hj]
   have hc:=hF.ln _ (aP m2)
   refine Zc ?_
   refine an (⟨s.xs,s.next,j,bo,bc⟩:ZZ) ⟨oq,s.xs[j],aa m2,by omega,pP.symm⟩ aj rfl Zs Zs rfl Zl Zl
 obtain⟨OP,RL,j,mbo,XW⟩:=q
 obtain⟨Yq,x,Fw,X9,pP⟩:=hq
 dsimp only at Yq Fw X9 pP ⊢
 have m2:=(ah.1 Fw).1
 refine jd 0 (E:=wS mbo XW OP) rfl (show 0<OP.length by omega) fun gb rV=>?_
 have rV:mbo=some ⟨gb,0,none⟩:=rV
 subst rV
 have nz:∀ q:Nat,some (SV.a (AT.v (.pointer (some (Addr.add (Addr.add ⟨gb,0,none⟩ ((j:Int).toNat*3)) q)))))=some (SV.a (AT.v (.pointer (some ⟨gb,j*3+q,none⟩)))):=fun q=>by
  rw[cd,jM,Addr.add_lit]
 refine Za ?_
 refine br TT Z Z Z Z Z Z Z Z Z ⟨by omega,by omega⟩ (Zr ?_)
 refine eH 0 (off:=j*3+2) (c:=.v (.int .i64 x.ln)) TT Z Z Z Z Z (nz 2) Z Z Z Z (pq Fw rfl) trivial (Zr ?_)
 refine eO Z Z Z Z Z Z Zo (aM TT rfl ?_)
 refine br TT Z Z Z Z Z Z Z Z Z ⟨by omega,by omega⟩ (Zr ?_)
 refine jC 0 (off:=j*3+2) (A':=[wS (some ⟨gb,0,none⟩) XW (OP.set j x.more),Fv io ic s.ids]) TT Z Z Z Z (nz 2) Z Z Z Z Z (by show j*3+2<OP.length*3;omega) trivial rfl ?_ (Zr ?_)
 ·show [_,_]=[_,_]
  unfold wS
  rw[<-xS (j:=2) (r':=x.more) (.v (.int .i64 (x.ln+1))) Fw Zo rfl,dh]
 have LK:(OP.set j x.more)[j]?=some x.more:=by rw[eZ,au rfl,au m2]
 refine Za ?_
 refine br TT Z Z Z Z Z Z Z Z Z ⟨by omega,by omega⟩ (Zr ?_)
 refine eH 0 (off:=j*3+0) (c:=.v (.int .i64 x.id)) TT Z Z Z Z Z (nz 0) Z Z Z Z (pq (j:=0) LK rfl) trivial (Zr ?_)
 refine bl TT 1 Z Z Z Z Z Z Z Z Z Z Z Z Z Z Z Z Z Z Zl rfl Zo (by show(s.ids.length+1)*8<=_;omega) fun XZ X0 YA=>aM TT rfl ?_
 refine Zc ?_
 refine an (k+1,(⟨⟨OP.set j x.more,RL,s.ids++[x.id]⟩,some ⟨gb,0,none⟩,XW,XZ,X0⟩:ZY)) ⟨cz,by dsimp only;rw[pP,l8],by dsimp only;rw[dh];exact Yq,by dsimp only;rw[af];exact YA⟩ (by dsimp only;omega) rfl ?_ ?_ ?_ Zl Zl
 ·dsimp only
  rw[af]
  (repeat first | exact trivial | refine⟨rfl,?_⟩)
 ·dsimp only
  rw[dh]
  (repeat first | exact trivial | refine⟨rfl,?_⟩)
 ·show [_,_]=[_,_]
  dsimp only
  unfold Fv CV
  rw[aF,af]
  rfl
structure R3D where
 k:Nat
 cur:List cH
 bo:Option Addr
 bc:Nat
theorem UY(σ:al)(xs:List cH)(hl:xs.length<=1000000)(next:Int)(ao:Option Addr)(cap:Nat)(H:bu σ ao xs.length cap 3 (eI xs))(hx:∀ x∈xs,-1000000<=x.ln/\x.ln<=1000000)(ids:List Int)(hi:ids.length<=1000000)(io:Option Addr)(ic:Nat)(HI:bu σ io ids.length ic 1 (kK ids)):
  fa Tryz.prog 187 [.agg [.v (.slice ao xs.length cap),.v (.int .i64 next)],.a (.v (.slice io ids.length ic))] σ (fun v bD=>match eF xs ids with
   | none=>v=.tuple #[.agg #[.slice none 0 0,.int .i64 0],.int .i64 6]
   | some ys=>∃ bo bc,v=.tuple #[.agg #[.slice bo ys.length bc,.int .i64 next],.int .i64 0]/\bu bD bo ys.length bc 3 (eI ys)):=by
 refine ek Tryz.func187 Z Z Zl fun w=>?_
 refine Za ?_
 refine ji (fun(_:Xo)=>σ) (fun _=>[(1,.a (.v (.slice io ids.length ic))),(2,.a (.p 0 0)),(4,.a (.p 1 0)),(6,.a (.p 3 0))]) (fun s=>[(0,.loc 112,[.v (.slice ao xs.length cap),.v (.int .i64 next)]),(1,.loc 112,[.v (.slice none 0 0),.v (.int .i64 0)]),(3,.loc 112,[.v (.slice s.bo xs.length s.bc),.v (.int .i64 next)])]) (fun s=>[wS s.bo s.bc xs]) 4 (fun s=>xs.length<=s.bc) ?_ (fun⟨ZU,ZV⟩ mC=>?_)
 ·skip
  refine ky 9 [1,4,6] [(0,.loc 112,[.v (.slice ao xs.length cap),.v (.int .i64 next)])] mixed Zk rfl (fT Zs) ?_
  refine bQ (i:=1) TT rfl Zk Zk Z Z Z Z Z ?_
  refine bQ (i:=2) TT rfl Zk Zk Z Z Z Z Z ?_
  refine bQ (i:=4) TT rfl Zk Zk Z Z Z Z Z ?_
  refine bQ (i:=5) TT rfl Zk Zk Z Z Z Z Z ?_
  refine od (i:=0) (j:=7) Zk ?_ ?_
  ·refine gG TT Z Z Z Z Z ?_
   refine jk 2 0 3 rfl (fun c hc=>by cases hc) rfl (by decide) rfl fun g1=>?_
   refine od (i:=3) (j:=7) Zk ?_ ?_
   ·refine mE TT 0 Z Z Z Z Z Z Z H Z Z Z Z Z Z Z Z Z (fun r hr=>(gE _ r hr).2.2) Zo (by show(0+xs.length)*40<=_;omega) fun bo bc oq=>?_
    rw[show 0+xs.length=xs.length from cG _] at oq ⊢
    refine bQ (i:=6) TT rfl Zk Zk Z Z Z Z Z ?_
    refine dp (i:=7) Zk ?_
    refine gG TT Z Z Z Z Z ?_
    refine eS [(8,.sink)] Z Z Zk ?_
    refine lP ?_
    refine an (⟨bo,bc⟩:Xo) oq aj rfl Zs Zs rfl Zl Zl
   ·refine gG TT Z Z Z Z Z ?_
    refine dp (i:=3) Zk ?_
    refine mE TT 0 Z Z Z Z Z Z Z H Z Z Z Z Z Z Z Z Z (fun r hr=>(gE _ r hr).2.2) Zo (by show(0+xs.length)*40<=_;omega) fun bo bc oq=>?_
    rw[show 0+xs.length=xs.length from cG _] at oq ⊢
    refine eS [(6,.pure),(8,.sink)] Z Z Zk ?_
    refine lP ?_
    refine an (⟨bo,bc⟩:Xo) oq aj rfl Zs Zs rfl Zl Zl
  ·refine JN ?_
   refine gG TT Z Z Z Z Z ?_
   refine dp (i:=0) Zk ?_
   refine gG TT Z Z Z Z Z ?_
   refine jk 4 0 3 rfl (fun c hc=>by cases hc) rfl (by decide) rfl fun g1=>?_
   refine dp (i:=3) Zk ?_
   refine mE TT 0 Z Z Z Z Z Z Z H Z Z Z Z Z Z Z Z Z (fun r hr=>(gE _ r hr).2.2) Zo (by show(0+xs.length)*40<=_;omega) fun bo bc oq=>?_
   rw[show 0+xs.length=xs.length from cG _] at oq ⊢
   refine eS [(6,.pure),(8,.sink)] Z Z Zk ?_
   refine lP ?_
   refine an (⟨bo,bc⟩:Xo) oq aj rfl Zs Zs rfl Zl Zl
 dsimp only at mC ⊢
 refine Zd ?_
 refine gC (fun(s:al) (_:R3D)=>s) (fun _ t=>[(1,.a (.v (.slice io ids.length ic))),(4,.a (.p 1 0)),(6,.a (.p 3 0)),(7,.a (.v (.int .i64 (t.k:Nat))))]) (fun _ t=>[(1,.loc 112,[.v (.slice none 0 0),.v (.int .i64 0)]),(3,.loc 112,[.v (.slice t.bo t.cur.length t.bc),.v (.int .i64 next)])]) (fun _ t=>[wS t.bo t.bc t.cur]) 4
  (fun s t=>σ.le s/\t.k<=ids.length/\t.cur.length<=xs.length/\t.cur.length<=t.bc/\(∀ x∈t.cur,-1000000 - (t.k:Int)<=x.ln/\x.ln<=1000000)/\eF xs ids=eF t.cur (ids.drop t.k)) (fun _ t=>ids.length - t.k) σ ⟨0,xs,ZU,ZV⟩ ⟨al.le_refl _,ay _,aq _,mC,fun x h=>by have:=hx x h;dsimp only;omega,rfl⟩ rfl Zs Zs rfl Zl Zl fun s ⟨k,cur,bo,bc⟩ ⟨Yr,hk,nZ,DX,hc,hd⟩=>?_
 have HI:=HI.mono Yr
 dsimp only at hk nZ DX hc hd ⊢
 refine Za ?_
 refine aG rfl (fun h=>?_) (fun h=>?_)
 rotate_left
 ·have fQ:k=ids.length:=by have:=ab h;omega
  rw[fQ,bC] at hd
  rw[hd]
  refine Ze ?_
  refine dD 0 Z Z fun s2 cw hS=>?_
  refine aw TT rfl fun β w' _ _=>?_
  exact⟨bo,bc,rfl,qH hS DX⟩
 have cz:k<ids.length:=by have:=ae h;omega
 have bU:=lg (aa cz)
 rw[aB cz] at hd
 generalize ids[k]=id at *
 rw[eF] at hd
 refine Zd ?_
 refine ck [(0,.pure),(1,.quiet),(2,.pure),(3,.pure),(4,.pure),(5,.quiet),(6,.sink),(7,.pure)] mixed Zk (aM TT rfl ?_)
 refine Zr ?_
 refine bk TT Z Z Z Z Z Z Z Z Z HI Zo bU (Zr ?_)
 refine uB Z Z Z Z Z Tryz.call222 Zl (fun bD h1 h2=>UU bD cur Zo bo bc (qH (h2 0 _ rfl) DX) id) fun v hv=>⟨.a (.v (.int .i64 (Bm cur id))),trivial,hv.symm,?_⟩
 refine Zr ?_
 have hb:=R7 cur id
 refine Za ?_
 refine aG rfl (fun h=>?_) (fun h=>?_)
 ·have h:Bm cur id<0:=ae h
  have e:gU cur id=none:=by unfold gU;rw[au h]
  rw[hd,e]
  refine Zb ?_
  refine aw TT rfl fun β w' _ _=>?_
  rfl
 have h:¬ Bm cur id<0:=ab h
 obtain⟨j,hj⟩:∃ j:Nat,Bm cur id=j:=⟨(Bm cur id).toNat,by omega⟩
 have m2:j<cur.length:=by omega
 have Fw:=aa m2
 have hcj:=hc _ (aP m2)
 have e:gU cur id=if cur[j].ln - 1=0 then some (cur.eraseIdx j) else some (cur.set j cur[j].less):=by
  unfold gU
  rw[ai h,hj,cd,Fw]
 rw[e] at hd
 rw[hj]
 have lY:∀ x∈cur.set j cur[j].less,-1000000 - ((k+1:Nat):Int)<=x.ln/\x.ln<=1000000:=fun x hx=>by
  rcases jI hx with hx | hx
  ·have:=hc x hx
   omega
  ·subst hx
   show -1000000 - ((k+1:Nat):Int)<=cur[j].ln - 1/\cur[j].ln - 1<=1000000
   omega
 generalize cur[j]=x at *
 refine jd 0 (E:=wS bo bc cur) rfl (show 0<cur.length by omega) fun gb rV=>?_
 have rV:bo=some ⟨gb,0,none⟩:=rV
 subst rV
 have nz:∀ q:Nat,some (SV.a (AT.v (.pointer (some (Addr.add (Addr.add ⟨gb,0,none⟩ ((j:Int).toNat*3)) q)))))=some (SV.a (AT.v (.pointer (some ⟨gb,j*3+q,none⟩)))):=fun q=>by
  rw[cd,jM,Addr.add_lit]
 have LK:(cur.set j x.less)[j]?=some x.less:=by rw[eZ,au rfl,au m2]
 have pv:(cur.set j x.less).length=cur.length:=dh ..
 refine Zc ?_
 refine br TT Z Z Z Z Z Z Z Z Z ⟨by omega,by omega⟩ (Zr ?_)
 refine eH 0 (off:=j*3+2) (c:=.v (.int .i64 x.ln)) TT Z Z Z Z Z (nz 2) Z Z Z Z (pq Fw rfl) trivial (Zr ?_)
 refine iY Z Z Z Z Z Z Zo (aM TT rfl ?_)
 refine br TT Z Z Z Z Z Z Z Z Z ⟨by omega,by omega⟩ (Zr ?_)
 refine jC 0 (off:=j*3+2) (A':=[wS (some ⟨gb,0,none⟩) bc (cur.set j x.less)]) TT Z Z Z Z (nz 2) Z Z Z Z Z (by show j*3+2<cur.length*3;omega) trivial rfl ?_ (Zr ?_)
 ·show [_]=[_]
  unfold wS
  rw[<-xS (j:=2) (r':=x.less) (.v (.int .i64 (x.ln - 1))) Fw Zo rfl,pv]
 refine Za ?_
 refine br TT Z Z Z Z Z Z Z Z Z ⟨by omega,by omega⟩ (Zr ?_)
 refine eH 0 (off:=j*3+2) (c:=.v (.int .i64 (x.ln - 1))) TT Z Z Z Z Z (nz 2) Z Z Z Z (pq (j:=2) LK rfl) trivial (Zr ?_)
 refine Za ?_
 refine aG rfl (fun h0=>?_) (fun h0=>?_)
 ·have h0:x.ln - 1=0:=ae h0
  rw[au h0] at hd
  refine vL 0 Z Z fun s2 cw hS=>?_
  have H2:=qH hS (by rw[pv];exact DX)
  rw[pv] at H2
  have HF:=H2.front (k:=j) Zo
  have HB:=H2.sub (l:=j+1) (k:=cur.length) Zo (aq _)
  have e1:(eI (cur.set j x.less)).take j++((eI (cur.set j x.less)).take cur.length).drop (j+1)=eI (cur.eraseIdx j):=by
   unfold eI
   rw[<-pv,<-aR (f:=kE),aI,<-dG,<-dR,<-aF,List.take_set_of_le (aq j),List.drop_set_of_lt (db j),J3]
  have mU:∀ r∈eI (cur.set j x.less),r.all AT.one=true:=fun r hr=>(gE _ r hr).2.2
  have Ub:(cur.eraseIdx j).length=j+(cur.length - (j+1)):=by rw[List.length_eraseIdx_of_lt m2];omega
  refine dV 300 3 ?_
  refine Za ?_
  refine eN TT j Z Z Z Z Z Z Z Z Z Z Zo DX (Zr ?_)
  refine dC TT 0 Z Z Z Z Z Z Z HF Z Z Z Z Z Z Z Z Z (fun r hr=>mU r (dr hr)) Zo (by show(0+j)*40<=_;omega) fun TG rR JI=>aM TT rfl ?_
  refine Zg ?_
  refine dL TT (j+1) cur.length Z Z Z Z Z Z Z Z Z Z (.inr ⟨_,_,rfl,by omega⟩) (.inl ⟨rfl,rfl⟩) Zo DX DX (Zr ?_)
  refine dC TT 0 Z Z Z Z Z Z Z HB Z Z Z Z Z Z Z Z Z (fun r hr=>mU r (dr (fZ hr))) Zo (by show(0+j+(cur.length - (j+1)))*40<=_;omega) fun Xl Kg SE=>aM TT rfl ?_
  rw[show 0+j+(cur.length - (j+1))=(cur.eraseIdx j).length by rw[Ub];omega] at SE ⊢
  refine Zg ?_
  refine an (s2,(⟨k+1,cur.eraseIdx j,Xl,Kg⟩:R3D)) ⟨al.le_trans Yr cw,cz,by dsimp only;omega,SE,fun y hy=>?_,hd⟩ (by dsimp only;omega) rfl Zs Zs ?_ Zl Zl
  ·have:=hc y (iH hy)
   dsimp only
   omega
  ·show [_]=[_]
   dsimp only
   unfold wS xT
   rw[<-e1,fj,aF]
   rfl
 ·have h0:¬ x.ln - 1=0:=ab h0
  rw[ai h0] at hd
  refine Zc ?_
  refine an (s,(⟨k+1,cur.set j x.less,some ⟨gb,0,none⟩,bc⟩:R3D)) ⟨Yr,cz,by dsimp only;omega,by dsimp only;omega,lY,hd⟩ (by dsimp only;omega) rfl Zs ?_ rfl Zl Zl
  dsimp only
  rw[pv]
  (repeat first | exact trivial | refine⟨rfl,?_⟩)
end Go.Sy
namespace Go.Sy
open Go.Proofs
def UO (ao:Option Addr) (cap:Nat) (l:List cq):AE:=⟨ao,l.length,cap,122,5,pK l⟩
theorem vk{σ:al}{ao:Option Addr}{cap:Nat}{l:List cq}(hS:b9 σ (UO ao cap l))(hc:l.length<=cap): bu σ ao l.length cap 5 (eP l) :=
 hS.sl rfl (fun r hr=>⟨(kB l r hr).1,(kB l r hr).2.1⟩) (by simp[eP]) rfl hc
theorem Ge(σ:al)(d:eh)(H:bu σ d.o d.L.length d.cap 11 (cv d.L))(i:Nat)(r:aH)(hr:d.L[i]?=some r):
  bZ Tryz.prog 131 [.agg (gL d),.a (.v (.int .i64 i))] σ (fun v=>v=(SV.agg (cm (dZ d.id r i))).den fy):=by
 have bU:=dn hr
 have Eu:=(ah.1 hr).1
 refine bW Tryz.func131 Z Z ⟨eJ 0 d,trivial,trivial⟩ fun w=>?_
 refine Za ?_
 refine bk TT Z Z Z Z Z Z Z Z Z H Zo bU (Zr ?_)
 refine Zb ?_
 refine aw TT rfl fun β w' _ _=>?_
 rfl
theorem WB(σ:al)(X:kR)(IX:iS σ X)(hl:X.ds.length<=1000)(hd:∀ d∈X.ds,d.ids.length=d.L.length/\d.L.length<=100000)(ls:List Int)(hn:ls.Nodup)(Np:ls.length<=1000000)(lo:Option Addr)(lc:Nat)(HL:bu σ lo ls.length lc 1 (kK ls)):
  fa Tryz.prog 129 [.agg (aA X),.a (.v (.slice lo ls.length lc))] σ (fun v bD=>∃ oo oc,v=.slice oo (lX (fun k=>decide (k∈ls)) X.ds).length oc/\bu bD oo (lX (fun k=>decide (k∈ls)) X.ds).length oc 5 (eP (lX (fun k=>decide (k∈ls)) X.ds))):=by
 refine ek Tryz.func129 Z Z ⟨az 0 X,trivial,trivial⟩ fun w=>?_
 refine Zd ?_
 refine dV 122 5 ?_
 refine bX (fun(_:Kr)=>σ) (fun t=>[(1,.a (.v (.slice lo ls.length lc))),(2,.a (.p 0 0)),(5,.a (.v (.slice t.oo t.o.length t.oc))),(6,.a (.v (.int .i64 (t.k:Nat))))])
  (fun _=>[(0,.loc 114,aA X)]) (fun t=>[UO t.oo t.oc t.o]) 1 (fun t=>t.k<=X.ds.length/\t.o=lX (fun k=>decide (k∈ls)) (X.ds.take t.k)/\t.o.length<=t.oc/\t.o.length<=t.k*100000) (fun t=>X.ds.length - t.k) ⟨0,[],none,0⟩
  ⟨ay _,rfl,aq _,ay _⟩ rfl Zs Zs rfl Zl Zl fun⟨k,o,oo,oc⟩ ⟨hk,ho,j6,Hs⟩=>?_
 dsimp only at hk ho j6 Hs ⊢
 refine Za ?_
 refine aG rfl (fun h=>?_) (fun h=>?_)
 rotate_left
 ·have fQ:k=X.ds.length:=by have:=ab h;omega
  rw[fQ,aI] at ho
  subst ho
  refine Ze ?_
  refine dD 0 Z Z fun s1 cP hS=>?_
  refine aw TT rfl fun β w' _ _=>?_
  exact⟨oo,oc,rfl,vk hS j6⟩
 have cz:k<X.ds.length:=by have:=ae h;omega
 have xj:=aa cz
 have bU:=iQ xj
 have pU:=qI xj
 have L4:=hd X.ds[k] (aP cz)
 have An:=IX.doc X.ds[k] (aP cz)
 have l8:=CA (q:=fun k=>decide (k∈ls)) xj
 rw[<-ho] at l8
 generalize X.ds[k]=d at *
 obtain⟨VI,DW⟩:=L4
 refine Zd ?_
 refine bX (fun(_:Kr)=>σ) (fun t=>[(1,.a (.v (.slice lo ls.length lc))),(2,.a (.p 0 0)),(5,.a (.v (.slice t.oo t.o.length t.oc))),(6,.a (.v (.int .i64 k))),(7,.a (.v (.int .i64 (t.k:Nat))))])
  (fun _=>[(0,.loc 114,aA X)]) (fun t=>[UO t.oo t.oc t.o]) 1 (fun t=>t.k<=d.ids.length/\t.o=o++OF (fun k=>decide (k∈ls)) d t.k/\t.o.length<=t.oc) (fun t=>d.ids.length - t.k) ⟨0,o,oo,oc⟩
  ⟨ay _,(aL o).symm,j6⟩ rfl Zs Zs rfl Zl Zl fun⟨i,o1,oo,oc⟩ ⟨hi,GI,j6⟩=>?_
 dsimp only at hi GI j6 ⊢
 have px:=Gp (fun k=>decide (k∈ls)) d i
 have Nq:o1.length=o.length+(OF (fun k=>decide (k∈ls)) d i).length:=by rw[GI,af]
 refine Za ?_
 refine bk TT Z Z Z Z Z Z Z Z Z IX.lT Zo bU (Zr ?_)
 refine Za ?_
 refine aG rfl (fun h=>?_) (fun h=>?_)
 rotate_left
 ·have hi0:i=d.ids.length:=by
   have:=ab (show decide ((i:Int)<d.L.length)=false from h)
   omega
  subst hi0
  rw[Gq _ d VI] at GI
  refine Zg ?_
  refine an (⟨k+1,o1,oo,oc⟩:Kr) ⟨cz,by dsimp only;rw[l8,GI],j6,by dsimp only;rw[Nat.succ_mul];omega⟩ (by dsimp only;omega) rfl Zs Zs rfl Zl Zl
 have Eu:i<d.ids.length:=by
  have:=ae (show decide ((i:Int)<d.L.length)=true from h)
  omega
 have ZK:=aa Eu
 have hri:d.L[i]?=some (d.L[i]'Zo):=aa Zo
 have JA:=lg ZK
 have hit:=Ge σ d An.1 i _ hri
 have qL:=Cz (q:=fun k=>decide (k∈ls)) ZK hri
 generalize d.ids[i]=x at *
 generalize d.L[i]'Zo=r at *
 refine Zd ?_
 refine bX (fun(_:Kr)=>σ) (fun t=>[(1,.a (.v (.slice lo ls.length lc))),(2,.a (.p 0 0)),(5,.a (.v (.slice t.oo t.o.length t.oc))),(6,.a (.v (.int .i64 k))),(7,.a (.v (.int .i64 i))),(8,.a (.v (.int .i64 (t.k:Nat))))])
  (fun _=>[(0,.loc 114,aA X)]) (fun t=>[UO t.oo t.oc t.o]) 1 (fun t=>t.k<=ls.length/\t.o=o1++(if x∈ls.take t.k then [dZ d.id r i] else [])/\t.o.length<=t.oc) (fun t=>ls.length - t.k) ⟨0,o1,oo,oc⟩
  ⟨ay _,by simp,j6⟩ rfl Zs Zs rfl Zl Zl fun⟨j,o2,oo,oc⟩ ⟨hj,Yl,j6⟩=>?_
 dsimp only at hj Yl j6 ⊢
 have ae5:o2.length<=o1.length+1:=by
  rw[Yl,af]
  split
  ·exact aq _
  ·exact kT _
 refine Za ?_
 refine aG rfl (fun h=>?_) (fun h=>?_)
 rotate_left
 ·have LZ:j=ls.length:=by have:=ab h;omega
  rw[LZ,aI] at Yl
  refine Zg ?_
  refine an (⟨i+1,o2,oo,oc⟩:Kr) ⟨Eu,by dsimp only;rw[qL,Yl,GI,av];simp only[aX],j6⟩ (by dsimp only;omega) rfl Zs Zs rfl Zl Zl
 have m2:j<ls.length:=by have:=ae h;omega
 have hlj:=aa m2
 have ad5:=lg hlj
 have mi:ls.take (j+1)=ls.take j++[ls[j]]:=ak m2
 have hnj:ls[j]∉ls.take j:=fun hm=>by
  obtain⟨q,hq,he⟩:=gg.1 hm
  rw[aE] at hq
  rw[List.getElem_take] at he
  exact dE.1 hn q j Zo m2 Zo he
 generalize ls[j]=y at *
 refine Zd ?_
 refine ck [(0,.pure),(1,.quiet),(2,.pure),(3,.pure),(4,.quiet),(5,.pure),(6,.pure),(7,.quiet),(8,.pure),(9,.pure),(10,.pure),(11,.quiet),(12,.pure)] mixed Zk (aM TT rfl ?_)
 refine Zr ?_
 refine bk TT Z Z Z Z Z Z Z Z Z IX.lines Zo pU (Zr ?_)
 refine bk TT Z Z Z Z Z Z Z Z Z An.2 Zo JA (Zr ?_)
 refine bk TT Z Z Z Z Z Z Z Z Z HL Zo ad5 (Zr ?_)
 refine Za ?_
 refine aG rfl (fun h=>?_) (fun h=>?_)
 ·have h:x=y:=ae h
  subst h
  rw[ai hnj,aL] at Yl
  subst Yl
  refine Za ?_
  refine bk TT Z Z Z Z Z Z Z Z Z IX.lT Zo bU (Zr ?_)
  refine cr 51 (.agg (gL d)) rfl (eJ _ _) (fun _=>rfl) ?_
  refine aT (ys:=[.agg (gL d),.a (.v (.int .i64 i))]) Z Z Z Z Z Tryz.call131 ⟨eJ 0 d,trivial,trivial⟩ hit fun v hv=>⟨.agg (cm (dZ d.id r i)),b6 _ _,hv.symm,?_⟩
  refine Zr ?_
  refine bl TT 0 Z Z Z Z Z Z Z Z Z Z Z Z Z Z Z Z Z Z (b6 0 _) rfl Zo (by show(o2.length+1)*40<=_;omega) fun om nE lS=>aM TT rfl ?_
  refine Zc ?_
  have lJ:(o2++[dZ d.id r i]).length=o2.length+1:=by simp
  refine an (⟨j+1,o2++[dZ d.id r i],om,nE⟩:Kr) ⟨m2,by dsimp only;rw[mi,au (gH _ (aU.2 rfl))],by dsimp only;omega⟩ (by dsimp only;omega) rfl ?_ Zs ?_ Zl Zl
  ·dsimp only
   rw[lJ]
   (repeat first | exact trivial | refine⟨rfl,?_⟩)
  ·show [_]=[_]
   dsimp only
   unfold UO
   rw[lJ,<-sj]
   rfl
 ·have h:¬ x=y:=ab h
  refine Zc ?_
  refine an (⟨j+1,o2,oo,oc⟩:Kr) ⟨m2,by dsimp only;rw[mi,Yl];simp[h],j6⟩ (by dsimp only;omega) rfl Zs Zs rfl Zl Zl
theorem Q5(σ:al)(X:kR)(IX:iS σ X)(hl:X.ds.length<=1000)(hd:∀ d∈X.ds,d.ids.length=d.L.length/\d.L.length<=100000)(line:Int):
  fa Tryz.prog 128 [.agg (aA X),.a (.v (.int .i64 line))] σ (fun v bD=>∃ oo oc,v=.slice oo (lX (fun k=>decide (k=line)) X.ds).length oc/\bu bD oo (lX (fun k=>decide (k=line)) X.ds).length oc 5 (eP (lX (fun k=>decide (k=line)) X.ds))):=by
 refine ek Tryz.func128 Z Z ⟨az 0 X,trivial,trivial⟩ fun w=>?_
 refine Za ?_
 refine gP 1 1 1 rfl Zl rfl (by decide) fun g=>?_
 refine iI 0 Z Z Z fun s1 cP hS=>?_
 have HL:bu s1 (some ⟨g,0,none⟩) ([line]:List Int).length 1 1 (kK [line]):=hS.sl rfl (fun r hr=>by
  have:r=[.v (.int .i64 line)]:=by simpa[kK] using hr
  subst this
  exact⟨rfl,fun c hc=>by rw[aU] at hc;subst hc;trivial⟩) Z Z (aq _)
 have hO:=WB s1 X (IX.mono cP) hl hd [line] (by simp) (by show 1<=_;omega) _ _ HL
 have e:(fun k:Int=>decide (k∈[line]))=fun k=>decide (k=line):=by
  funext k
  simp
 rw[e] at hO
 refine cr 5 (.agg (aA X)) rfl (az _ _) (fun _=>rfl) ?_
 refine bN (ys:=[.agg (aA X),.a (.v (.slice (some ⟨g,0,none⟩) 1 1))]) Z Z Z Z Z Tryz.call129 ⟨az 0 X,trivial,trivial⟩ hO fun v s2 cw ⟨oo,oc,hv,HO⟩=>⟨.a (.v (.slice oo (lX (fun k=>decide (k=line)) X.ds).length oc)),trivial,hv.symm,?_⟩
 refine gn ?_
 refine aw TT rfl fun β w' _ _=>?_
 exact⟨oo,oc,rfl,HO⟩
end Go.Sy
namespace Go.Sy
open Go.Proofs
def Ix (gs:Nat) (ao:Option Addr) (n cap:Nat) (now aK:Int):AE:=⟨some ⟨gs,0,none⟩,1,1,261,3,[.slice ao n cap,.int .i64 now,.int .i64 aK]⟩
def Ra (ao:Option Addr) (n cap:Nat) (l:List aH):AE:=⟨ao,n,cap,131,11,lz l⟩
def yH (gs:Nat) (ao:Option Addr) (cap:Nat) (now aK:Int) (l:List aH):List AE:=[Ix gs ao l.length cap now aK,Ra ao l.length cap l]
theorem SL(σ:al)(gs:Nat)(ao:Option Addr)(n cap:Nat)(now aK:Int)(h1:0<=now)(h2:now<=1125899906842624)(h3:0<=aK)(h4:aK<=1000):
  pV Tryz.prog 210 [.a (.v (.pointer (some ⟨gs,0,none⟩)))] σ [Ix gs ao n cap now aK] (fun v _ A'=>v=.int .i64 (now+aK)/\A'=[Ix gs ao n cap (now+aK) aK]):=by
 refine fk Tryz.func210 Z Z Zl fun w=>?_
 refine Za ?_
 refine ck [(0,.pure),(1,.pure),(2,.pure),(3,.pure),(4,.quiet),(5,.pure),(6,.pure),(7,.pure),(8,.quiet),(9,.pure),(10,.pure),(11,.pure),(12,.sink)] mixed Zk (aM TT rfl ?_)
 refine eH 0 (c:=.v (.int .i64 now)) TT Z Z Z Z Z Z Z Z Z Z Z trivial (Zr ?_)
 refine eH 0 (c:=.v (.int .i64 aK)) TT Z Z Z Z Z Z Z Z Z Z Z trivial (Zr ?_)
 refine eO Z Z Z Z Z Z Zo (Zr ?_)
 refine jC 0 (A':=[Ix gs ao n cap (now+aK) aK]) TT Z Z Z Z Z Z Z Z Z Z (by show 1<1*3;omega) trivial Z Z (Zr ?_)
 refine Za ?_
 refine eH 0 (c:=.v (.int .i64 (now+aK))) TT Z Z Z Z Z Z Z Z Z Z Z trivial (Zr ?_)
 refine Zb ?_
 refine dq TT rfl fun β w' _ _=>?_
 exact⟨rfl,rfl⟩
def MR:List (Nat×Tag):=[(0,.pure),(1,.pure),(2,.pure),(3,.quiet),(4,.pure),(5,.pure),(6,.dP),(7,.pure),(8,.pure),(9,.sink)]
def Ri:List (Nat×Tag):=[(0,.pure),(1,.pure),(2,.quiet),(3,.pure),(4,.pure),(5,.pure),(6,.quiet),(7,.pure),(8,.quiet),(9,.pure),(10,.pure),(11,.pure),(12,.quiet),(13,.pure),(14,.pure),(15,.sink)]
theorem pV.b{P:Program}{f:FuncId}{p q s l:SV}{x y:AT}{σ:al}{A:List AE}{Φ:Value->al->List AE->Prop}(e:x.den fy=y.den fy)(h:pV P f [p,q,.a x,s,l] σ A Φ): pV P f [p,q,.a y,s,l] σ A Φ:=by
 unfold pV at *
 simp only[bx,gi,SV.den] at *
 rw[<-e];exact h
theorem HR(g:aJ): ∀(σ:al) (r:List AT) (nm:Bool) (name:ByteArray) (lv:Int) (gs:Nat) (ao:Option Addr) (cap:Nat) (now aK:Int) (L:List aH),eQ σ g r->0<=now->now+2000*g.weight<=1125899906842624->0<=aK->aK<=1000 ->
  L.length+g.weight<=1000000->0<=lv->lv+g.weight<=1099511627776->L.length<=cap ->
  pV Tryz.prog 155 [.a (.v (.pointer (some ⟨gs,0,none⟩))),.agg r,.a (.b nm),.a (.v (.string name)),.a (.v (.int .i64 lv))] σ (yH gs ao cap now aK L) (fun v _ A'=>v=.tuple #[]/\∃ iB dk,(L++(bG aK g lv nm name now).1).length<=dk /\
   A'=yH gs iB dk (bG aK g lv nm name now).2 aK (L++(bG aK g lv nm name now).1)):=by
 induction g using aJ.sL with | _ g ih=>?_
 intro σ r nm name lv gs ao cap now aK L hr Al Qc pN sQ hnw VA Sj xZ
 obtain⟨la,lc,fG,ma,mc,ft,rfl,V⟩:=hr.open
 have hwg:=g.mq
 have Zw:=nj g.l
 have hwv:=nj g.vs
 have yw:=V.kv
 have pv:=B0 g.l (lv+1) (now+aK) pN sQ
 have Nj:=BX (aK:=aK) g.vs g.ks (lv+1) (cN aK g.l (lv+1) (now+aK)).2 pN sQ
 have Np:=(oN aK g.l (lv+1) (now+aK)).1
 have hlm:=(oM aK g.vs g.ks (lv+1) (cN aK g.l (lv+1) (now+aK)).2).1
 rw[my]
 refine fk Tryz.func155 Z Z Zl fun w=>?_
 refine Za ?_
 refine eH 0 (c:=.v (.slice ao L.length cap)) TT Z Z Z Z Z Z Z Z Z Z Z trivial (Zr ?_)
 refine Za ?_
 let x0:aH:=⟨0,0,lv,g.kind,nm,name,g.b,g.n,g.s⟩
 let x1:aH:=⟨now+aK,0,lv,g.kind,nm,name,g.b,g.n,g.s⟩
 refine ck [(0,.pure),(1,.pure),(2,.pure),(3,.pure),(4,.quiet),(5,.pure),(6,.pure),(7,.quiet),(8,.pure),(9,.pure),(10,.pure),(11,.quiet),(12,.pure),(13,.quiet),(14,.pure),(15,.quiet),(16,.pure),(17,.dP),(18,.sink),(19,.pure),(20,.pure),(21,.sink)] mixed Zk (aM TT rfl ?_)
 refine eH 0 (c:=.v (.slice ao L.length cap)) TT Z Z Z Z Z Z Z Z Z Z Z trivial (Zr ?_)
 refine bl TT 1 Z Z Z Z Z Z Z Z Z Z Z Z Z Z Z Z Z Z Zl rfl Zo (by show(L.length+1)*112<=_;omega) fun TG rR JI=>aM TT rfl ?_
 refine jC 0 (A':=[Ix gs TG (L.length+1) rR now aK,⟨TG,L.length+1,rR,131,11,lz L++(di x0).map AT.val⟩]) TT Z Z Z Z Z Z Z Z Z Z (by show 0<1*3;omega) trivial Z Z (Zr ?_)
 rw[Cj]
 refine Za ?_
 have hM:(L++[x0])[L.length]?=some x0:=by simp
 have Qg:L.length<(L++[x0]).length:=(ah.1 hM).1
 have ZR:(L++[x0]).set L.length x1=L++[x1]:=by simp
 have Xd:(L++[x1]).length=(L++[x0]).length:=by simp
 have hMk:L.length+1=(L++[x0]).length:=by simp
 rw[hMk]
 rw[hMk] at JI
 generalize hMM:L++[x0]=M at *
 refine jd 1 (E:=Ra TG M.length rR M) rfl (by show 0<M.length;omega) fun g1 C9=>?_
 have C9:TG=some ⟨g1,0,none⟩:=C9
 subst C9
 refine yc MR (fun β w=>w.cell? ⟨gs,0,none⟩=some (.slice (some ⟨g1,0,none⟩) M.length rR)) (fun β w h=>(h.arr 0 (Ix gs (some ⟨g1,0,none⟩) M.length rR now aK) rfl).cell Z Z) mixed Zk ?_
 refine ir TT Z Z Z Z Z Z ?_
 refine ir TT Z Z Z Z Z Z ?_
 refine ir TT Z Z Z Z Z Z ?_
 refine Le TT (.v (.slice (some ⟨g1,0,none⟩) M.length rR)) Z Z Z Z Z Z Z Z (fun _ _ h=>h) trivial ?_
 refine ir TT Z Z Z Z Z Z ?_
 refine ir TT Z Z Z Z Z Z ?_
 refine Gm [0,1] (A0:=[Ix gs (some ⟨g1,0,none⟩) M.length rR now aK]) (Ar:=[Ra (some ⟨g1,0,none⟩) M.length rR M]) Z Z Z Z Z Z Z Tryz.call210 Zl (SL σ gs (some ⟨g1,0,none⟩) M.length rR now aK Al Zo pN sQ) fun v lQ A1 cP ⟨hv,hA⟩=>?_
 subst hA
 refine⟨fun β w h=>(h.arr 0 (Ix gs (some ⟨g1,0,none⟩) M.length rR (now+aK) aK) rfl).cell Z Z,.a (.v (.int .i64 (now+aK))),trivial,hv.symm,?_⟩
 refine Gl rfl (fun β w h=>(h.arr 0 (Ix gs (some ⟨g1,0,none⟩) M.length rR (now+aK) aK) rfl).cell Z Z) (Zr ?_)
 refine br TT Z Z Z Z Z Z Z Z Z ⟨by omega,by omega⟩ (Zr ?_)
 have GH:L.length*11+0<M.length*11:=by omega
 refine jC 1 (A':=[Ix gs (some ⟨g1,0,none⟩) M.length rR (now+aK) aK,Ra (some ⟨g1,0,none⟩) M.length rR (L++[x1])]) (off:=L.length*11+0) TT Z Z Z Z ?_ Z Z Z Z Z GH trivial rfl ?_ (Zr ?_)
 ·show some (SV.a (AT.v (.pointer (some (Addr.add (Addr.add ⟨g1,0,none⟩ ((L.length:Int).toNat*11)) 0)))))=_
  rw[jM,Addr.add_lit]
  rfl
 ·show [_,_]=[_,_]
  congr 1
  congr 1
  unfold Ra
  congr 1
  show(lz M).set (L.length*11+0) (AT.v (.int .i64 (now+aK))).val=_
  rw[yP (r':=x1) _ hM Zo rfl,ZR]
 clear ZR
 refine Zd ?_
 refine fm (fun(s:Xm)=>s.σ) (fun _=>[(0,.a (.v (.pointer (some ⟨gs,0,none⟩)))),(4,.a (.v (.int .i64 lv))),(6,.a (.p 0 0)),(10,.a (.v (.int .i64 L.length)))])
  (fun _=>[(0,.loc 28,dN g la lc ma mc)]) (fun s=>yH gs s.ao s.cap s.now aK (L++x1::s.P)) 2
  (fun s=>lQ.le s.σ/\s.P=(cN aK g.l (lv+1) (now+aK)).1/\s.now=(cN aK g.l (lv+1) (now+aK)).2/\(L++x1::s.P).length<=s.cap) ?_ (fun s ⟨hs,Jz,AQ,uN⟩=>?_)
 ·refine bX (fun(s:Xm)=>s.σ) (fun s=>[(0,.a (.v (.pointer (some ⟨gs,0,none⟩)))),(4,.a (.v (.int .i64 lv))),(6,.a (.p 0 0)),(10,.a (.v (.int .i64 L.length))),(11,.a (.v (.int .i64 s.k)))])
   (fun _=>[(0,.loc 28,dN g la lc ma mc)]) (fun s=>yH gs s.ao s.cap s.now aK (L++x1::s.P)) 2
   (fun s=>s.k<=g.l.length/\lQ.le s.σ/\s.P++(cN aK (g.l.drop s.k) (lv+1) s.now).1=(cN aK g.l (lv+1) (now+aK)).1/\(cN aK (g.l.drop s.k) (lv+1) s.now).2=(cN aK g.l (lv+1) (now+aK)).2 /\
    0<=s.now/\s.now+2000*aJ.weights (g.l.drop s.k)<=now+aK+2000*aJ.weights g.l/\s.P.length+aJ.weights (g.l.drop s.k)<=aJ.weights g.l/\(L++x1::s.P).length<=s.cap)
   (fun s=>g.l.length - s.k) ⟨lQ,0,some ⟨g1,0,none⟩,rR,now+aK,[]⟩ ⟨ay _,al.le_refl _,rfl,rfl,by dsimp only;omega,by dsimp only;rw[cJ];omega,by dsimp only;rw[cJ];simp,by show(L++[x1]).length<=_;rw[Xd];exact JI⟩
   rfl Zs Zs (by unfold yH;dsimp only;rw[Xd]) Zl Zl fun⟨s,k,ao,cap,nw,P⟩ ⟨hk,hs,zr,Df,C2,LQ,YS,L6⟩=>?_
  dsimp only at hk hs zr Df C2 LQ YS L6 ⊢
  refine Za ?_
  refine aG rfl (fun h=>?_) (fun h=>?_)
  ·have cz:k<g.l.length:=by simpa using h
   obtain⟨rr,um,xh⟩:=(V.l.mono (al.le_trans cP hs)).get (aa cz)
   obtain⟨Lx,Lw,pI,Ls,Lp,pE,rfl,V'⟩:=xh.open
   have LM:=xp (aP cz)
   have hwd:=pW (aa cz)
   rw[aB cz,cN] at zr Df
   have qt:=qA (aK:=aK) g.l[k] (lv+1) false bF nw pN sQ
   have Vz:=(jQ aK g.l[k] (lv+1) false bF nw).1
   have hlen:(L++x1::P).length=L.length+1+P.length:=by simp;omega
   refine Zd ?_
   refine bk TT Z Z Z Z Z Z Z Z Z ((V.L.mono cP).mono hs) Zo um (Zr ?_)
   refine Zc ?_
   refine dT [0,1] (A0:=yH gs ao cap nw aK (L++x1::P)) (Ar:=[]) Z Z Z Z Z Z Z Tryz.call155 (by (repeat' (first | exact trivial | exact bh rfl | exact dF _ _ _ _ _ _ | exact dw _ _ | refine kz.of ?_ | refine SV.iv ?_ | exact SV.ez | exact AT.ez | exact eQ.qv (by assumption) | constructor))) (pV.b rfl (ih _ LM s _ false bF (lv+1) gs ao cap nw aK (L++x1::P) V'.rep C2 Zo pN sQ Zo Zo Zo L6)) fun v nC A2 cw ⟨hv,iB,dk,zp,hA⟩=>⟨.ik [],Zl,hv.symm,?_⟩
   subst hA
   refine lP ?_
   refine an ⟨nC,k+1,iB,dk,(bG aK g.l[k] (lv+1) false bF nw).2,P++(bG aK g.l[k] (lv+1) false bF nw).1⟩
    ⟨cz,al.le_trans hs cw,by rw[av];exact zr,Df,by dsimp only;omega,by dsimp only;omega,by dsimp only;rw[af];omega,?_⟩ (by dsimp only;omega) rfl Zs Zs ?_ Zl Zl
   ·have e:L++x1::(P++(bG aK g.l[k] (lv+1) false bF nw).1)=L++x1::P++(bG aK g.l[k] (lv+1) false bF nw).1:=by simp
    dsimp only
    rw[e];exact zp
   ·have e:L++x1::(P++(bG aK g.l[k] (lv+1) false bF nw).1)=L++x1::P++(bG aK g.l[k] (lv+1) false bF nw).1:=by simp
    dsimp only
    rw[e,aL]
  ·have fQ:k=g.l.length:=by simp at h;omega
   subst fQ
   rw[bC,cN] at zr Df
   rw[aL] at zr
   refine Ze ?_
   refine an ⟨s,g.l.length,ao,cap,nw,P⟩ ⟨hs,zr,Df,L6⟩ aj rfl Zs Zs rfl Zl Zl
 obtain⟨s,k0,ao,cap,Ef,P0⟩:=s
 dsimp only at hs Jz AQ uN ⊢
 have hlP:P0.length<=aJ.weights g.l:=by rw[Jz];exact Np
 have Hu:Ef<=now+aK+2000*aJ.weights g.l:=by rw[AQ];exact pv.2
 have al8:now+aK<=Ef:=by rw[AQ];exact pv.1
 rw[<-AQ] at hlm Nj
 rw[<-AQ,<-Jz]
 clear AQ Jz
 refine Zd ?_
 refine fm (fun(s:Xm)=>s.σ) (fun _=>[(0,.a (.v (.pointer (some ⟨gs,0,none⟩)))),(10,.a (.v (.int .i64 L.length)))])
  (fun _=>[]) (fun s=>yH gs s.ao s.cap s.now aK (L++x1::P0++s.P)) 0
  (fun s=>lQ.le s.σ/\s.P=(cU aK g.vs g.ks (lv+1) Ef).1/\s.now=(cU aK g.vs g.ks (lv+1) Ef).2/\(L++x1::P0++s.P).length<=s.cap) ?_ (fun s ⟨hs,Jz,AQ,uN⟩=>?_)
 ·refine bX (fun(s:Xm)=>s.σ) (fun s=>[(0,.a (.v (.pointer (some ⟨gs,0,none⟩)))),(4,.a (.v (.int .i64 lv))),(6,.a (.p 0 0)),(10,.a (.v (.int .i64 L.length))),(12,.a (.v (.int .i64 s.k)))])
   (fun _=>[(0,.loc 28,dN g la lc ma mc)]) (fun s=>yH gs s.ao s.cap s.now aK (L++x1::P0++s.P)) 2
   (fun s=>s.k<=g.ks.length/\lQ.le s.σ/\s.P++(cU aK (g.vs.drop s.k) (g.ks.drop s.k) (lv+1) s.now).1=(cU aK g.vs g.ks (lv+1) Ef).1/\(cU aK (g.vs.drop s.k) (g.ks.drop s.k) (lv+1) s.now).2=(cU aK g.vs g.ks (lv+1) Ef).2 /\
    0<=s.now/\s.now+2000*aJ.weights (g.vs.drop s.k)<=Ef+2000*aJ.weights g.vs/\s.P.length+aJ.weights (g.vs.drop s.k)<=aJ.weights g.vs/\(L++x1::P0++s.P).length<=s.cap)
   (fun s=>g.ks.length - s.k) ⟨s,0,ao,cap,Ef,[]⟩ ⟨ay _,hs,rfl,rfl,by dsimp only;omega,by dsimp only;rw[cJ];omega,by dsimp only;rw[cJ];simp,by dsimp only;rw[aL];exact uN⟩
   rfl Zs Zs (by rw[aL]) Zl Zl fun⟨s,k,ao,cap,nw,P⟩ ⟨hk,hs,zr,Df,C2,LQ,YS,L6⟩=>?_
  dsimp only at hk hs zr Df C2 LQ YS L6 ⊢
  refine Za ?_
  refine aG rfl (fun h=>?_) (fun h=>?_)
  ·have cz:k<g.ks.length:=by simpa using h
   have GP:k<g.vs.length:=by omega
   obtain⟨rr,um,xh⟩:=(V.v.mono (al.le_trans cP hs)).get (aa GP)
   have bU:=ia (aa cz) um
   obtain⟨Lx,Lw,pI,Ls,Lp,pE,rfl,V'⟩:=xh.open
   have LM:=xn (aP GP)
   have hwd:=pW (aa GP)
   rw[aB GP,aB cz,cU] at zr Df
   have qt:=qA (aK:=aK) g.vs[k] (lv+1) true g.ks[k] nw pN sQ
   have Vz:=(jQ aK g.vs[k] (lv+1) true g.ks[k] nw).1
   have hlen:(L++x1::P0++P).length=L.length+1+P0.length+P.length:=by simp;omega
   refine Zd ?_
   refine ck Ri mixed Zk (Zr ?_)
   refine bk TT Z Z Z Z Z Z Z Z Z ((V.M.mono cP).mono hs) Zo bU (Zr ?_)
   refine bk TT Z Z Z Z Z Z Z Z Z ((V.M.mono cP).mono hs) Zo bU (Zr ?_)
   refine eO Z Z Z Z Z Z Zo (Zr ?_)
   refine dT [0,1] (A0:=yH gs ao cap nw aK (L++x1::P0++P)) (Ar:=[]) Z Z Z Z Z Z Z Tryz.call155 (by (repeat' (first | exact trivial | exact bh rfl | exact dF _ _ _ _ _ _ | exact dw _ _ | refine kz.of ?_ | refine SV.iv ?_ | exact SV.ez | exact AT.ez | exact eQ.qv (by assumption) | constructor))) (pV.b rfl (ih _ LM s _ true g.ks[k] (lv+1) gs ao cap nw aK (L++x1::P0++P) V'.rep C2 Zo pN sQ Zo Zo Zo L6)) fun v nC A2 cw ⟨hv,iB,dk,zp,hA⟩=>⟨.ik [],Zl,hv.symm,?_⟩
   subst hA
   refine lP ?_
   refine an ⟨nC,k+1,iB,dk,(bG aK g.vs[k] (lv+1) true g.ks[k] nw).2,P++(bG aK g.vs[k] (lv+1) true g.ks[k] nw).1⟩
    ⟨cz,al.le_trans hs cw,by rw[av];exact zr,Df,by dsimp only;omega,by dsimp only;omega,by dsimp only;rw[af];omega,?_⟩ (by dsimp only;omega) rfl Zs Zs ?_ Zl Zl
   ·dsimp only
    rw[<-av];exact zp
   ·dsimp only
    rw[<-av,aL]
  ·have fQ:k=g.ks.length:=by simp at h;omega
   subst fQ
   rw[bC,dO Zo,cU] at zr Df
   rw[aL] at zr
   refine Ze ?_
   refine an ⟨s,g.ks.length,ao,cap,nw,P⟩ ⟨hs,zr,Df,L6⟩ aj rfl Zs Zs rfl Zl Zl
 obtain⟨s,k0,ao,cap,wR,P1⟩:=s
 dsimp only at hs Jz AQ uN ⊢
 have al7:wR<=Ef+2000*aJ.weights g.vs:=by rw[AQ];exact Nj.2
 have ae3:Ef<=wR:=by rw[AQ];exact Nj.1
 rw[<-AQ,<-Jz]
 clear AQ Jz
 have hM:(L++x1::P0++P1)[L.length]?=some x1:=by simp
 have Qg:L.length<(L++x1::P0++P1).length:=(ah.1 hM).1
 have ZR:(L++x1::P0++P1).set L.length ⟨now+aK,wR+aK,lv,g.kind,nm,name,g.b,g.n,g.s⟩=L++⟨now+aK,wR+aK,lv,g.kind,nm,name,g.b,g.n,g.s⟩::(P0++P1):=by simp
 have Xd:(L++⟨now+aK,wR+aK,lv,g.kind,nm,name,g.b,g.n,g.s⟩::(P0++P1)).length=(L++x1::P0++P1).length:=by simp
 generalize hMM:L++x1::P0++P1=M at *
 refine jd 1 (E:=Ra ao M.length cap M) rfl (by show 0<M.length;omega) fun g1 C9=>?_
 have C9:ao=some ⟨g1,0,none⟩:=C9
 subst C9
 refine yc MR (fun β w=>w.cell? ⟨gs,0,none⟩=some (.slice (some ⟨g1,0,none⟩) M.length cap)) (fun β w h=>(h.arr 0 (Ix gs (some ⟨g1,0,none⟩) M.length cap wR aK) rfl).cell Z Z) mixed Zk ?_
 refine ir TT Z Z Z Z Z Z ?_
 refine ir TT Z Z Z Z Z Z ?_
 refine ir TT Z Z Z Z Z Z ?_
 refine Le TT (.v (.slice (some ⟨g1,0,none⟩) M.length cap)) Z Z Z Z Z Z Z Z (fun _ _ h=>h) trivial ?_
 refine ir TT Z Z Z Z Z Z ?_
 refine ir TT Z Z Z Z Z Z ?_
 refine Gm [0,1] (A0:=[Ix gs (some ⟨g1,0,none⟩) M.length cap wR aK]) (Ar:=[Ra (some ⟨g1,0,none⟩) M.length cap M]) Z Z Z Z Z Z Z Tryz.call210 Zl (SL s gs (some ⟨g1,0,none⟩) M.length cap wR aK Zo Zo pN sQ) fun v nC A2 cw ⟨hv,hA⟩=>?_
 subst hA
 refine⟨fun β w h=>(h.arr 0 (Ix gs (some ⟨g1,0,none⟩) M.length cap (wR+aK) aK) rfl).cell Z Z,.a (.v (.int .i64 (wR+aK))),trivial,hv.symm,?_⟩
 refine Gl rfl (fun β w h=>(h.arr 0 (Ix gs (some ⟨g1,0,none⟩) M.length cap (wR+aK) aK) rfl).cell Z Z) (Zr ?_)
 refine br TT Z Z Z Z Z Z Z Z Z ⟨by omega,by omega⟩ (Zr ?_)
 have GH:L.length*11+1<M.length*11:=by omega
 refine jC 1 (A':=yH gs (some ⟨g1,0,none⟩) cap (wR+aK) aK (L++⟨now+aK,wR+aK,lv,g.kind,nm,name,g.b,g.n,g.s⟩::(P0++P1))) (off:=L.length*11+1) TT Z Z Z Z ?_ Z Z Z Z Z GH trivial rfl ?_ (Zr ?_)
 ·show some (SV.a (AT.v (.pointer (some (Addr.add (Addr.add ⟨g1,0,none⟩ ((L.length:Int).toNat*11)) 1)))))=_
  rw[jM,Addr.add_lit]
  rfl
 ·unfold yH
  rw[Xd]
  show [_,_]=[_,_]
  congr 1
  congr 1
  unfold Ra
  congr 1
  show(lz M).set (L.length*11+1) (AT.v (.int .i64 (wR+aK))).val=_
  rw[yP (r':=⟨now+aK,wR+aK,lv,g.kind,nm,name,g.b,g.n,g.s⟩) _ hM Zo rfl,ZR]
 refine Zc ?_
 refine nU TT rfl fun β w' _ _=>?_
 refine⟨rfl,_,cap,?_,rfl⟩
 rw[Xd];exact uN
end Go.Sy
