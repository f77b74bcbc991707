/- Parts of the proof of CStreamsPlay: P16, Pa, P17, XCl, XRow, CFacts, SFacts, Cs, Cr, Co. No conditions. -/
import Derived.Test.YtlonlnagmfdlbaaGreatDoorM13
import Derived.Carry
import Derived.RowKit
import Derived.ChangeStays
import Derived.ChangeSame
import Derived.ReadAgain
import Derived.SizedLaws
import Derived.Deep.DeepHandedRow
import Derived.ProofKit
import Derived.OpenShut
import Derived.Lay
import Derived.SevenTiedAt
import Derived.Stop.Joined
import Derived.Test.YtlonlnagmfdlbaaGreatDoorCards
import Derived.Test.YtlonlnagmfdlbaaGreatDoorTie
import Derived.Shelf.Vars
import Derived.WideShapes
set_option maxRecDepth 100000
set_option maxHeartbeats 16000000
namespace Go.Sy
open Go.Proofs
inductive qX (m:Nat) (X:kR) (id:Int) (L:List aH):kR->Int->Prop
 | form (h:eG L=false):qX m X id L wj 2
 | BO (hs:eG L=true) (h:∃ d∈X.ds,d.id=id):qX m X id L wj 7
 | ok (hs:eG L=true) (uO:∀ d∈X.ds,d.id≠id) (X':kR) (p:Nat) (ps:List fH) (ao:Option Addr) (cap:Nat) (io:Option Addr) (ic:Nat) (hp:iC X.ds id p) (ou:ps.map fH.ss=fq L)
   (Db:X'.ds=X.ds.take p++⟨id,ao,cap,L,io,ic,(bS ⟨X.xs,X.next,[]⟩ ps).ids⟩::X.ds.drop p) (vF:X'.xs=(bS ⟨X.xs,X.next,[]⟩ ps).xs) (qt:X'.next=(bS ⟨X.xs,X.next,[]⟩ ps).next)
   (lj:nI (m+L.length) ⟨X'.xs,X'.next,[]⟩):qX m X id L X' 0
theorem qX.Rd{k:Nat}{X X':kR}{id e:Int}{L:List aH}(h:fS k X)(hL:L.length<=300)(hW:gJ L<=100000)(ha:qX (k*300) X id L X' e): e=2\/e=7\/e=0/\fS (k+1) X':=by
 cases ha with
 | form _=>exact .inl rfl
 | BO _ _=>exact .inr (.inl rfl)
 | ok hs uO _ p ps ao cap io ic hp ou Db vF qt lj=>exact .inr (.inr ⟨rfl,h.add hp uO hs hL hW ou Db vF qt lj⟩)
theorem qX.same{m n:Nat}{X Y X' Y':kR}{id e f:Int}{L:List aH}(h:mN X Y)(hx:qX m X id L X' e)(hy:qX n Y id L Y' f): e=f/\(e=0->mN X' Y'):=by
 cases hx with
 | form h1 =>
  cases hy with
  | form _=>exact⟨rfl,fun h=>absurd h (by decide)⟩
  | BO h2 _=>rw[h1] at h2;cases h2
  | ok h2 _ _ _ _ _ _ _ _ _ _ _ _ _ _=>rw[h1] at h2;cases h2
 | BO h1 h3 =>
  cases hy with
  | form h2=>rw[h1] at h2;cases h2
  | BO _ _=>exact⟨rfl,fun h=>absurd h (by decide)⟩
  | ok _ uO _ _ _ _ _ _ _ _ _ _ _ _ _ =>
   obtain⟨e,he,h4⟩:=uz h.ds h3
   exact absurd h4 (uO e he)
 | ok h1 uO _ p ps ao cap io ic hp ou Db vF qt _ =>
  cases hy with
  | form h2=>rw[h1] at h2;cases h2
  | BO _ h3 =>
   obtain⟨e,he,h4⟩:=uz h.ds.symm h3
   exact absurd h4 (uO e he)
  | ok _ _ _ q rs bo ag7 jo jc hq T8 Pd X7 Ym _=>exact⟨rfl,fun _=>add_same h hp hq ou T8 Db vF qt Pd X7 Ym⟩
theorem Wr(σ:al)(X:kR)(IX:iS σ X)(ho:X.ds.Pairwise fun x y=>x.id<y.id)(id:Int)(L:List aH)(R:rT L)(hL:L.length<=100000)(ao:Option Addr)(cap:Nat)(H:bu σ ao L.length cap 11 (cv L))(Db:X.ds.length<=1000)(m:Nat)(lj:nI m ⟨X.xs,X.next,[]⟩)(hm:m+L.length<=1000000):
  fa Tryz.prog 40 [.agg (aA X),.agg (zJ id ao L.length cap)] σ (fun v bD=>∃(X':kR) (e:Int),v=(SV.ik [.agg (aA X'),.a (.v (.int .i64 e))]).den fy/\iS bD X'/\qX m X id L X' e):=by
 cases hs:eG L with
 | false=>exact qW.mono (TX σ X id L R hs ao cap H) fun v bD _ hv=>⟨wj,2,hv,qK _,.form hs⟩
 | true =>
  by_cases hid:∃ d∈X.ds,d.id=id
  ·exact qW.mono (PW σ X IX Zo ho id hid L R hs ao cap H) fun v bD _ hv=>⟨wj,7,hv,qK _,.BO hs hid⟩
  ·have uO:∀ d∈X.ds,d.id≠id:=fun d hd he=>hid ⟨d,hd,he⟩
   exact qW.mono (Ku σ X IX ho id L R hL hs ao cap H uO Db m lj hm) fun v bD _ ⟨X',p,ps,io,ic,hv,xf,hp,ou,YL,vF,qt,hf⟩=>⟨X',0,hv,xf,.ok hs uO X' p ps ao cap io ic hp ou YL vF qt hf⟩
theorem Q7(σ:al)(X:kR)(IX:iS σ X)(ho:X.ds.Pairwise fun x y=>x.id<y.id)(id:Int)(L:List aH)(hW:gJ L<=100000)(hL:L.length<=4096)(ao:Option Addr)(cap:Nat)(H:bu σ ao L.length cap 11 (cv L))(Db:X.ds.length<=1000)(m:Nat)(lj:nI m ⟨X.xs,X.next,[]⟩)(hm:m+L.length<=1000000):
  fa Tryz.prog 127 [.agg (aA X),.agg (zJ id ao L.length cap)] σ (fun v bD=>∃(X':kR) (e:Int),v=(SV.ik [.agg (aA X'),.a (.v (.int .i64 e))]).den fy/\iS bD X'/\qX m X id L X' e) :=
 qW.mono (Q8 σ X IX ho id L hW hL ao cap H Db m lj hm) fun v bD _ ⟨h1,h2,h3⟩=>by
  cases hs:eG L with
  | false=>exact⟨wj,2,h1 hs,qK _,.form hs⟩
  | true =>
   by_cases hid:∃ d∈X.ds,d.id=id
   ·exact⟨wj,7,h2 hs hid,qK _,.BO hs hid⟩
   ·have uO:∀ d∈X.ds,d.id≠id:=fun d hd he=>hid ⟨d,hd,he⟩
    obtain⟨X',p,ps,io,ic,hv,xf,hp,ou,YL,vF,qt,hf⟩:=h3 hs uO
    exact⟨X',0,hv,xf,.ok hs uO X' p ps ao cap io ic hp ou YL vF qt hf⟩
theorem IC{c:Nat}: ∀ {L:List aH},(∀ r∈L,D9 r<=c)->gJ L<=L.length*c
 | [],_=>ay _
 | r::L,h=>by
  have h1:=h r a8
  have h2:=IC fun x hx=>h x (ba r hx)
  rw[gJ,List.length_cons,Nat.succ_mul]
  omega
theorem Zn.w{L:List aH}(h:Zn L): gJ L<=100000:=by
 have h1:=IC (c:=501) fun r hr=>by
  have:=h.2 r hr
  rw[D9]
  omega
 have h2:=cn 501 h.1
 omega
theorem rX(X:kR)(e:Int): (SV.ik [.agg (aA X),.a (.v (.int .i64 e))]).lt 0:=by
 intro x hx
 simp only[bM,dA,or_false] at hx
 rcases hx with rfl | rfl
 ·exact az 0 X
 ·trivial
structure DoS where
 s:al
 L:List aH
 ao:Option Addr
 cap:Nat
structure DpS where
 s:al
 X:kR
 e:Int
theorem Y0(σ:al)(X Y:kR)(IX:iS σ X)(IY:iS σ Y)(k:Nat)(hk:k<=12)(MX:fS k X)(MY:fS k Y)(Dd:mN X Y)(o:N1)(O:Hg σ o)(hF:Zm o):
  fa Tryz.prog 50 [.agg (aA X),.agg (aA Y),.agg (rN o)] σ (fun v bD=>∃ X' Y',v=(SV.ik [.agg (aA X'),.agg (aA Y'),.a .tt]).den fy/\iS bD X'/\iS bD Y'/\mN X' Y'/\fS (k+1) X'/\fS (k+1) Y'):=by
 have hXn:=MX.num
 have hYn:=MY.num
 have hXl:=MX.fit.xs
 have hYl:=MY.fit.xs
 have hXc:=MX.fit.ln
 have hYc:=MY.fit.ln
 dsimp only at hXl hYl hXc hYc
 have ap6:=NW o.aK 7 Zo Zo
 refine ek Tryz.func50 Z Z ⟨az 0 X,az 0 Y,mB 0 o,trivial⟩ fun w=>?_
 refine Za ?_
 refine aG rfl (fun h=>?_) (fun h=>?_)
 ·refine Za ?_
  refine cr 24 (.agg (aA X)) rfl (az _ _) (fun _=>rfl) ?_
  refine bN (ys:=[.agg (aA X),.a (.v (.int .i64 o.id))]) Z Z Z Z Z Tryz.call41 ⟨az 0 X,trivial,trivial⟩
   (TY σ X IX Zo MX.ord Zo (fun x hx=>by have:=hXc x hx;omega) (fun d hd=>by have h1:=(MX.doc d hd).ids;have h2:=(MX.doc d hd).len;omega) o.id)
   fun v s1 cP ⟨X',e,hv,xf,hDX⟩=>⟨.ik [.agg (aA X'),.a (.v (.int .i64 e))],rX X' e,hv.symm,?_⟩
  refine gX ?_
  refine cr 31 (.agg (aA Y)) rfl (az _ _) (fun _=>rfl) ?_
  refine bN (ys:=[.agg (aA Y),.a (.v (.int .i64 o.id))]) Z Z Z Z Z Tryz.call125 ⟨az 0 Y,trivial,trivial⟩
   (OB s1 Y (IY.mono cP) Zo Zo (fun x hx=>by have:=hYc x hx;omega) (fun d hd=>by have h1:=(MY.doc d hd).ids;have h2:=(MY.doc d hd).len;omega) o.id)
   fun v s2 cw ⟨Y',f,hv,HH,hDY⟩=>⟨.ik [.agg (aA Y'),.a (.v (.int .i64 f))],rX Y' f,hv.symm,?_⟩
  have hDX:=hDX.r MX.ord
  obtain⟨hef,Sd⟩:=hDX.same Dd MX.ord hDY
  subst hef
  have C7:=al.le_trans cP cw
  rcases hDX.Rd MX with he | ⟨he,HG⟩
  ·subst he
   refine gX ?_
   refine ax 39 rfl (fun _=>?_) (fun h=>absurd h (by decide))
   refine gn ?_
   refine ky 8 [2,3,4,7] [(0,.loc 60,aA X),(1,.loc 114,aA Y)] mixed Zk rfl (fT Zs) ?_
   refine bQ (i:=0) TT rfl Zk Zk Z Z Z Z Z ?_
   refine bQ (i:=1) TT rfl Zk Zk Z Z Z Z Z ?_
   refine bQ (i:=2) TT rfl Zk Zk Z Z Z Z Z ?_
   refine bQ (i:=3) TT rfl Zk Zk Z Z Z Z Z ?_
   refine bQ (i:=4) TT rfl Zk Zk Z Z Z Z Z ?_
   refine dp (i:=5) Zk ?_
   refine lB TT Z Z Z Z Z ?_
   refine dp (i:=6) Zk ?_
   refine lB TT Z Z Z Z Z ?_
   refine bQ (i:=7) TT rfl Zk Zk Z Z Z Z Z ?_
   refine eS [] Z Z Zk ?_
   refine Zb ?_
   refine aw TT rfl fun β w' _ _=>?_
   exact⟨X,Y,rfl,IX.mono C7,IY.mono C7,Dd,MX.skip,MY.skip⟩
  ·subst he
   have HC:fS (k+1) Y':=by
    rcases hDY.Rd MY with h1 | ⟨_,h1⟩
    ·exact absurd h1 (by decide)
    ·exact h1
   refine gX ?_
   refine ax 39 rfl (fun h=>absurd h (by decide)) (fun _=>?_)
   refine gX ?_
   refine aG rfl (fun h=>absurd h (by decide)) (fun _=>?_)
   refine Zc ?_
   refine ky 5 [4] [(5,.loc 60,aA X'),(6,.loc 114,aA Y')] mixed Zk rfl (fT Zs) ?_
   refine bQ (i:=0) TT rfl Zk Zk Z Z Z Z Z ?_
   refine bQ (i:=1) TT rfl Zk Zk Z Z Z Z Z ?_
   refine dp (i:=2) Zk ?_
   refine lB TT Z Z Z Z Z ?_
   refine dp (i:=3) Zk ?_
   refine lB TT Z Z Z Z Z ?_
   refine bQ (i:=4) TT rfl Zk Zk Z Z Z Z Z ?_
   refine eS [] Z Z Zk ?_
   refine Zb ?_
   refine aw TT rfl fun β w' _ _=>?_
   exact⟨X',Y',rfl,xf.mono cw,HH,Sd rfl,HG,HC⟩
 refine Zd ?_
 refine ji (fun(t:DoS)=>t.s) (fun t=>[(3,.a (.p 0 0)),(4,.a (.p 1 0)),(5,.a (.p 2 0)),(6,.a (.p 3 0)),(7,.a (.p 4 0)),(13,.a (.v (.slice t.ao t.L.length t.cap)))]) (fun _=>[(0,.loc 60,aA X),(1,.loc 114,aA Y),(2,.loc 118,rN o),(3,.loc 60,P7),(4,.loc 114,P7)]) (fun _=>[]) 5
  (fun t=>σ.le t.s/\bu t.s t.ao t.L.length t.cap 11 (cv t.L)/\t.L.length<=300/\gJ t.L<=100000) ?_ (fun t ht=>?_)
 ·refine aG rfl (fun h=>?_) (fun h=>?_)
  ·refine Zg ?_
   refine cr 57 (.agg (dN o.v o.la o.lc o.ma o.mc)) rfl (dF _ _ _ _ _ _) (fun _=>rfl) ?_
   refine bN (ys:=[.agg (dN o.v o.la o.lc o.ma o.mc),.a (.v (.int .i64 (1+lU .i64 o.aK 7)))]) Z Z Z Z Z Tryz.call81 ⟨dF 0 _ _ _ _ _,trivial,trivial⟩
    (TQ σ o.v _ (1+lU .i64 o.aK 7) O.v (by have:=hF.1;omega)) fun v s1 cP ⟨ao,cap,hv,HL⟩=>⟨.ik [.a (.v (.slice ao (gN o.v (1+lU .i64 o.aK 7)).1.length cap)),.a (.v (.int .i64 (gN o.v (1+lU .i64 o.aK 7)).2))],Zl,hv.symm,?_⟩
   rw[QK Zo Zo] at HL ⊢
   by_cases hs:kU o.v≠0
   ·rw[au hs] at HL ⊢
    dsimp only at HL ⊢
    refine gX ?_
    refine aG rfl (fun _=>?_) (fun h=>absurd h (by simp[hs]))
    refine Za ?_
    refine ky 5 [4] [(0,.loc 60,aA X),(1,.loc 114,aA Y)] mixed Zk rfl (fT Zs) ?_
    refine bQ (i:=0) TT rfl Zk Zk Z Z Z Z Z ?_
    refine bQ (i:=1) TT rfl Zk Zk Z Z Z Z Z ?_
    refine dp (i:=2) Zk ?_
    refine lB TT Z Z Z Z Z ?_
    refine dp (i:=3) Zk ?_
    refine lB TT Z Z Z Z Z ?_
    refine bQ (i:=4) TT rfl Zk Zk Z Z Z Z Z ?_
    refine eS [] Z Z Zk ?_
    refine Zb ?_
    refine aw TT rfl fun β w' _ _=>?_
    exact⟨X,Y,rfl,IX.mono cP,IY.mono cP,Dd,MX.skip,MY.skip⟩
   have hs:kU o.v=0:=by simpa using hs
   rw[ai (by simp[hs])] at HL ⊢
   dsimp only at HL ⊢
   have hw:=hF.1
   obtain⟨-,Bq,-,-,-,-⟩:=Im O.v (aK:=1+lU .i64 o.aK 7) Zo Zo Zo hs rfl
   have hW:=Gf (1+lU .i64 o.aK 7) o.v 0 false bF 0
   rw[show bF.size=0 from rfl] at hW
   generalize (bG (1+lU .i64 o.aK 7) o.v 0 false bF 0).1=L at *
   refine gX ?_
   refine aG rfl (fun h=>absurd h (by decide)) (fun _=>?_)
   refine Zc ?_
   refine an (⟨s1,L,ao,cap⟩:DoS) ⟨cP,HL,by dsimp only;omega,by dsimp only;omega⟩ aj rfl Zs Zs rfl ⟨by show 0<5;omega,by show 1<5;omega,by show 2<5;omega,by show 3<5;omega,by show 4<5;omega,trivial,trivial⟩
    (by exact⟨⟨by omega,az 5 X⟩,⟨by omega,az 5 Y⟩,⟨by omega,mB 5 o⟩,⟨by omega,oU 5⟩,⟨by omega,oU 5⟩,trivial⟩)
  ·refine Zc ?_
   refine an (⟨σ,o.L,o.lo,o.zg⟩:DoS) ⟨al.le_refl _,O.L,by have:=hF.2.1;dsimp only;omega,hF.2.w⟩ aj rfl Zs Zs rfl ⟨by show 0<5;omega,by show 1<5;omega,by show 2<5;omega,by show 3<5;omega,by show 4<5;omega,trivial,trivial⟩
    (by exact⟨⟨by omega,az 5 X⟩,⟨by omega,az 5 Y⟩,⟨by omega,mB 5 o⟩,⟨by omega,oU 5⟩,⟨by omega,oU 5⟩,trivial⟩)
 obtain⟨s0,L,ao,cap⟩:=t
 obtain⟨ow,HL,hLl,hW⟩:=ht
 dsimp only at ow HL hLl hW ⊢
 have R:=Bb hW
 have IX:=IX.mono ow
 have IY:=IY.mono ow
 refine Za ?_
 refine ji (fun(t:DpS)=>t.s) (fun t=>[(3,.a (.p 0 0)),(4,.a (.p 1 0)),(5,.a (.p 2 0)),(6,.a (.p 3 0)),(7,.a (.p 4 0)),(13,.a (.v (.slice ao L.length cap))),(16,.a (.p 5 0)),(17,.a (.v (.int .i64 t.e)))]) (fun t=>[(0,.loc 60,aA X),(1,.loc 114,aA Y),(2,.loc 118,rN o),(3,.loc 60,P7),(4,.loc 114,P7),(5,.loc 60,aA t.X)]) (fun _=>[]) 6
  (fun t=>s0.le t.s/\iS t.s t.X/\qX (k*300) X o.id L t.X t.e) ?_ (fun t ht=>?_)
 ·have Er:=fun(s:al) (hle:s0.le s)=>ID s L Zo ao cap (HL.mono hle)
  have pP:=fun(s:al) (hle:s0.le s) (bo:Option Addr) (bc:Nat) (HB:bu s bo L.length bc 11 (cv L))=>Wr s X (IX.mono hle) MX.ord o.id L R Zo bo bc HB Zo (k*300) MX.fit Zo
  have GL:∀(bo:Option Addr) (bc:Nat),jj [.agg (aA X),.agg (zJ o.id bo L.length bc)]:=fun bo bc=>⟨az 0 X,vK 0 _ _ _ _,trivial⟩
  refine sJ 13 [1,3,5,7,8,9,12] mixed Zk rfl ?_
  refine gw (i:=0) TT rfl Zk Zk Z Z Z Z Z ?_
  refine gw (i:=1) TT rfl Zk Zk Z Z Z Z Z ?_
  refine gw (i:=2) TT rfl Zk Zk Z Z Z Z Z ?_
  refine gw (i:=3) TT rfl Zk Zk Z Z Z Z Z ?_
  refine qM (i:=4) (j:=10) Zk ?_ ?_
  ·refine oa Z Z Z Z Z Tryz.call126 ⟨trivial,trivial⟩ (Er s0 (al.le_refl _)) fun v s1 cP ⟨bo,bc,hv,HB⟩=>⟨.a (.v (.slice bo L.length bc)),trivial,hv.symm,?_⟩
   refine gw (i:=5) TT rfl Zk Zk Z Z Z Z Z ?_
   refine qM (i:=6) (j:=10) Zk ?_ ?_
   ·refine oa Z Z Z Z Z Tryz.call40 (GL bo bc) (pP s1 cP bo bc HB) fun v s2 cw ⟨X',e,hv,xf,hA⟩=>⟨.ik [.agg (aA X'),.a (.v (.int .i64 e))],rX X' e,hv.symm,?_⟩
    refine iy [(7,.pure),(8,.pure),(9,.pure),(10,.dP),(11,.sink),(12,.pure)] Z Z Zk ?_
    refine lP ?_
    refine an (⟨s2,X',e⟩:DpS) ⟨al.le_trans cP cw,xf,hA⟩ aj rfl Zs Zs rfl ⟨by show 0<6;omega,by show 1<6;omega,by show 2<6;omega,by show 3<6;omega,by show 4<6;omega,trivial,by show 5<6;omega,trivial,trivial⟩
     (by exact⟨⟨by omega,az 6 X⟩,⟨by omega,az 6 Y⟩,⟨by omega,mB 6 o⟩,⟨by omega,oU 6⟩,⟨by omega,oU 6⟩,⟨by omega,az 6 X'⟩,trivial⟩)
   ·refine n9 TT Z Z Z Z Z ?_
    refine iy [(6,.dP),(7,.pure),(8,.pure),(9,.pure),(11,.sink),(12,.pure)] Z Z Zk ?_
    refine bN Z Z Z Z Z Tryz.call40 (GL bo bc) (pP s1 cP bo bc HB) fun v s2 cw ⟨X',e,hv,xf,hA⟩=>⟨.ik [.agg (aA X'),.a (.v (.int .i64 e))],rX X' e,hv.symm,?_⟩
    refine lP ?_
    refine an (⟨s2,X',e⟩:DpS) ⟨al.le_trans cP cw,xf,hA⟩ aj rfl Zs Zs rfl ⟨by show 0<6;omega,by show 1<6;omega,by show 2<6;omega,by show 3<6;omega,by show 4<6;omega,trivial,by show 5<6;omega,trivial,trivial⟩
     (by exact⟨⟨by omega,az 6 X⟩,⟨by omega,az 6 Y⟩,⟨by omega,mB 6 o⟩,⟨by omega,oU 6⟩,⟨by omega,oU 6⟩,⟨by omega,az 6 X'⟩,trivial⟩)
  ·refine n9 TT Z Z Z Z Z ?_
   refine iy [(4,.dP),(5,.pure),(6,.dP),(7,.pure),(8,.pure),(9,.pure),(11,.sink),(12,.pure)] Z Z Zk ?_
   refine bN Z Z Z Z Z Tryz.call126 ⟨trivial,trivial⟩ (Er s0 (al.le_refl _)) fun v s1 cP ⟨bo,bc,hv,HB⟩=>⟨.a (.v (.slice bo L.length bc)),trivial,hv.symm,?_⟩
   refine Zr ?_
   refine bN Z Z Z Z Z Tryz.call40 (GL bo bc) (pP s1 cP bo bc HB) fun v s2 cw ⟨X',e,hv,xf,hA⟩=>⟨.ik [.agg (aA X'),.a (.v (.int .i64 e))],rX X' e,hv.symm,?_⟩
   refine lP ?_
   refine an (⟨s2,X',e⟩:DpS) ⟨al.le_trans cP cw,xf,hA⟩ aj rfl Zs Zs rfl ⟨by show 0<6;omega,by show 1<6;omega,by show 2<6;omega,by show 3<6;omega,by show 4<6;omega,trivial,by show 5<6;omega,trivial,trivial⟩
    (by exact⟨⟨by omega,az 6 X⟩,⟨by omega,az 6 Y⟩,⟨by omega,mB 6 o⟩,⟨by omega,oU 6⟩,⟨by omega,oU 6⟩,⟨by omega,az 6 X'⟩,trivial⟩)
 obtain⟨s1,X',e⟩:=t
 obtain⟨cP,xf,hAX⟩:=ht
 dsimp only at cP xf hAX ⊢
 have IX:=IX.mono cP
 have IY:=IY.mono cP
 have HL:=HL.mono cP
 refine Za ?_
 refine cr 81 (.agg (aA Y)) rfl (az _ _) (fun _=>rfl) ?_
 refine bN (ys:=[.agg (aA Y),.agg (zJ o.id ao L.length cap)]) Z Z Z Z Z Tryz.call127 ⟨az 0 Y,vK 0 _ _ _ _,trivial⟩
  (Q7 s1 Y IY MY.ord o.id L hW Zo ao cap HL Zo (k*300) MY.fit Zo) fun v s2 cw ⟨Y',f,hv,HH,hAY⟩=>⟨.ik [.agg (aA Y'),.a (.v (.int .i64 f))],rX Y' f,hv.symm,?_⟩
 obtain⟨hef,Sd⟩:=hAX.same Dd hAY
 subst hef
 rcases hAX.Rd MX hLl hW with he | he | ⟨he,HG⟩
 ·subst he
  refine gX ?_
  refine ax 91 rfl (fun _=>?_) (fun h=>absurd h (by decide))
  refine gn ?_
  refine ky 8 [2,3,4,7] [(0,.loc 60,aA X),(1,.loc 114,aA Y)] mixed Zk rfl (fT Zs) ?_
  refine bQ (i:=0) TT rfl Zk Zk Z Z Z Z Z ?_
  refine bQ (i:=1) TT rfl Zk Zk Z Z Z Z Z ?_
  refine bQ (i:=2) TT rfl Zk Zk Z Z Z Z Z ?_
  refine bQ (i:=3) TT rfl Zk Zk Z Z Z Z Z ?_
  refine bQ (i:=4) TT rfl Zk Zk Z Z Z Z Z ?_
  refine dp (i:=5) Zk ?_
  refine lB TT Z Z Z Z Z ?_
  refine dp (i:=6) Zk ?_
  refine lB TT Z Z Z Z Z ?_
  refine bQ (i:=7) TT rfl Zk Zk Z Z Z Z Z ?_
  refine eS [] Z Z Zk ?_
  refine Zb ?_
  refine aw TT rfl fun β w' _ _=>?_
  exact⟨X,Y,rfl,IX.mono cw,IY.mono cw,Dd,MX.skip,MY.skip⟩
 ·subst he
  refine gX ?_
  refine ax 91 rfl (fun _=>?_) (fun h=>absurd h (by decide))
  refine gn ?_
  refine ky 8 [2,3,4,7] [(0,.loc 60,aA X),(1,.loc 114,aA Y)] mixed Zk rfl (fT Zs) ?_
  refine bQ (i:=0) TT rfl Zk Zk Z Z Z Z Z ?_
  refine bQ (i:=1) TT rfl Zk Zk Z Z Z Z Z ?_
  refine bQ (i:=2) TT rfl Zk Zk Z Z Z Z Z ?_
  refine bQ (i:=3) TT rfl Zk Zk Z Z Z Z Z ?_
  refine bQ (i:=4) TT rfl Zk Zk Z Z Z Z Z ?_
  refine dp (i:=5) Zk ?_
  refine lB TT Z Z Z Z Z ?_
  refine dp (i:=6) Zk ?_
  refine lB TT Z Z Z Z Z ?_
  refine bQ (i:=7) TT rfl Zk Zk Z Z Z Z Z ?_
  refine eS [] Z Z Zk ?_
  refine Zb ?_
  refine aw TT rfl fun β w' _ _=>?_
  exact⟨X,Y,rfl,IX.mono cw,IY.mono cw,Dd,MX.skip,MY.skip⟩
 ·subst he
  have HC:fS (k+1) Y':=by
   rcases hAY.Rd MY hLl hW with h1 | h1 | ⟨_,h1⟩
   ·exact absurd h1 (by decide)
   ·exact absurd h1 (by decide)
   ·exact h1
  refine gX ?_
  refine ax 91 rfl (fun h=>absurd h (by decide)) (fun _=>?_)
  refine gX ?_
  refine aG rfl (fun h=>absurd h (by decide)) (fun _=>?_)
  refine Zc ?_
  refine ky 5 [4] [(5,.loc 60,aA X'),(6,.loc 114,aA Y')] mixed Zk rfl (fT Zs) ?_
  refine bQ (i:=0) TT rfl Zk Zk Z Z Z Z Z ?_
  refine bQ (i:=1) TT rfl Zk Zk Z Z Z Z Z ?_
  refine dp (i:=2) Zk ?_
  refine lB TT Z Z Z Z Z ?_
  refine dp (i:=3) Zk ?_
  refine lB TT Z Z Z Z Z ?_
  refine bQ (i:=4) TT rfl Zk Zk Z Z Z Z Z ?_
  refine eS [] Z Z Zk ?_
  refine Zb ?_
  refine aw TT rfl fun β w' _ _=>?_
  exact⟨X',Y',rfl,xf.mono cw,HH,Sd rfl,HG,HC⟩
end Go.Sy
namespace Go.Sy
open Go.Proofs
theorem N0(σ:al)(X:kR)(IX:iS σ X)(hP:Kv X.ds X.xs X.next)(id:Int)(L:List aH)(R:rT L)(hL:L.length<=100000)(hs:eG L=true)(_:kr 0 L)(ao:Option Addr)(cap:Nat)(H:bu σ ao L.length cap 11 (cv L))(hid:∀ d∈X.ds,d.id<id)(Db:X.ds.length<=1000)(m:Nat)(lj:nI m ⟨X.xs,X.next,[]⟩)(hm:m+L.length<=1000000):
  fa Tryz.prog 40 [.agg (aA X),.agg [.v (.int .i64 id),.v (.slice ao L.length cap)]] σ (fun v bD=>∃ X':kR,v=(SV.ik [.agg (aA X'),.a (.v (.int .i64 0))]).den fy/\iS bD X'/\Kv X'.ds X'.xs X'.next /\
   (∃ lo lc ids,X'.ds=X.ds++[⟨id,ao,cap,L,lo,lc,ids⟩])/\nI (m+L.length) ⟨X'.xs,X'.next,[]⟩/\∃ lo lc ps,ps.map fH.ss=fq L/\X'.ds=X.ds++[⟨id,ao,cap,L,lo,lc,(bS ⟨X.xs,X.next,[]⟩ ps).ids⟩]/\X'.xs=(bS ⟨X.xs,X.next,[]⟩ ps).xs/\X'.next=(bS ⟨X.xs,X.next,[]⟩ ps).next) :=
 qW.mono (Ku σ X IX hP.ord id L R hL hs ao cap H (fun d hd=>by have:=hid d hd;omega) Db m lj hm) fun v bD _ ⟨X',p,ps,io,ic,hv,xf,hp,ou,hd,vF,qt,hf⟩=>by
  have hpn:p=X.ds.length:=by
   have h1:=hp.le
   rcases lV p X.ds.length with h | h
   ·have h2:=hp.hi p _ (aq p) (aa h)
    have h3:=hid _ (aP h)
    omega
   ·omega
  rw[hpn,aI,bC] at hd
  refine⟨X',hv,xf,?_,⟨io,ic,_,hd⟩,hf,io,ic,ps,ou,hd,vF,qt⟩
  rw[hd,vF,qt]
  exact hP.add (d:=⟨id,ao,cap,L,io,ic,(bS ⟨X.xs,X.next,[]⟩ ps).ids⟩) hid ou rfl
theorem TB(σ:al)(m:Int)(hm:σ.cell ⟨0,0,none⟩=some (.int .i64 m)): fa Tryz.prog 35 [] σ (fun v _=>v=.bool true):=by
 refine ek Tryz.func35 Z Z Zl fun w=>?_
 refine Za ?_
 refine gP 2 1 9 rfl Zl rfl (by decide) fun g1=>?_
 refine iI 0 Z Z Z fun s1 cP hS=>?_
 have H1:bu s1 (some ⟨g1,0,none⟩) 1 1 9 (ig [⟨#[97]⟩] [dN (Ja 49) none 0 none 0]):=hS.sl (rows:=ig [⟨#[97]⟩] [dN (Ja 49) none 0 none 0]) rfl (fun r hr=>by
  simp only[ig,aU] at hr
  subst hr
  exact⟨rfl,by (repeat' (first | exact trivial | exact bh rfl | exact dF _ _ _ _ _ _ | exact dw _ _ | refine kz.of ?_ | refine SV.iv ?_ | exact SV.ez | exact AT.ez | exact eQ.qv (by assumption) | constructor))⟩) Z Z (aq _)
 have R1:eQ s1 (AX 49) (dN (AX 49) none 0 (some ⟨g1,0,none⟩) 1):=by
  simp only[AX,eQ]
  exact⟨none,0,[],some ⟨g1,0,none⟩,1,_,rfl,bu.nil _ _ _ _,rfl,rfl,H1,⟨_,_,rfl,I9 s1 49,rfl⟩,by decide,by decide,by decide,by decide,fun k h=>(by rw[aU.1 h];decide)⟩
 refine Zr ?_
 refine cr 19 (.agg (dN (AX 49) none 0 (some ⟨g1,0,none⟩) 1)) rfl (dF _ _ _ _ _ _) (fun _=>rfl) ?_
 refine bN Z Z Z Z Z Tryz.call39 ⟨dF _ _ _ _ _ _,trivial,trivial⟩ (NY s1 (AX 49) _ 1 R1 (by decide)) fun v s2 cw ⟨ao,cap,hv,HA⟩=>⟨.ik [.a (.v (.slice ao 2 cap)),.a (.v (.int .i64 0))],Zl,(by rw[hv,AD];rfl),?_⟩
 rw[AD] at HA
 have HA:bu s2 ao 2 cap 11 (cv (kP 49)):=HA
 refine gX ?_
 refine gP 3 1 9 rfl Zl rfl (by decide) fun g2=>?_
 refine iI 0 Z Z Z fun s3 kV hS=>?_
 have H2:bu s3 (some ⟨g2,0,none⟩) 1 1 9 (ig [⟨#[97]⟩] [dN (Ja 50) none 0 none 0]):=hS.sl (rows:=ig [⟨#[97]⟩] [dN (Ja 50) none 0 none 0]) rfl (fun r hr=>by
  simp only[ig,aU] at hr
  subst hr
  exact⟨rfl,by (repeat' (first | exact trivial | exact bh rfl | exact dF _ _ _ _ _ _ | exact dw _ _ | refine kz.of ?_ | refine SV.iv ?_ | exact SV.ez | exact AT.ez | exact eQ.qv (by assumption) | constructor))⟩) Z Z (aq _)
 have R2:eQ s3 (AX 50) (dN (AX 50) none 0 (some ⟨g2,0,none⟩) 1):=by
  simp only[AX,eQ]
  exact⟨none,0,[],some ⟨g2,0,none⟩,1,_,rfl,bu.nil _ _ _ _,rfl,rfl,H2,⟨_,_,rfl,I9 s3 50,rfl⟩,by decide,by decide,by decide,by decide,fun k h=>(by rw[aU.1 h];decide)⟩
 have HA:=HA.mono kV
 refine Zr ?_
 refine cr 27 (.agg (dN (AX 50) none 0 (some ⟨g2,0,none⟩) 1)) rfl (dF _ _ _ _ _ _) (fun _=>rfl) ?_
 refine bN Z Z Z Z Z Tryz.call39 ⟨dF _ _ _ _ _ _,trivial,trivial⟩ (NY s3 (AX 50) _ 1 R2 (by decide)) fun v s4 pM ⟨bo,bc,hv,HB⟩=>⟨.ik [.a (.v (.slice bo 2 bc)),.a (.v (.int .i64 0))],Zl,(by rw[hv,AB];rfl),?_⟩
 rw[AB] at HB
 have HB:bu s4 bo 2 bc 11 (cv (kP 50)):=HB
 have HA:=HA.mono pM
 refine gX ?_
 refine aT Z Z Z Z Z Tryz.call38 Zl (Xp s4) fun v hv=>⟨.agg (aA wj),az _ _,hv.symm,?_⟩
 refine Zr ?_
 refine bN (ys:=[.agg (aA wj),.agg [.v (.int .i64 1),.v (.slice ao 2 cap)]]) Z Z Z Z Z Tryz.call40 ⟨az 0 wj,Zl,trivial⟩
  (N0 s4 wj (qK s4) Kv.nil 1 (kP 49) TD (by decide) Km (AF 49) ao cap HA (fun d h=>by cases h) (by decide) 0 ⟨aq _,aq _,by decide,fun _ h=>(by cases h)⟩ (by decide))
  fun v s5 wX ⟨X1,hv,I1,P1,_,F1,lo1,lc1,ps1,ad9,SC,X8,Yn⟩=>⟨.ik [.agg (aA X1),.a (.v (.int .i64 0))],(by intro x hx;simp only[bM,dA,or_false] at hx;rcases hx with rfl | rfl;exact az 0 X1;trivial),hv.symm,?_⟩
 rw[Ko] at ad9
 obtain⟨a0,c0,a1,c1,rfl⟩:=FT ad9
 have SC:X1.ds=[⟨1,ao,cap,kP 49,lo1,lc1,[0,1]⟩]:=SC
 have X8:X1.xs=[⟨0,a0,c0,[],1⟩,⟨1,a1,c1,[aS],1⟩]:=X8
 have Yn:X1.next=2:=Yn
 have HB:=HB.mono wX
 refine gX ?_
 refine cr 39 (.agg (aA X1)) rfl (az _ _) (fun _=>rfl) ?_
 refine bN (ys:=[.agg (aA X1),.agg [.v (.int .i64 2),.v (.slice bo 2 bc)]]) Z Z Z Z Z Tryz.call40 ⟨az 0 X1,Zl,trivial⟩
  (N0 s5 X1 I1 P1 2 (kP 50) TC (by decide) Kl (AF 50) bo bc HB (fun d h=>by rw[SC,aU] at h;subst h;show(1:Int)<2;decide) (by rw[SC];show 1<=1000;decide) _ F1 (by decide))
  fun v s6 AR ⟨X,hv,IX,PX,_,FX,lo2,lc2,ps2,ad8,Pd,_,_⟩=>⟨.ik [.agg (aA X),.a (.v (.int .i64 0))],(by intro x hx;simp only[bM,dA,or_false] at hx;rcases hx with rfl | rfl;exact az 0 X;trivial),hv.symm,?_⟩
 rw[Kn] at ad8
 obtain⟨b0,d0,b1,d1,rfl⟩:=FT ad8
 rw[X8,Yn,PM,SC] at Pd
 have Db:X.ds=[⟨1,ao,cap,kP 49,lo1,lc1,[0,1]⟩,⟨2,bo,bc,kP 50,lo2,lc2,[0,1]⟩]:=Pd
 have hd:∀ d∈X.ds,d.ids.length=d.L.length/\d.L.length<=100000:=fun d h=>by
  rw[Db] at h
  simp only[bM,dA,or_false] at h
  rcases h with rfl | rfl<;>exact⟨rfl,by show 2<=_;omega⟩
 have hlen:X.ds.length=2:=by rw[Db];rfl
 have hF:yn X:=fun d h r hr=>by
  rw[Db] at h
  simp only[bM,dA,or_false] at h
  rcases h with rfl | rfl<;>(simp only[kP,bM,dA,or_false] at hr;rcases hr with rfl | rfl<;>exact⟨by decide,by decide⟩)
 have hO:=NX ao cap lo1 lc1 bo bc lo2 lc2
 have hQ:=Wh ao cap lo1 lc1 bo bc lo2 lc2
 rw[<-Db] at hO hQ
 have hOf:=Wo s6 X IX Zo hd 1
 have hEq:=fun(s:al) (hle:s6.le s)=>FV s m ((al.le_trans cP (al.le_trans cw (al.le_trans kV (al.le_trans pM (al.le_trans wX (al.le_trans AR hle)))))).cell hm) X (IX.mono hle) Zo hd PX.ord hF 1 H5 ⟨by decide,by decide⟩
 rw[hO] at hOf
 rw[hQ] at hEq
 refine gX ?_
 refine ax 47 rfl (fun _=>?_) (fun h=>absurd h (by decide))
 refine Zr ?_
 refine ax 51 rfl (fun _=>?_) (fun h=>absurd h (by decide))
 refine Zr ?_
 refine cr 52 (.agg (aA X)) rfl (az _ _) (fun _=>rfl) ?_
 refine dT [] (A0:=[]) (Ar:=[]) (ys:=[.agg (aA X),.a (.v (.int .i64 1))]) Z Z Z Z Z Z Z Tryz.call100 ⟨az 0 X,trivial,trivial⟩ hOf fun v s7 A' uQ ⟨oo,oc,hv,j6,hA⟩=>⟨.a (.v (.slice oo 2 oc)),trivial,hv.symm,?_⟩
 subst hA
 refine Zr ?_
 refine ax 57 rfl (fun _=>?_) (fun h=>absurd h (by decide))
 refine Zr ?_
 refine cr 58 (.agg (aA X)) rfl (az _ _) (fun _=>rfl) ?_
 refine cr 61 (.agg (cc H5)) rfl (bT _ _) (fun _=>rfl) ?_
 refine bN (ys:=[.agg (aA X),.a (.v (.int .i64 1)),.agg (cc H5)]) Z Z Z Z Z Tryz.call46 ⟨az 0 X,trivial,bT 0 _,trivial⟩ (hEq s7 uQ) fun v s8 Et ⟨po,pc,hv,_⟩=>⟨.a (.v (.slice po 1 pc)),trivial,hv.symm,?_⟩
 refine gn ?_
 refine aw TT rfl fun β w' _ _=>?_
 rfl
end Go.Sy
namespace Go.Sy
open Go.Proofs
theorem QG{L:List aH}(h:eG L=true): ∀ r∈L,-1<=r.en/\r.en<=1099511627776:=fun r hr=>by
 have h1:=(rZ h).1.bd r hr
 have h2:=(r9 h).2.2.2.1
 omega
theorem wN{p:dz}(h:p.s.size<=1000000): (cj p).length<=10000000:=by
 unfold cj
 split
 ·rename_i hr
  have:=Gg ((lE p).1 hr)
  omega
 ·exact ay _
theorem Vn{X:kR}(hF:yn X)(x:cq): (qZ X.ds x).length<=10000000:=by
 unfold qZ
 cases h:recAt X.ds x with
 | none=>exact ay _
 | some r =>
  dsimp only
  split
  ·obtain⟨d,hd,hr⟩:=EZ h
   have h1:=hF d hd r hr
   exact wN (yT r h1.1 h1.2).2
  ·exact ay _
theorem fS.en{k:Nat}{X:kR}(h:fS k X){q:Int->Bool}{x:cq}(hx:x∈lX q X.ds): -1<=x.en/\x.en<=1099511627776:=by
 obtain⟨p,n,d,r,hd,hr,rfl⟩:=Gr hx
 exact QG (h.doc d (aC hd)).snd r (aC hr)
theorem fS.root{k:Nat}{X:kR}(h:fS k X): ∀ d∈X.ds,∀ r,d.L[0]?=some r->r.lv<=0:=fun d hd r hr=>by
 rw[(sY (h.doc d hd).snd r hr).1]
 exact dB _
theorem fS.up{k:Nat}{X:kR}(h:fS k X): ∀ d∈X.ds,eG d.L=true/\gJ d.L<=100000/\d.L.length<=4096:=fun d hd=>⟨(h.doc d hd).snd,(h.doc d hd).w,by have:=(h.doc d hd).len;omega⟩
theorem XH{jL:List gY}(h:∀ p∈jL,p.name.size<=100): ∀ p∈jL,p.name.size<=1000000:=fun p hp=>by
 have:=h p hp
 omega
def Xe (bo:Option Addr) (bc:Nat) (l:List gY):AE:=⟨bo,l.length,bc,65,2,(iN l).flatten.map AT.val⟩
theorem Pk{σ:al}{bo:Option Addr}{bc:Nat}{l:List gY}(hS:b9 σ (Xe bo bc l))(hc:l.length<=bc): bu σ bo l.length bc 2 (iN l) :=
 hS.sl rfl (fun r hr=>by
  obtain⟨x,_,rfl⟩:=bL.1 hr
  exact⟨rfl,by simp[mz,AT.lt]⟩) (by simp[iN]) rfl hc
theorem ab0(n:Nat)(p:gY): ∀ c∈mz p,c.lt n:=by simp[mz,AT.lt]
structure PyS where
 k:Nat
 X:kR
 Y:kR
structure Wm where
 s:al
 X:kR
 Y:kR
 f:Bool
structure PyN where
 k:Nat
 oo:Option Addr
 oc:Nat
structure PyO where
 s:al
 oo:Option Addr
 oc:Nat
theorem EC(σ:al)(m:Int)(hm:σ.cell ⟨0,0,none⟩=some (.int .i64 m))(ops:List N1)(hl:ops.length<=140737488355328)(lo:Option Addr)(lc:Nat)(H:bu σ lo ops.length lc 12 (I7 ops))(hO:∀ o∈ops,Hg σ o)(jL:List gY)(px:jL.length<=140737488355328)(po:Option Addr)(pc:Nat)(P:bu σ po jL.length pc 2 (iN jL))(p q:dz)(line level:Int):
  fa Tryz.prog 10 [.a (.v (.slice lo ops.length lc)),.a (.v (.slice po jL.length pc)),.agg (cc p),.agg (cc q),.a (.v (.int .i64 line)),.a (.v (.int .i64 level))] σ (fun v _=>v=.bool true):=by
 have as2:=NW level 1 Zo Zo
 refine ek Tryz.func10 Z Z ⟨trivial,trivial,bT 0 p,bT 0 q,trivial,trivial,trivial⟩ fun w=>?_
 refine Za ?_
 refine bN Z Z Z Z Z Tryz.call35 trivial (TB σ m hm) fun v s0 ow hv=>⟨.a .tt,trivial,hv.symm,?_⟩
 have H:=H.mono ow
 have hO:=fun o h=>(hO o h).mono ow
 have P:=P.mono ow
 have hm:=ow.cell hm
 refine gX ?_
 refine aT Z Z Z Z Z Tryz.call48 Zl (VZ s0 ops hl lo lc H hO) fun v ⟨fb,hv,VE⟩=>⟨.a (.b fb),trivial,hv.symm,?_⟩
 refine Zr ?_
 refine ax 33 rfl (fun h=>?_) (fun h=>?_)
 ·refine gn ?_
  refine aw TT rfl fun β w' _ _=>?_
  rfl
 obtain⟨h12,hFO⟩:=VE (by simpa using h)
 clear VE
 refine Zr ?_
 refine ax 38 rfl (fun h=>?_) (fun h=>?_)
 ·refine gn ?_
  refine aw TT rfl fun β w' _ _=>?_
  rfl
 have h6:jL.length<=6:=by have:=ab (show decide ((6:Int)<jL.length)=false from h);omega
 refine Zr ?_
 refine gP 2 2 7 rfl Zl rfl (by decide) fun g41=>?_
 refine iI 0 Z Z Z fun s1 cP x4=>?_
 have HPQ:bu s1 (some ⟨g41,0,none⟩) ([p,q]:List dz).length 2 7 (m6 [p,q]):=qn (t:=105) (l:=[p,q]) x4 (aq _)
 have H:=H.mono cP
 have hO:=fun o h=>(hO o h).mono cP
 have P:=P.mono cP
 have hm:=cP.cell hm
 refine aT Z Z Z Z Z Tryz.call49 ⟨trivial,trivial⟩ (Zj s1 [p,q] (by show 2<=_;omega) _ _ HPQ) fun v hv=>⟨.a (.b (Pv [p,q])),trivial,hv.symm,?_⟩
 refine gX ?_
 refine aG rfl (fun h=>?_) (fun h=>?_)
 ·refine Zb ?_
  refine aw TT rfl fun β w' _ _=>?_
  rfl
 have YF:Pv [p,q]=true:=by simpa using h
 have hfp:=(Bs.1 YF).2 p a8
 have hfq:=(Bs.1 YF).2 q (ba _ a8)
 have hp:p.n.dg.size<=bJ/\p.s.size<=1000000:=by simp only[bJ];omega
 have hq:q.n.dg.size<=bJ/\q.s.size<=1000000:=by simp only[bJ];omega
 clear YF hfp hfq HPQ x4
 refine Zc ?_
 refine aT Z Z Z Z Z Tryz.call38 Zl (Xp s1) fun v hv=>⟨.agg (aA wj),az _ _,hv.symm,?_⟩
 refine Hz ?_
 refine fm (fun(t:Wm)=>t.s) (fun _=>[(1,.a (.v (.slice po jL.length pc))),(4,.a (.v (.int .i64 line))),(5,.a (.v (.int .i64 level))),(8,.a (.p 0 0)),(9,.a (.p 1 0)),(13,.a (.tt)),(14,.a (.p 3 0)),(15,.a (.p 4 0))]) (fun t=>[(0,.loc 105,cc p),(1,.loc 105,cc q),(3,.loc 60,aA t.X),(4,.loc 114,aA t.Y)]) (fun _=>[]) 5 (fun t=>s1.le t.s/\iS t.s t.X/\iS t.s t.Y/\fS ops.length t.X/\fS ops.length t.Y/\mN t.X t.Y) ?_ (fun t ht=>?_)
 ·refine gC (fun(s:al) (_:PyS)=>s) (fun _ t=>[(0,.a (.v (.slice lo ops.length lc))),(1,.a (.v (.slice po jL.length pc))),(4,.a (.v (.int .i64 line))),(5,.a (.v (.int .i64 level))),(8,.a (.p 0 0)),(9,.a (.p 1 0)),(13,.a (.tt)),(14,.a (.p 3 0)),(15,.a (.p 4 0)),(16,.a (.v (.int .i64 (t.k:Nat))))]) (fun _ t=>[(0,.loc 105,cc p),(1,.loc 105,cc q),(3,.loc 60,aA t.X),(4,.loc 114,aA t.Y)]) (fun _ _=>[]) 5
   (fun s t=>s1.le s/\t.k<=ops.length/\iS s t.X/\iS s t.Y/\fS t.k t.X/\fS t.k t.Y/\mN t.X t.Y) (fun _ t=>ops.length - t.k) s1 ⟨0,wj,wj⟩ ⟨al.le_refl _,ay _,qK s1,qK s1,WC,WC,aa1⟩ rfl Zs Zs rfl Zl Zl fun s ⟨k,X,Y⟩ ⟨hle,hk,IX,IY,MX,MY,Dd⟩=>?_
  dsimp only at hk IX IY MX MY Dd ⊢
  have H:=H.mono hle
  have hO:=fun o h=>(hO o h).mono hle
  refine Za ?_
  refine aG rfl (fun h=>?_) (fun h=>?_)
  rotate_left
  ·have fQ:k=ops.length:=by have:=ab h;omega
   subst fQ
   refine Ze ?_
   refine an (⟨s,X,Y,true⟩:Wm) ⟨hle,IX,IY,MX,MY,Dd⟩ aj rfl Zs Zs rfl Zl Zl
  have cz:k<ops.length:=by have:=ae h;omega
  have mK:=aa cz
  have bU:=Fc mK
  have hOk:=hO ops[k] (aP cz)
  have hFk:=hFO ops[k] (aP cz)
  generalize ops[k]=o at *
  have VH:=Y0 s X Y IX IY k Zo MX MY Dd o hOk hFk
  refine Zd ?_
  refine ji (fun(t:Wm)=>t.s) (fun t=>[(0,.a (.v (.slice lo ops.length lc))),(1,.a (.v (.slice po jL.length pc))),(4,.a (.v (.int .i64 line))),(5,.a (.v (.int .i64 level))),(8,.a (.p 0 0)),(9,.a (.p 1 0)),(13,.a (.tt)),(14,.a (.p 3 0)),(15,.a (.p 4 0)),(16,.a (.v (.int .i64 (k:Nat)))),(17,.a (.p (bif t.f then 6 else 7) 0)),(18,.a (.p (bif t.f then 7 else 6) 0)),(19,.a (.tt))]) (fun t=>[(0,.loc 105,cc p),(1,.loc 105,cc q),(3,.loc 60,aA X),(4,.loc 114,aA Y)]++(bif t.f then [(6,.loc 60,aA t.X),(7,.loc 114,aA t.Y)] else [(6,.loc 114,aA t.Y),(7,.loc 60,aA t.X)])) (fun _=>[]) 8
   (fun t=>s.le t.s/\iS t.s t.X/\iS t.s t.Y/\mN t.X t.Y/\fS (k+1) t.X/\fS (k+1) t.Y) ?_ (fun t ht=>?_)
  ·refine sJ 16 [2,3,4,7,8,9,10,15] mixed Zk rfl ?_
   refine gw (i:=0) TT rfl Zk Zk Z Z Z Z Z ?_
   refine gw (i:=1) TT rfl Zk Zk Z Z Z Z Z ?_
   refine gw (i:=2) TT rfl Zk Zk Z Z Z Z Z ?_
   refine gw (i:=3) TT rfl Zk Zk Z Z Z Z Z ?_
   refine Mb (i:=4) TT Z Z Zk Zk Z Z Z Z Z Z Z Z Z H Zo bU ?_
   refine gw (i:=5) TT rfl Zk Zk Z Z Z Z Z ?_
   have GL:jj [.agg (aA X),.agg (aA Y),.agg (rN o)]:=⟨az 0 X,az 0 Y,mB 0 o,trivial⟩
   have zl:∀ X' Y':kR,(SV.ik [.agg (aA X'),.agg (aA Y'),.a .tt]).lt 0:=fun X' Y' x hx=>by
    simp only[bM,dA,or_false] at hx
    rcases hx with rfl | rfl | rfl
    ·exact az 0 X'
    ·exact az 0 Y'
    ·trivial
   refine SK (i:=6) (j:=11) (l:=12) Zk ?_ ?_ ?_
   ·refine oa Z Z Z Z Z Tryz.call50 GL VH fun v s2 cw ⟨X',Y',hv,xf,HH,vG,HG,HC⟩=>⟨.ik [.agg (aA X'),.agg (aA Y'),.a .tt],zl X' Y',hv.symm,?_⟩
    refine gw (i:=7) TT rfl Zk Zk Z Z Z Z Z ?_
    refine gw (i:=8) TT rfl Zk Zk Z Z Z Z Z ?_
    refine gw (i:=9) TT rfl Zk Zk Z Z Z Z Z ?_
    refine gw (i:=10) TT rfl Zk Zk Z Z Z Z Z ?_
    refine qM (i:=11) (j:=12) Zk ?_ ?_
    ·refine n9 TT Z Z Z Z Z ?_
     refine iy [(12,.dP),(13,.sink),(14,.sink),(15,.pure)] Z Z Zk ?_
     refine lP ?_
     refine an (⟨s2,X',Y',true⟩:Wm) ⟨cw,xf,HH,vG,HG,HC⟩ aj rfl Zs Zs rfl Zl Zl
    ·refine n9 TT Z Z Z Z Z ?_
     refine iy [(11,.dP),(13,.sink),(14,.sink),(15,.pure)] Z Z Zk ?_
     refine lP ?_
     refine an (⟨s2,X',Y',false⟩:Wm) ⟨cw,xf,HH,vG,HG,HC⟩ aj rfl Zs Zs rfl Zl Zl
   ·refine n9 TT Z Z Z Z Z ?_
    refine qM (i:=6) (j:=12) Zk ?_ ?_
    ·refine oa Z Z Z Z Z Tryz.call50 GL VH fun v s2 cw ⟨X',Y',hv,xf,HH,vG,HG,HC⟩=>⟨.ik [.agg (aA X'),.agg (aA Y'),.a .tt],zl X' Y',hv.symm,?_⟩
     refine iy [(7,.pure),(8,.pure),(9,.pure),(10,.pure),(12,.dP),(13,.sink),(14,.sink),(15,.pure)] Z Z Zk ?_
     refine lP ?_
     refine an (⟨s2,X',Y',true⟩:Wm) ⟨cw,xf,HH,vG,HG,HC⟩ aj rfl Zs Zs rfl Zl Zl
    ·refine n9 TT Z Z Z Z Z ?_
     refine iy [(6,.dP),(7,.pure),(8,.pure),(9,.pure),(10,.pure),(13,.sink),(14,.sink),(15,.pure)] Z Z Zk ?_
     refine bN Z Z Z Z Z Tryz.call50 GL VH fun v s2 cw ⟨X',Y',hv,xf,HH,vG,HG,HC⟩=>⟨.ik [.agg (aA X'),.agg (aA Y'),.a .tt],zl X' Y',hv.symm,?_⟩
     refine lP ?_
     refine an (⟨s2,X',Y',true⟩:Wm) ⟨cw,xf,HH,vG,HG,HC⟩ aj rfl Zs Zs rfl Zl Zl
   ·refine n9 TT Z Z Z Z Z ?_
    refine qM (i:=6) (j:=11) Zk ?_ ?_
    ·refine oa Z Z Z Z Z Tryz.call50 GL VH fun v s2 cw ⟨X',Y',hv,xf,HH,vG,HG,HC⟩=>⟨.ik [.agg (aA X'),.agg (aA Y'),.a .tt],zl X' Y',hv.symm,?_⟩
     refine iy [(7,.pure),(8,.pure),(9,.pure),(10,.pure),(11,.dP),(13,.sink),(14,.sink),(15,.pure)] Z Z Zk ?_
     refine lP ?_
     refine an (⟨s2,X',Y',false⟩:Wm) ⟨cw,xf,HH,vG,HG,HC⟩ aj rfl Zs Zs rfl Zl Zl
    ·refine n9 TT Z Z Z Z Z ?_
     refine iy [(6,.dP),(7,.pure),(8,.pure),(9,.pure),(10,.pure),(13,.sink),(14,.sink),(15,.pure)] Z Z Zk ?_
     refine bN Z Z Z Z Z Tryz.call50 GL VH fun v s2 cw ⟨X',Y',hv,xf,HH,vG,HG,HC⟩=>⟨.ik [.agg (aA X'),.agg (aA Y'),.a .tt],zl X' Y',hv.symm,?_⟩
     refine lP ?_
     refine an (⟨s2,X',Y',false⟩:Wm) ⟨cw,xf,HH,vG,HG,HC⟩ aj rfl Zs Zs rfl Zl Zl
  obtain⟨s2,X',Y',f⟩:=t
  obtain⟨cw,xf,HH,vG,HG,HC⟩:=ht
  dsimp only at cw xf HH vG HG HC ⊢
  cases f with
  | true =>
   dsimp only[cond_true]
   refine Zg ?_
   refine an (s2,(⟨k+1,X',Y'⟩:PyS)) ⟨al.le_trans hle cw,cz,xf,HH,HG,HC,vG⟩ (by dsimp only;omega) rfl Zs Zs rfl Zl Zl
  | false =>
   dsimp only[cond_false]
   refine Zg ?_
   refine an (s2,(⟨k+1,X',Y'⟩:PyS)) ⟨al.le_trans hle cw,cz,xf,HH,HG,HC,vG⟩ (by dsimp only;omega) rfl Zs Zs rfl Zl Zl
 obtain⟨s2,X,Y,f⟩:=t
 obtain⟨cw,IX,IY,MX,MY,Dd⟩:=ht
 dsimp only at cw IX IY MX MY Dd ⊢
 have P:=P.mono cw
 have hm:=cw.cell hm
 clear H hO hFO
 generalize ops.length=K at *
 refine Zd ?_
 refine dV 65 2 ?_
 refine fm (fun(t:PyO)=>t.s) (fun t=>[(1,.a (.v (.slice po jL.length pc))),(4,.a (.v (.int .i64 line))),(5,.a (.v (.int .i64 level))),(8,.a (.p 0 0)),(9,.a (.p 1 0)),(13,.a (.tt)),(14,.a (.p 3 0)),(15,.a (.p 4 0)),(20,.a (.v (.slice t.oo jL.length t.oc)))]) (fun _=>[(0,.loc 105,cc p),(1,.loc 105,cc q),(3,.loc 60,aA X),(4,.loc 114,aA Y)]) (fun _=>[]) 5 (fun t=>s2.le t.s/\bu t.s t.oo jL.length t.oc 2 (iN jL)/\∀ p∈jL,p.name.size<=100) ?_ (fun t ht=>?_)
 ·refine bX (fun(_:PyN)=>s2) (fun t=>[(1,.a (.v (.slice po jL.length pc))),(4,.a (.v (.int .i64 line))),(5,.a (.v (.int .i64 level))),(8,.a (.p 0 0)),(9,.a (.p 1 0)),(13,.a (.tt)),(14,.a (.p 3 0)),(15,.a (.p 4 0)),(20,.a (.v (.slice t.oo t.k t.oc))),(21,.a (.v (.int .i64 (t.k:Nat))))]) (fun _=>[(0,.loc 105,cc p),(1,.loc 105,cc q),(3,.loc 60,aA X),(4,.loc 114,aA Y)]) (fun t=>[Xe t.oo t.oc (jL.take t.k)]) 5 (fun t=>t.k<=jL.length/\t.k<=t.oc/\∀ p∈jL.take t.k,p.name.size<=100) (fun t=>jL.length - t.k) ⟨0,none,0⟩ ⟨ay _,aq _,fun p hp=>(by cases hp)⟩ rfl Zs Zs rfl Zl Zl fun⟨k,oo,oc⟩ ⟨hk,hkc,mD⟩=>?_
  dsimp only at hk hkc mD ⊢
  have Ys:(jL.take k).length=k:=by rw[aE];omega
  refine Za ?_
  refine aG rfl (fun h=>?_) (fun h=>?_)
  rotate_left
  ·have fQ:k=jL.length:=by have:=ab h;omega
   subst fQ
   rw[aI] at mD ⊢
   refine Ze ?_
   refine dD 0 Z Z fun s3 kV hS=>?_
   refine an (⟨s3,oo,oc⟩:PyO) ⟨kV,Pk hS hkc,mD⟩ aj rfl Zs Zs rfl Zl Zl
  have cz:k<jL.length:=by have:=ae h;omega
  have O3:=aa cz
  have bU:=th O3
  have mi:jL.take (k+1)=jL.take k++[jL[k]]:=ak cz
  have LV:(jL.take (k+1)).length=k+1:=by rw[aE];omega
  generalize jL[k]=x at *
  refine Zd ?_
  refine bk TT Z Z Z Z Z Z Z Z Z P Zo bU (Zr ?_)
  refine Za ?_
  refine aG rfl (fun h=>?_) (fun h=>?_)
  ·refine Zb ?_
   refine aw TT rfl fun β w' _ _=>?_
   rfl
  have hx:x.name.size<=100:=by have:=ab (show decide ((100:Int)<x.name.size)=false from h);omega
  refine Zc ?_
  refine ck [(0,.pure),(1,.pure),(2,.pure),(3,.pure),(4,.pure),(5,.quiet),(6,.pure),(7,.pure),(8,.pure),(9,.pure),(10,.quiet),(11,.pure),(12,.dP),(13,.sink),(14,.pure)] mixed Zk (aM TT rfl ?_)
  refine bk TT Z Z Z Z Z Z Z Z Z P Zo bU (Zr ?_)
  refine bk TT Z Z Z Z Z Z Z Z Z P Zo bU (Zr ?_)
  refine bl TT 0 Z Z Z Z Z Z Z Z Z (show((Xe oo oc (jL.take k)).ao,(Xe oo oc (jL.take k)).n,(Xe oo oc (jL.take k)).cap,(Xe oo oc (jL.take k)).e)=(oo,k,oc,65) by unfold Xe;rw[Ys]) Z Z Z Z Z Z Z Z Zl rfl Zo (by show(k+1)*24<=_;omega) fun om nE lS=>aM TT rfl ?_
  refine Zc ?_
  refine an (⟨k+1,om,nE⟩:PyN) ⟨cz,lS,fun p hp=>?_⟩ (by dsimp only;omega) rfl Zs Zs ?_ ⟨trivial,trivial,trivial,by show 0<5;omega,by show 1<5;omega,trivial,by show 3<5;omega,by show 4<5;omega,trivial,trivial,trivial⟩ (by exact⟨⟨by omega,bT 5 p⟩,⟨by omega,bT 5 q⟩,⟨by omega,az 5 _⟩,⟨by omega,az 5 _⟩,trivial⟩)
  ·rw[mi] at hp
   rcases bz.1 hp with hp | hp
   ·exact mD p hp
   ·rw[aU.1 hp]
    exact hx
  ·show [_]=[_]
   dsimp only
   unfold Xe
   rw[LV,mi]
   simp[iN,mz]
 obtain⟨s3,oo,oc⟩:=t
 obtain⟨kV,HM,qg⟩:=ht
 dsimp only at kV HM ⊢
 have P:=P.mono kV
 have hm:=kV.cell hm
 have IX:=IX.mono kV
 have IY:=IY.mono kV
 have qg:=XH qg
 have hXn:=MX.num
 have hYn:=MY.num
 have hXl:=MX.fit.xs
 have hYl:=MY.fit.xs
 dsimp only at hXl hYl
 have hK:K<=12:=h12
 have YM:=MX.lT
 have ZP:=MY.lT
 refine Za ?_
 refine ck [(0,.quiet),(1,.quiet),(2,.dP),(3,.pure),(4,.pure),(5,.quiet),(6,.pure),(9,.quiet),(10,.pure),(7,.dP),(8,.dP),(11,.dP),(12,.dP),(13,.pure),(14,.pure)] mixed Zk (aM TT rfl ?_)
 refine cr 97 (.agg (aA X)) rfl (az _ _) (fun _=>rfl) ?_
 refine cr 98 (.agg (aA Y)) rfl (az _ _) (fun _=>rfl) ?_
 refine bN (ys:=[.agg (aA X),.agg (aA Y)]) Z Z Z Z Z Tryz.call51 ⟨az 0 X,az 0 Y,trivial⟩ (QN s3 X Y IX IY K hK MX MY Dd) fun v s4 pM hv=>⟨.a .tt,trivial,hv.symm,?_⟩
 have P:=P.mono pM
 have HM:=HM.mono pM
 have hm:=pM.cell hm
 have IX:=IX.mono pM
 have IY:=IY.mono pM
 refine Zr ?_
 refine cr 102 (.agg (aA X)) rfl (az _ _) (fun _=>rfl) ?_
 have ZF:=FU s4 X IX Zo YM Zo jL Zo oo oc HM
 rw[show lX (fun k=>decide (k∈dU X.xs jL)) X.ds=AK X jL from rfl] at ZF
 have Vz:(AK X jL).length<=3600:=MX.E8 hK _
 have ZG:(AK Y jL).length<=3600:=MY.E8 hK _
 have heq:=IU Dd jL
 refine bN (ys:=[.agg (aA X),.a (.v (.slice oo jL.length oc))]) Z Z Z Z Z Tryz.call30 ⟨az 0 X,trivial,trivial⟩ ZF fun v s5 wX ⟨ox,cx,hv,HX⟩=>⟨.a (.v (.slice ox (AK X jL).length cx)),trivial,hv.symm,?_⟩
 refine Zr ?_
 refine bN Z Z Z Z Z Tryz.call44 Zl (oG s5 _ Zo ox cx HX) fun v s6 AR ⟨tx,ux,hv,HT⟩=>⟨.a (.v (.slice tx (AK X jL).length ux)),trivial,hv.symm,?_⟩
 have Nr:=al.le_trans wX AR
 have P:=P.mono Nr
 have hm:=Nr.cell hm
 have IX:=IX.mono Nr
 have IY:=IY.mono Nr
 refine Zr ?_
 refine cr 106 (.agg (aA Y)) rfl (az _ _) (fun _=>rfl) ?_
 have ZE:=wK s6 Y IY Zo ZP Zo MY.Ox.pw jL Zo qg po pc P
 rw[show lX (fun k=>decide (k∈dU Y.xs jL)) Y.ds=AK Y jL from rfl] at ZE
 refine bN (ys:=[.agg (aA Y),.a (.v (.slice po jL.length pc))]) Z Z Z Z Z Tryz.call52 ⟨az 0 Y,trivial,trivial⟩ ZE fun v s7 uQ ⟨oy,cy,hv,HY⟩=>⟨.a (.v (.slice oy (AK Y jL).length cy)),trivial,hv.symm,?_⟩
 have hm:=uQ.cell hm
 have IX:=IX.mono uQ
 have IY:=IY.mono uQ
 refine Zr ?_
 refine aT Z Z Z Z Z Tryz.call43 ⟨trivial,trivial,trivial⟩ (sP s7 _ _ Zo tx ux (HT.mono uQ) oy cy HY) fun v hv=>⟨.a .tt,trivial,by rw[hv,bj heq];rfl,?_⟩
 clear HT HY HX HM P ZF ZE heq Vz ZG
 refine pC ?_
 refine gP 5 1 2 rfl Zl rfl (by decide) fun gd=>?_
 refine iI 0 Z Z Z fun s8 Et hS8=>?_
 have D:=Ds rfl hS8
 have hm:=Et.cell hm
 have IX:=IX.mono Et
 have IY:=IY.mono Et
 refine cr 112 (.agg (aA Y)) rfl (az _ _) (fun _=>rfl) ?_
 have ZE:=wK s8 Y IY Zo ZP Zo MY.Ox.pw [kx] (by decide) (fun p hp=>by rw[aU] at hp;subst hp;decide) _ _ D
 have JH:=fun x (hx:x∈lX (fun k=>decide (k∈dU Y.xs [kx])) Y.ds)=>MY.en hx
 have ZG:=MY.E8 hK (fun k=>decide (k∈dU Y.xs [kx]))
 generalize lX (fun k=>decide (k∈dU Y.xs [kx])) Y.ds=Ww at *
 refine bN (ys:=[.agg (aA Y),.a (.v (.slice (some ⟨gd,0,none⟩) 1 1))]) Z Z Z Z Z Tryz.call52 ⟨az 0 Y,trivial,trivial⟩ ZE fun v s9 GN ⟨ao,ac,hv,HA⟩=>⟨.a (.v (.slice ao Ww.length ac)),trivial,hv.symm,?_⟩
 have hm:=GN.cell hm
 have IX:=IX.mono GN
 have IY:=IY.mono GN
 clear ZE D
 refine Hz ?_
 refine fm (fun(s:al)=>s) (fun _=>[(4,.a (.v (.int .i64 line))),(5,.a (.v (.int .i64 level))),(8,.a (.p 0 0)),(9,.a (.p 1 0)),(13,.a (.tt)),(14,.a (.p 3 0)),(15,.a (.p 4 0))]) (fun _=>[(0,.loc 105,cc p),(1,.loc 105,cc q),(3,.loc 60,aA X),(4,.loc 114,aA Y)]) (fun _=>[]) 5 (fun s=>s9.le s) ?_ (fun s10 JF=>?_)
 ·refine bX (fun(t:SmS)=>t.s) (fun t=>[(4,.a (.v (.int .i64 line))),(5,.a (.v (.int .i64 level))),(8,.a (.p 0 0)),(9,.a (.p 1 0)),(13,.a (.tt)),(14,.a (.p 3 0)),(15,.a (.p 4 0)),(22,.a (.v (.slice ao Ww.length ac))),(23,.a (.v (.int .i64 (t.k:Nat))))]) (fun _=>[(0,.loc 105,cc p),(1,.loc 105,cc q),(3,.loc 60,aA X),(4,.loc 114,aA Y)]) (fun _=>[]) 5 (fun t=>s9.le t.s/\t.k<=Ww.length) (fun t=>Ww.length - t.k) ⟨s9,0⟩ ⟨al.le_refl _,ay _⟩ rfl Zs Zs rfl Zl Zl fun⟨s,k⟩ ⟨hle,hk⟩=>?_
  dsimp only at hle hk ⊢
  have HA:=HA.mono hle
  have IX:=IX.mono hle
  have IY:=IY.mono hle
  refine Za ?_
  refine aG rfl (fun h=>?_) (fun h=>?_)
  rotate_left
  ·refine Ze ?_
   refine an s hle aj rfl Zs Zs rfl Zl Zl
  have cz:k<Ww.length:=by have:=ae h;omega
  have bU:=ld (aa cz)
  have hex:=JH Ww[k] (aP cz)
  generalize Ww[k]=x at *
  refine Zd ?_
  refine bk TT Z Z Z Z Z Z Z Z Z HA Zo bU (Zr ?_)
  refine Za ?_
  refine pH Z Z Z Z Z Z Zo (Zr ?_)
  refine Za ?_
  refine ji (fun(_:cq)=>s) (fun _=>[(4,.a (.v (.int .i64 line))),(5,.a (.v (.int .i64 level))),(8,.a (.p 0 0)),(9,.a (.p 1 0)),(13,.a (.tt)),(14,.a (.p 3 0)),(15,.a (.p 4 0)),(22,.a (.v (.slice ao Ww.length ac))),(23,.a (.v (.int .i64 (k:Nat)))),(24,.a (.p 6 0))]) (fun z=>[(0,.loc 105,cc p),(1,.loc 105,cc q),(3,.loc 60,aA X),(4,.loc 114,aA Y),(6,.loc 122,cm z)]) (fun _=>[]) 7 (fun _=>True) ?_ (fun z _=>?_)
  ·refine aG rfl (fun h=>?_) (fun h=>?_)
   ·refine Zg ?_
    refine an (⟨x.doc,x.at_,x.st,x.en+lU .i64 level 1,x.lv⟩:cq) trivial aj rfl Zs Zs rfl Zl Zl
   ·refine Zc ?_
    refine an x trivial aj rfl Zs Zs rfl Zl Zl
  clear bU hex
  refine Za ?_
  refine cr 136 (.agg (aA X)) rfl (az _ _) (fun _=>rfl) ?_
  refine cr 147 (.agg (cm z)) rfl (b6 _ _) (fun _=>rfl) ?_
  have hlu:∀ u:cq,∀ b:Bool,(SV.ik [.agg (cm u),.a (.b b)]).lt 0:=fun u b x hx=>by
   simp only[bM,dA,or_false] at hx
   rcases hx with rfl | rfl
   ·exact b6 0 u
   ·trivial
  have Ya:=Qo Dd.ds z level
  have hUX:=ap2 s X IX Zo MX.ord MX.root (fun d hd=>(YM d hd).2) z level
  have hUY:=aa8 s Y IY Zo MY.ord MY.up z level
  rw[Ya] at hUX
  have hUX:bZ Tryz.prog 37 [.agg (aA X),.agg (cm z),.a (.v (.int .i64 level))] s (fun v=>v=(SV.ik [.agg (cm ((A8 Y.ds z level).getD Js)),.a (.b (A8 Y.ds z level).isSome)]).den fy):=hUX
  have hUY:bZ Tryz.prog 53 [.agg (aA Y),.agg (cm z),.a (.v (.int .i64 level))] s (fun v=>v=(SV.ik [.agg (cm ((A8 Y.ds z level).getD Js)),.a (.b (A8 Y.ds z level).isSome)]).den fy):=hUY
  generalize (A8 Y.ds z level).getD Js=u at *
  generalize (A8 Y.ds z level).isSome=ub at *
  refine aT (ys:=[.agg (aA X),.agg (cm z),.a (.v (.int .i64 level))]) Z Z Z Z Z Tryz.call37 ⟨az 0 X,b6 0 z,trivial,trivial⟩ hUX fun v hv=>⟨.ik [.agg (cm u),.a (.b ub)],hlu u ub,hv.symm,?_⟩
  refine gX ?_
  refine cr 153 (.agg (aA Y)) rfl (az _ _) (fun _=>rfl) ?_
  refine cr 154 (.agg (cm z)) rfl (b6 _ _) (fun _=>rfl) ?_
  refine aT (ys:=[.agg (aA Y),.agg (cm z),.a (.v (.int .i64 level))]) Z Z Z Z Z Tryz.call53 ⟨az 0 Y,b6 0 z,trivial,trivial⟩ hUY fun v hv=>⟨.ik [.agg (cm u),.a (.b ub)],hlu u ub,hv.symm,?_⟩
  refine gX ?_
  refine ji (fun(t:al)=>t) (fun _=>[(4,.a (.v (.int .i64 line))),(5,.a (.v (.int .i64 level))),(8,.a (.p 0 0)),(9,.a (.p 1 0)),(13,.a (.tt)),(14,.a (.p 3 0)),(15,.a (.p 4 0)),(22,.a (.v (.slice ao Ww.length ac))),(23,.a (.v (.int .i64 (k:Nat)))),(170,.a (.ff))]) (fun _=>[(0,.loc 105,cc p),(1,.loc 105,cc q),(3,.loc 60,aA X),(4,.loc 114,aA Y)]) (fun _=>[]) 11 (fun t=>s.le t) ?_ (fun s11 Sr=>?_)
  ·have Zy:=fun(t:al) (g:Nat) (HU:bu t (some ⟨g,0,none⟩) ([u]:List cq).length 1 5 (eP [u]))=>oG t [u] (by show 1<=_;omega) _ _ HU
   have Nj:=fun(t:al) (bo:Option Addr) (bc:Nat) (HB:bu t bo ([u]:List cq).length bc 5 (eP [u])) (g:Nat) (HU:bu t (some ⟨g,0,none⟩) ([u]:List cq).length 1 5 (eP [u]))=>sP t [u] [u] (by show 1<=_;omega) bo bc HB _ _ HU
   refine ky 12 [0,1,2,3,10,11] [(7,.loc 71,cm u),(8,.loc 122,cm u)] mixed Zk rfl (fT Zs) ?_
   refine bQ (i:=0) TT rfl Zk Zk Z Z Z Z Z ?_
   refine bQ (i:=1) TT rfl Zk Zk Z Z Z Z Z ?_
   refine bQ (i:=2) TT rfl Zk Zk Z Z Z Z Z ?_
   refine GV 161 (.a .ff) rfl trivial (fun _=>by cases ub<;>rfl) ?_
   refine bQ (i:=3) TT rfl Zk Zk Z Z Z Z Z ?_
   refine bQ (i:=4) TT rfl Zk Zk Z Z Z Z Z ?_
   refine bQ (i:=7) TT rfl Zk Zk Z Z Z Z Z ?_
   refine od (i:=5) (j:=8) Zk ?_ ?_
   ·refine gG TT Z Z Z Z Z ?_
    refine jk 9 1 5 rfl (b6 0 u) rfl (by decide) rfl fun ga=>?_
    refine gW 0 Z Z fun QO C6 SH=>?_
    have ZX:bu QO (some ⟨ga,0,none⟩) ([u]:List cq).length 1 5 (eP [u]):=ny (l:=[u]) SH (aq _)
    refine od (i:=6) (j:=8) Zk ?_ ?_
    ·refine pz Z Z Z Z Z Tryz.call44 ⟨trivial,trivial⟩ (Zy QO ga ZX) fun v s_t C5 ⟨bo,bc,hv,HB⟩=>⟨.a (.v (.slice bo ([u]:List cq).length bc)),trivial,hv.symm,?_⟩
     refine dp (i:=8) Zk ?_
     refine gG TT Z Z Z Z Z ?_
     refine jk 10 1 5 rfl (b6 0 u) rfl (by decide) rfl fun gb=>?_
     refine gW 0 Z Z fun KY wW JK=>?_
     have T0:bu KY (some ⟨gb,0,none⟩) ([u]:List cq).length 1 5 (eP [u]):=tq (l:=[u]) JK (aq _)
     have HB:=HB.mono wW
     refine dp (i:=9) Zk ?_
     refine uT Z Z Z Z Z Tryz.call43 ⟨trivial,trivial,trivial⟩ (Nj KY bo bc HB gb T0) fun v s_e JE hv=>⟨.a .tt,trivial,by rw[hv,bj rfl];rfl,?_⟩
     refine bQ (i:=10) TT rfl Zk Zk Z Z Z Z Z ?_
     refine bQ (i:=11) TT rfl Zk Zk Z Z Z Z Z ?_
     refine eS [] Z Z Zk ?_
     refine Zc ?_
     refine an s_e (al.le_trans C6 (al.le_trans C5 (al.le_trans wW JE))) aj rfl Zs Zs rfl Zl Zl
    ·refine gG TT Z Z Z Z Z ?_
     refine jk 10 1 5 rfl (b6 0 u) rfl (by decide) rfl fun gb=>?_
     refine gW 0 Z Z fun KY wW JK=>?_
     have T0:bu KY (some ⟨gb,0,none⟩) ([u]:List cq).length 1 5 (eP [u]):=tq (l:=[u]) JK (aq _)
     have ZX:=ZX.mono wW
     refine dp (i:=6) Zk ?_
     refine pz Z Z Z Z Z Tryz.call44 ⟨trivial,trivial⟩ (Zy KY ga ZX) fun v s_t C5 ⟨bo,bc,hv,HB⟩=>⟨.a (.v (.slice bo ([u]:List cq).length bc)),trivial,hv.symm,?_⟩
     have T0:=T0.mono C5
     refine dp (i:=9) Zk ?_
     refine uT Z Z Z Z Z Tryz.call43 ⟨trivial,trivial,trivial⟩ (Nj s_t bo bc HB gb T0) fun v s_e JE hv=>⟨.a .tt,trivial,by rw[hv,bj rfl];rfl,?_⟩
     refine bQ (i:=10) TT rfl Zk Zk Z Z Z Z Z ?_
     refine bQ (i:=11) TT rfl Zk Zk Z Z Z Z Z ?_
     refine eS [] Z Z Zk ?_
     refine Zc ?_
     refine an s_e (al.le_trans C6 (al.le_trans wW (al.le_trans C5 JE))) aj rfl Zs Zs rfl Zl Zl
   ·refine gG TT Z Z Z Z Z ?_
    refine jk 9 1 5 rfl (b6 0 u) rfl (by decide) rfl fun gb=>?_
    refine gW 0 Z Z fun KY wW JK=>?_
    have T0:bu KY (some ⟨gb,0,none⟩) ([u]:List cq).length 1 5 (eP [u]):=tq (l:=[u]) JK (aq _)
    refine dp (i:=5) Zk ?_
    refine gG TT Z Z Z Z Z ?_
    refine jk 10 1 5 rfl (b6 0 u) rfl (by decide) rfl fun ga=>?_
    refine gW 0 Z Z fun QO C6 SH=>?_
    have ZX:bu QO (some ⟨ga,0,none⟩) ([u]:List cq).length 1 5 (eP [u]):=ny (l:=[u]) SH (aq _)
    have T0:=T0.mono C6
    refine dp (i:=6) Zk ?_
    refine pz Z Z Z Z Z Tryz.call44 ⟨trivial,trivial⟩ (Zy QO ga ZX) fun v s_t C5 ⟨bo,bc,hv,HB⟩=>⟨.a (.v (.slice bo ([u]:List cq).length bc)),trivial,hv.symm,?_⟩
    have T0:=T0.mono C5
    refine dp (i:=9) Zk ?_
    refine uT Z Z Z Z Z Tryz.call43 ⟨trivial,trivial,trivial⟩ (Nj s_t bo bc HB gb T0) fun v s_e JE hv=>⟨.a .tt,trivial,by rw[hv,bj rfl];rfl,?_⟩
    refine bQ (i:=10) TT rfl Zk Zk Z Z Z Z Z ?_
    refine bQ (i:=11) TT rfl Zk Zk Z Z Z Z Z ?_
    refine eS [] Z Z Zk ?_
    refine Zc ?_
    refine an s_e (al.le_trans wW (al.le_trans C6 (al.le_trans C5 JE))) aj rfl Zs Zs rfl Zl Zl
  refine Zg ?_
  refine an (⟨s11,k+1⟩:SmS) ⟨al.le_trans hle Sr,cz⟩ (by dsimp only;omega) rfl Zs Zs rfl Zl Zl
 have hm:=JF.cell hm
 have IX:=IX.mono JF
 have IY:=IY.mono JF
 have heq:=Tb Dd.ds line p
 have Vz:(Dn X.ds line p).length<=3600:=by
  refine ep ?_ (MX.E8 hK (fun k=>decide (k=line)))
  unfold Dn
  split
  ·exact lx _ _
  ·exact ay _
 have an0:∀ d∈X.ds,d.ids.length=d.L.length/\d.L.length<=10000:=fun d hd=>⟨(YM d hd).1,by have:=(MX.doc d hd).len;omega⟩
 have af5:∀ d∈Y.ds,d.ids.length=d.L.length/\d.L.length<=10000:=fun d hd=>⟨(ZP d hd).1,by have:=(MY.doc d hd).len;omega⟩
 refine Za ?_
 refine ck [(0,.pure),(1,.pure),(2,.quiet),(3,.pure),(4,.quiet),(8,.quiet),(9,.pure),(10,.quiet),(5,.dP),(6,.dP),(7,.dP),(11,.dP),(12,.dP),(13,.pure),(14,.pure),(15,.quiet),(16,.pure),(17,.quiet),(19,.quiet),(23,.quiet),(24,.pure),(25,.quiet),(26,.quiet),(18,.dP),(20,.dP),(21,.dP),(22,.dP),(27,.dP),(28,.dP),(29,.pure),(30,.pure)] mixed Zk (aM TT rfl ?_)
 refine cr 173 (.agg (aA X)) rfl (az _ _) (fun _=>rfl) ?_
 refine cr 175 (.agg (cc p)) rfl (bT _ _) (fun _=>rfl) ?_
 refine cr 179 (.agg (aA Y)) rfl (az _ _) (fun _=>rfl) ?_
 refine cr 181 (.agg (cc p)) rfl (bT _ _) (fun _=>rfl) ?_
 refine aT (ys:=[.agg (cc p)]) Z Z Z Z Z Tryz.call54 ⟨bT 0 p,trivial⟩ (Cu s10 p) fun v hv=>⟨.agg (cc p),bT _ _,hv.symm,?_⟩
 refine Zr ?_
 refine bN (ys:=[.agg (aA X),.a (.v (.int .i64 line)),.agg (cc p)]) Z Z Z Z Z Tryz.call46 ⟨az 0 X,trivial,bT 0 p,trivial⟩ (FV s10 m hm X IX Zo YM MX.ord MX.JR line p hp) fun v s11 Sr ⟨ox,cx,hv,HX⟩=>⟨.a (.v (.slice ox (Dn X.ds line p).length cx)),trivial,hv.symm,?_⟩
 refine Zr ?_
 refine bN Z Z Z Z Z Tryz.call44 Zl (oG s11 _ Zo ox cx HX) fun v s12 C7 ⟨tx,ux,hv,HT⟩=>⟨.a (.v (.slice tx (Dn X.ds line p).length ux)),trivial,hv.symm,?_⟩
 have py:=al.le_trans Sr C7
 have hm:=py.cell hm
 have IX:=IX.mono py
 have IY:=IY.mono py
 refine Zr ?_
 refine bN (ys:=[.agg (aA Y),.a (.v (.int .i64 line)),.agg (cc p)]) Z Z Z Z Z Tryz.call55 ⟨az 0 Y,trivial,bT 0 p,trivial⟩ (Q9 s12 Y IY Zo af5 MY.ord MY.JR line p hp) fun v s13 py ⟨oy,cy,hv,HY⟩=>⟨.a (.v (.slice oy (Dn Y.ds line p).length cy)),trivial,hv.symm,?_⟩
 have hm:=py.cell hm
 have IX:=IX.mono py
 have IY:=IY.mono py
 refine Zr ?_
 refine aT Z Z Z Z Z Tryz.call43 ⟨trivial,trivial,trivial⟩ (sP s13 _ _ Zo tx ux (HT.mono py) oy cy HY) fun v hv=>⟨.a .tt,trivial,by rw[hv,bj heq];rfl,?_⟩
 clear HX HT HY
 refine Zr ?_
 refine cr 186 (.agg (aA X)) rfl (az _ _) (fun _=>rfl) ?_
 refine cr 188 (.agg (cc p)) rfl (bT _ _) (fun _=>rfl) ?_
 refine cr 190 (.agg (cc q)) rfl (bT _ _) (fun _=>rfl) ?_
 refine cr 194 (.agg (aA Y)) rfl (az _ _) (fun _=>rfl) ?_
 refine cr 196 (.agg (cc p)) rfl (bT _ _) (fun _=>rfl) ?_
 refine cr 197 (.agg (cc q)) rfl (bT _ _) (fun _=>rfl) ?_
 refine aT (ys:=[.agg (cc p)]) Z Z Z Z Z Tryz.call54 ⟨bT 0 p,trivial⟩ (Cu s13 p) fun v hv=>⟨.agg (cc p),bT _ _,hv.symm,?_⟩
 refine Zr ?_
 refine aT (ys:=[.agg (cc q)]) Z Z Z Z Z Tryz.call54 ⟨bT 0 q,trivial⟩ (Cu s13 q) fun v hv=>⟨.agg (cc q),bT _ _,hv.symm,?_⟩
 refine Zr ?_
 refine bN (ys:=[.agg (aA X),.a (.v (.int .i64 line)),.agg (cc p),.agg (cc q)]) Z Z Z Z Z Tryz.call47 ⟨az 0 X,trivial,bT 0 p,bT 0 q,trivial⟩ (P2 s13 m hm X IX Zo an0 MX.ord MX.JR line p q hp hq) fun v s14 Sq ⟨T,ot,ct,hv,hBT,hTl,_,HT⟩=>⟨.a (.v (.slice ot T.length ct)),trivial,hv.symm,?_⟩
 refine Zr ?_
 refine bN Z Z Z Z Z Tryz.call44 Zl (oG s14 T Zo ot ct HT) fun v s15 ae8 ⟨t5,u5,hv,HT2⟩=>⟨.a (.v (.slice t5 T.length u5)),trivial,hv.symm,?_⟩
 have ae7:=al.le_trans Sq ae8
 have IY:=IY.mono ae7
 refine Zr ?_
 refine bN (ys:=[.agg (aA Y),.a (.v (.int .i64 line)),.agg (cc p),.agg (cc q)]) Z Z Z Z Z Tryz.call56 ⟨az 0 Y,trivial,bT 0 p,bT 0 q,trivial⟩
  (Lc s15 Y IY Zo af5 MY.ord MY.JR line p q hp hq (wN hp.2) (wN hq.2) (Vn MY.JR)) fun v s16 ae6 ⟨S,o5,c5,hv,hBS,HS⟩=>⟨.a (.v (.slice o5 S.length c5)),trivial,hv.symm,?_⟩
 have am7:=PK Dd.ds hBT hBS
 refine Zr ?_
 refine aT Z Z Z Z Z Tryz.call43 ⟨trivial,trivial,trivial⟩ (sP s16 T S Zo t5 u5 (HT2.mono ae6) o5 c5 HS) fun v hv=>⟨.a .tt,trivial,by rw[hv,bj am7];rfl,?_⟩
 refine gn ?_
 refine aw TT rfl fun β w' _ _=>?_
 rfl
end Go.Sy
namespace Go.Sy
open Go.ChangeShapes Go.RowKit
def m4 (W:World):al:=fun b=>W.heap[b]?
theorem D7(W:World): tU (m4 W) W:=fun _ _ h=>h
theorem Ij(W:World)(a:Addr): (m4 W).cell a=W.cell? a:=rfl
structure VT (P:Program) (tV tL tM tE tD tS tI tB:TypeId):Prop where
 v:∃ fs:Array Field,P.underlying tV=some (.struct fs)/\fs.toList.map (fun f=>(f.type,f.offset))=[(tI,0),(tB,1),(tD,2),(tS,5),(tL,6),(tM,7)]
 l:P.underlying tL=some (.slice tV)
 m:P.underlying tM=some (.slice tE)
 e:∃ fs:Array Field,P.underlying tE=some (.struct fs)/\fs.toList.map (fun f=>(f.type,f.offset))=[(tS,0),(tV,1)]
 d:∃ fs:Array Field,P.underlying tD=some (.struct fs)/\fs.toList.map (fun f=>(f.type,f.offset))=[(tB,0),(tS,1),(tI,2)]
 s:P.underlying tS=some .string
 i:P.underlying tI=some (.int .i64)
 b:P.underlying tB=some .bool
 cV:P.cellsOf tV=8
 cE:P.cellsOf tE=9
 cD:P.cellsOf tD=3
 cS:P.cellsOf tS=1
 cI:P.cellsOf tI=1
 cB:P.cellsOf tB=1
 cL:P.cellsOf tL=1
 cM:P.cellsOf tM=1
 bV:0<P.bytesOf tV
 bE:0<P.bytesOf tE
section
variable {H:Type} {enc:TypeId×Value->H} {P:Program} {w:World} {sp:Nat->Bool} {held:Bool}
theorem SZ{fs:Array Field}{l:List (TypeId×Nat)}(h:fs.toList.map (fun f=>(f.type,f.offset))=l){i:Nat}{t:TypeId}{o:Nat}(hi:l[i]?=some (t,o)):
  ∃ f,fs[i]?=some f/\f.type=t/\f.offset=o:=by
 subst h
 rw[aO] at hi
 simp only[Option.map_eq_some_iff,cC] at hi
 obtain⟨f,h1,h2,h3⟩:=hi
 exact⟨f,by simpa using h1,h2,h3⟩
theorem kq{t:TypeId}{fs:Array Field}{l:List (TypeId×Nat)}{n:Nat}{cs:List Value}{x:DataW H×List MemPlace}(hu:P.underlying t=some (.struct fs))(hl:fs.toList.map (fun f=>(f.type,f.offset))=l)(h:DataW.trod enc P w 0 sp held n t cs=some x):
  ∃ m,m<n/\cs.length=P.cellsOf t/\∀(i:Nat) (u:TypeId) (o:Nat),l[i]?=some (u,o)->∃ y:DataW H×List MemPlace,DataW.trod enc P w 0 sp held m u ((cs.drop o).take (P.cellsOf u))=some y/\∀ k∈y.1.weights P u,k∈x.1.weights P t:=by
 obtain⟨xs,m,rfl,rfl,h1,h2,h3⟩:=DataW.trod_struct hu h
 refine⟨m,by omega,h1,fun i u o hi=>?_⟩
 obtain⟨f,hf,rfl,rfl⟩:=SZ hl hi
 have rU:i<xs.length:=by
  rw[h2]
  have:=(ah.1 (show fs.toList[i]?=some f by simpa using hf)).1
  simpa using this
 refine⟨xs[i],by rw[h3 i f hf,aa rU],fun k hk=>?_⟩
 rw[DataW.weights.eq_def]
 simp only[hu]
 exact DataW.weights_mem_each (j:=i) (t:=f.type) (d:=xs[i].1) (by simp;exact⟨f,by simpa using hf,rfl⟩) (by simp[aa rU]) k hk
theorem ur{e:TypeId}: ∀ {ds:List (DataW H)} {d:DataW H},d∈ds->∀ k∈d.weights P e,k∈DataW.weightsAll P e ds
 | _::_,_,.head _,k,hk=>by rw[DataW.weightsAll];exact eW _ hk
 | _::_,_,.tail _ h,k,hk=>by rw[DataW.weightsAll];exact gH _ (ur h k hk)
theorem Gn{t e:TypeId}{n sz:Nat}{c:Value}{x:DataW H×List MemPlace}(hu:P.underlying t=some (.slice e))(hc:P.cellsOf e=sz)(hb:0<P.bytesOf e)(h:DataW.trod enc P w 0 sp held n t [c]=some x)(hw:∀ k∈x.1.weights P t,k<=reachBytes):
  ∃(ao:Option Addr) (len cap m:Nat),c=.slice ao len cap/\m<n/\len<=cap/\len<=reachBytes /\
   (len=0\/∃ a,ao=some a/\∀ i,i<len->∃(cs:List Value) (y:DataW H×List MemPlace),cs.length=sz/\(∀ j v,cs[j]?=some v->w.cell? (a.add (i*sz+j))=some v) /\
    DataW.trod enc P w 0 sp held m e cs=some y/\∀ k∈y.1.weights P e,k∈x.1.weights P t):=by
 rcases DataW.trod_slice hu h with⟨h1,rfl⟩ | ⟨a,len,cap,elems,rest,m,rfl,h1,rfl,_,h3,h4,h5,h6,_,_⟩
 ·injection h1 with h1
  subst h1
  refine⟨none,0,0,0,rfl,?_,aq _,by decide,.inl rfl⟩
  cases n with
  | zero=>simp[DataW.trod] at h
  | succ n=>omega
 ·injection h1 with h1
  subst h1
  have hwt:(DataW.slice (elems.map (·.1)) (rest.map (·.1)):DataW H).weights P t=((elems.map (·.1)).length+(rest.map (·.1)).length)*P.bytesOf e::(DataW.weightsAll P e (elems.map (·.1))++DataW.weightsAll P e (rest.map (·.1))):=by
   rw[DataW.weights.eq_def]
   simp only[hu]
  refine⟨some a,len,cap,m,rfl,by omega,h3,?_,.inr ⟨a,rfl,fun i hi=>?_⟩⟩
  ·have:=hw _ (by rw[hwt];exact a8)
   simp only[aR] at this
   have h7:elems.length<=(elems.length+rest.length)*P.bytesOf e:=ep (Nat.le_add_right _ _) (Nat.le_mul_of_pos_right _ hb)
   omega
  ·have rU:i<elems.length:=by omega
   have h8:=h6 i hi
   rw[aa rU,hc] at h8
   obtain⟨cs,h9,uS⟩:=Option.bind_eq_some_iff.1 h8
   obtain⟨_,ZS,h12⟩:=World.cells?_some h9
   refine⟨cs,elems[i],ZS,fun j v hj=>?_,uS,fun k hk=>?_⟩
   ·have tC:j<sz:=by rw[<-ZS];exact(ah.1 hj).1
    have:=h12 j tC
    rw[hj] at this
    rw[<-this]
    congr 1
    exact(Addr.add_add _ _ _).symm
   ·rw[hwt]
    exact ba _ (eW _ (ur (bL.2 ⟨elems[i],aP rU,rfl⟩) k hk))
theorem fJ.range{σ:al}{G:Nat->aJ}{R:Nat->List AT}: ∀ l:List Nat,(∀ i∈l,eQ σ (G i) (R i))->fJ σ (l.map G) (l.map R)
 | [],_=>by simp[fJ]
 | a::l,h=>by
  simp only[bx,fJ]
  exact⟨R a,l.map R,rfl,h a a8,fJ.range l fun i hi=>h i (ba _ hi)⟩
theorem wi(K:Nat->ByteArray)(R:Nat->List AT): ∀ l:List Nat,ig (l.map K) (l.map R)=l.map fun i=>qJ (K i) (R i)
 | []=>rfl
 | a::l=>by simp[ig,wi K R l]
theorem wD{ao:Option Addr}{len cap sz:Nat}{R:Nat->List AT}(h1:len<=cap)(h2:∀ i,i<len->(R i).length=sz/\∀ c∈R i,c.lt 0)(h3:len=0\/∃ a,ao=some a/\∀ i,i<len->∀ j v,((R i).map (AT.den fy))[j]?=some v->w.cell? (a.add (i*sz+j))=some v): bu (m4 w) ao len cap sz ((List.range len).map R):=by
 refine⟨by simp,h1,fun r hr=>?_,?_⟩
 ·obtain⟨i,hi,rfl⟩:=bL.1 hr
  exact h2 i (List.mem_range.1 hi)
 ·rcases h3 with h3 | ⟨a,h3,h4⟩
  ·exact .inl h3
  ·refine .inr ⟨a,h3,fun i r j c hr hc=>?_⟩
   rw[aO] at hr
   obtain⟨i',h5,rfl⟩:=Option.map_eq_some_iff.1 hr
   obtain⟨h6,h7⟩:=ah.1 h5
   have h8:i<len:=by simpa using h6
   have h9:i'=i:=by simpa using h7.symm
   subst h9
   rw[Ij]
   exact h4 i' h8 j _ (by rw[aO,hc];rfl)
variable {tV tL tM tE tD tS tI tB:TypeId}
theorem nS{n:Nat}{t:TypeId}{c:Value}{x:DataW H×List MemPlace}(hu:P.underlying t=some .string)(h:DataW.trod enc P w 0 sp held n t [c]=some x)(hw:∀ k∈x.1.weights P t,k<=reachBytes):
  ∃ s:ByteArray,c=.string s/\s.size<=bJ:=by
 obtain⟨s,h1,rfl,_⟩:=DataW.trod_string hu h
 injection h1 with h1
 subst h1
 refine⟨s,rfl,?_⟩
 have:=hw s.data.toList.length (by rw[DataW.weights.eq_def];exact a8)
 have h2:s.data.toList.length=s.size:=rfl
 rw[h2] at this
 exact this
theorem Rk(T:VT P tV tL tM tE tD tS tI tB): ∀(n:Nat) (cs:List Value) (x:DataW H×List MemPlace),DataW.trod enc P w 0 sp held n tV cs=some x->(∀ k∈x.1.weights P tV,k<=reachBytes) ->
  ∃(g:aJ) (r:List AT),cs=r.map (AT.den fy)/\eQ (m4 w) g r:=by
 intro n
 induction n using Nat.strongRecOn with
 | _ n ih=>?_
 intro cs x h hw
 obtain⟨fs,hu,hl⟩:=T.v
 obtain⟨m,hm,hlen,hf⟩:=kq hu hl h
 rw[T.cV] at hlen
 match cs,hlen with
 | [c0,c1,c2,c3,c4,c5,c6,c7],_ =>
 obtain⟨y0,h0,_⟩:=hf 0 tI 0 rfl
 obtain⟨y1,h1,_⟩:=hf 1 tB 1 rfl
 obtain⟨y2,h2,w2⟩:=hf 2 tD 2 rfl
 obtain⟨y3,h3,w3⟩:=hf 3 tS 5 rfl
 obtain⟨y4,h4,w4⟩:=hf 4 tL 6 rfl
 obtain⟨y5,h5,w5⟩:=hf 5 tM 7 rfl
 rw[T.cI] at h0
 rw[T.cB] at h1
 rw[T.cD] at h2
 rw[T.cS] at h3
 rw[T.cL] at h4
 rw[T.cM] at h5
 simp only[cJ,dH,cX,fv] at h0 h1 h2 h3 h4 h5
 obtain⟨k,e0,-,-⟩:=DataW.trod_int T.i h0
 obtain⟨b,e1,-⟩:=DataW.trod_bool T.b h1
 obtain⟨s,e5,hs⟩:=nS T.s h3 fun k hk=>hw k (w3 k hk)
 obtain⟨fd,Yb,JG⟩:=T.d
 obtain⟨md,hmd,-,Hy⟩:=kq Yb JG h2
 obtain⟨z0,g0,_⟩:=Hy 0 tB 0 rfl
 obtain⟨z1,g1,v1⟩:=Hy 1 tS 1 rfl
 obtain⟨z2,g2,_⟩:=Hy 2 tI 2 rfl
 rw[T.cB] at g0
 rw[T.cS] at g1
 rw[T.cI] at g2
 simp only[cJ,dH,cX,fv] at g0 g1 g2
 obtain⟨ng,e2,-⟩:=DataW.trod_bool T.b g0
 obtain⟨dg,e3,hdg⟩:=nS T.s g1 fun k hk=>hw k (w2 k (v1 k hk))
 obtain⟨ex,e4,-,-⟩:=DataW.trod_int T.i g2
 injection e0 with e0
 injection e1 with e1
 injection e2 with e2
 injection e4 with e4
 subst e0 e1 e2 e3 e4 e5
 obtain⟨la,ll,lc,ml,rfl,LU,Np,DU,hle⟩:=Gn T.l T.cV T.bV h4 fun k hk=>hw k (w4 k hk)
 obtain⟨ma,lm,mc,mm,rfl,hmm,hlm,hmr,hme⟩:=Gn T.m T.cE T.bE h5 fun k hk=>hw k (w5 k hk)
 have HL:∀ i,∃ gr:aJ×List AT,i<ll->eQ (m4 w) gr.1 gr.2/\∀ a,la=some a->∀ j v,(gr.2.map (AT.den fy))[j]?=some v->w.cell? (a.add (i*8+j))=some v:=by
  intro i
  by_cases hi:i<ll
  ·rcases hle with h0 | ⟨a,rfl,hle⟩
   ·omega
   ·obtain⟨cs,y,_,q2,q3,q4⟩:=hle i hi
    obtain⟨g,r,rfl,hr⟩:=ih ml Zo cs y q3 fun k hk=>hw k (w4 k (q4 k hk))
    exact⟨(g,r),fun _=>⟨hr,fun a' ha=>by injection ha with ha;subst ha;exact q2⟩⟩
  ·exact⟨(.mk 0 false ⟨false,⟨#[]⟩,0⟩ ⟨#[]⟩ [] [] [],[]),fun h=>absurd h hi⟩
 have HM:∀ i,∃ gr:ByteArray×aJ×List AT,i<lm->gr.1.size<=bJ/\eQ (m4 w) gr.2.1 gr.2.2/\∀ a,ma=some a->∀ j v,((qJ gr.1 gr.2.2).map (AT.den fy))[j]?=some v->w.cell? (a.add (i*9+j))=some v:=by
  intro i
  by_cases hi:i<lm
  ·rcases hme with h0 | ⟨a,rfl,hme⟩
   ·omega
   ·obtain⟨cs,y,q1,q2,q3,q4⟩:=hme i hi
    obtain⟨fe,T7,nY⟩:=T.e
    obtain⟨me,ar5,-,hfe⟩:=kq T7 nY q3
    obtain⟨u0,p0,x0⟩:=hfe 0 tS 0 rfl
    obtain⟨u1,p1,x1⟩:=hfe 1 tV 1 rfl
    rw[T.cS] at p0
    rw[T.cV] at p1
    match cs,q1 with
    | c::AU,q1 =>
     simp only[cJ,dH,cX,fv] at p0 p1
     rw[bY (by simp at q1;omega)] at p1
     obtain⟨key,rfl,hk⟩:=nS T.s p0 fun k hk=>hw k (w5 k (q4 k (x0 k hk)))
     obtain⟨g,r,rfl,hr⟩:=ih me Zo AU u1 p1 fun k hk=>hw k (w5 k (q4 k (x1 k hk)))
     exact⟨(key,g,r),fun _=>⟨hk,hr,fun a' ha=>by injection ha with ha;subst ha;exact q2⟩⟩
  ·exact⟨(⟨#[]⟩,.mk 0 false ⟨false,⟨#[]⟩,0⟩ ⟨#[]⟩ [] [] [],[]),fun h=>absurd h hi⟩
 obtain⟨FL,HL⟩:=Classical.axiomOfChoice HL
 obtain⟨FM,HM⟩:=Classical.axiomOfChoice HM
 refine⟨.mk k b ⟨ng,dg,ex⟩ s ((List.range ll).map fun i=>(FL i).1) ((List.range lm).map fun i=>(FM i).1) ((List.range lm).map fun i=>(FM i).2.1),
  [.v (.int .i64 k),.b b,.b ng,.v (.string dg),.v (.int .i64 ex),.v (.string s),.v (.slice la ll lc),.v (.slice ma lm mc)],rfl,?_⟩
 simp only[eQ]
 refine⟨la,lc,(List.range ll).map fun i=>(FL i).2,ma,mc,(List.range lm).map fun i=>(FM i).2.2,by simp,?_,fJ.range _ fun i hi=>(HL i (List.mem_range.1 hi)).1,by simp,?_,fJ.range _ fun i hi=>(HM i (List.mem_range.1 hi)).2.1,hdg,hs,by simpa[bJ,reachBytes] using DU,by simpa[bJ,reachBytes] using hmr,?_⟩
 ·simp only[aR,List.length_range]
  refine wD Np (fun i hi=>⟨(HL i hi).1.len,(HL i hi).1.qv⟩) ?_
  rcases hle with h0 | ⟨a,rfl,_⟩
  ·exact .inl h0
  ·exact .inr ⟨a,rfl,fun i hi=>(HL i hi).2 a rfl⟩
 ·rw[wi]
  simp only[aR,List.length_range]
  refine wD hlm (fun i hi=>⟨by simp[qJ,(HM i hi).2.1.len],fun c hc=>?_⟩) ?_
  ·cases hc with
   | head=>trivial
   | tail _ hc=>exact(HM i hi).2.1.qv c hc
  ·rcases hme with h0 | ⟨a,rfl,_⟩
   ·exact .inl h0
   ·exact .inr ⟨a,rfl,fun i hi=>(HM i hi).2.2 a rfl⟩
 ·intro key hk
  obtain⟨i,hi,rfl⟩:=bL.1 hk
  exact(HM i (List.mem_range.1 hi)).1
end
end Go.Sy
namespace Go.Sy
open Go.ChangeShapes Go.RowKit
section
variable {H:Type} {enc:TypeId×Value->H} {P:Program} {W W':World} {sp:Nat->Bool}
theorem v8{T:TypeId->Prop}(K:_root_.Go.Kids P T)(hz:∀ t e,T t->P.underlying t=some (.slice e)->0<P.cellsOf e):
  ∀ {ts:List TypeId} {vs:List Value} {ds:List (DataW H)} {ps:List MemPlace},(∀ t∈ts,T t)->DataW.TrodAll enc P W 0 (fun _=>true) true ts vs ds ps ->
   (∀ p∈ps,W.sameAt W' p)->(∀ p∈ps,sp p.block=true)->DataW.TrodAll enc P W' 0 sp true ts vs ds ps
 | [],[],[],_,_,h,_,_=>h
 | _::_,_::_,_::_,_,hT,⟨p,q,⟨n,h1⟩,h2,e⟩,hs,hb =>
  ⟨p,q,⟨n,DataW.trod_stays K (fun ht hu=>hz _ _ ht hu) (fun h=>by cases h) (hT _ a8) h1 (fun x hx=>hs x (by rw[e];exact eW _ hx)) (fun x hx=>hb x (by rw[e];exact eW _ hx))⟩,
   v8 K hz (fun t ht=>hT t (ba _ ht)) h2 (fun x hx=>hs x (by rw[e];exact gH _ hx)) (fun x hx=>hb x (by rw[e];exact gH _ hx)),e⟩
theorem Kk{M:Nat->Prop}{w w':World}(h:Fr M w w')(hM:∀ b,¬ M b): Below w.heap.size w w':=⟨h.os,h.tape,h.output,h.size,fun k hk=>h.block k hk (hM k)⟩
theorem IK{f:Func}{s:ChangeSpec}{apart fresh handsOn again:Bool}{args:Array Value}{ds gs:List (DataW H)}{before:List MemPlace}{tB:TypeId}(hl:laidOutB P=true)(hm:mapsRowed P=true)(hz:∀ t e,t<P.types.size->P.underlying t=some (.slice e)->0<P.cellsOf e)(O4:∀ t∈f.params.toList,t<P.types.size)(hr:f.resultTypes=#[tB])(hB:P.underlying tB=some .bool)(hv:s.vars=[])(al0:(s.fn H (ds++gs)).results=[.lit (.bool true)])(fi:(s.fn H (ds++gs)).args=ds)(ac4:(s.fn H (ds++gs)).vars=[])(hW:DataW.Whole enc P f.params.toList s.vars apart W args.toList ds gs before)(hb:Below W.heap.size W W'):
  s.post enc P f apart fresh handsOn again W args (.bool true) W':=by
 have hW':=hW
 obtain⟨p,q,hA,hV,rfl,hfz,ZD⟩:=hW
 rw[hv] at hV
 obtain⟨rfl,rfl⟩:=trodVars_none hV
 have dj:∀ x∈p++([]:List MemPlace),x.block<W.heap.size:=fun x hx=>hW'.lt x hx
 have h1:∀(b:Nat) (sp:Nat->Bool) (hd:Bool),DataW.TrodAll enc P W' b sp hd f.resultTypes.toList ((Value.bool true).resultList f.resultTypes.size) (s.fn H (ds++[])).results []:=by
  intro b sp hd
  rw[hr,al0]
  exact trodAll_mk1 (shut_bool hB true)
 have h2:∀ sp:Nat->Bool,(∀ x∈p++([]:List MemPlace),sp x.block=true)->DataW.TrodAll enc P W' 0 sp true f.params.toList args.toList (s.fn H (ds++[])).args p:=by
  intro sp hs
  rw[fi]
  exact v8 (T:=(·<P.types.size)) (kids_rows hl hm) hz O4 hA (fun x hx=>hb.same (dj x (eW _ hx))) (fun x hx=>hs x (eW _ hx))
 have h3:∀ sp:Nat->Bool,DataW.TrodVars enc P W' sp s.vars (s.fn H (ds++[])).vars []:=by
  intro sp
  rw[hv,ac4]
  rfl
 have hold:∀ x∈p++([]:List MemPlace),(fun b=>decide (b<W.heap.size)) x.block=true:=fun x hx=>by simpa using dj x hx
 refine⟨ds,[],_,[],p,[],hW',h1 _ _ _,h2 _ hold,h3 _,hb.frame _,fun _=>⟨ok_one hr rfl (okWide_bool_mk hB _),_,_,([]++p)++[],⟨[]++p,[],trodAll_append (h2 _ (fun _ _=>rfl)) (h1 _ _ _),h3 _,rfl,?_,?_⟩,?_⟩⟩
 ·intro b off hp
  have nF:MemPlace.cell b off∈p++([]:List MemPlace):=by simpa using hp
  rw[hb.frozen (p:=⟨b,off,none⟩) (dj _ nF)]
  exact hfz b off nF
 ·intro ha
  have:=ZD ha
  simpa using this
 ·intro x hp _
  simpa using hp
theorem XP{tV tL tM tE tD tS tI tB:TypeId}(T:VT P tV tL tM tE tD tS tI tB){r:Reach}{base:Nat}{v:Value}(h:Value.okWide P W r base tV v): ∃ cs:Array Value,v=.agg cs/\cs.size=P.cellsOf tV:=by
 obtain⟨fs,hu,_⟩:=T.v
 unfold Value.okWide at h
 rw[hu] at h
 obtain⟨cs,h1,h2,_⟩:=h
 exact⟨cs,h1,h2⟩
theorem CB{t:TypeId}(T:∃ fs,P.underlying t=some (.struct fs)){r:Reach}{base:Nat}{v:Value}(h:Value.okWide P W r base t v): ∃(fs:Array Field) (_:P.underlying t=some (.struct fs)) (cs:Array Value),v=.agg cs/\cs.size=P.cellsOf t:=by
 obtain⟨fs,hu⟩:=T
 unfold Value.okWide at h
 rw[hu] at h
 obtain⟨cs,h1,h2,_⟩:=h
 exact⟨fs,hu,cs,h1,h2⟩
theorem sU{ts:List TypeId}{ds:List (DataW H)}(h:(DataW.weightsEach P ts ds).all (·<=reachBytes)=true){j:Nat}{t:TypeId}{d:DataW H}(ht:ts[j]?=some t)(hd:ds[j]?=some d): ∀ k∈d.weights P t,k<=reachBytes:=by
 intro k hk
 have:=dc.1 h k (DataW.weights_mem_each ht hd k hk)
 simpa using this
end
end Go.Sy
namespace Go.Proofs.YtlonlnagmfdlbaaGreatDoor.Row
open Go Go.Proofs Go.Sy Go.ChangeShapes Go.WideShapes Go.ChangeAt Go.RowKit
set_option maxRecDepth 100000
theorem own: ownKnob Tryz.prog.godebug=none:=by kernel_rfl
theorem laidOut: laidOutB Tryz.prog=true:=by kernel_rfl
theorem aa2: mapsRowed Tryz.prog=true:=by kernel_rfl
theorem full: ∀ t e,t<Tryz.prog.types.size->Tryz.prog.underlying t=some (.slice e)->0<Tryz.prog.cellsOf e:=slices_full_of Tryz.prog Zk
theorem vt: VT Tryz.prog 28 25 26 184 24 9 3 4 where
 v:=⟨_,Tryz.underlying28,rfl⟩
 l:=by kernel_rfl
 m:=by kernel_rfl
 e:=⟨_,Tryz.underlying184,rfl⟩
 d:=⟨_,Tryz.underlying24,rfl⟩
 s:=by kernel_rfl
 i:=by kernel_rfl
 b:=by kernel_rfl
 cV:=by kernel_rfl
 cE:=by kernel_rfl
 cD:=by kernel_rfl
 cS:=by kernel_rfl
 cI:=by kernel_rfl
 cB:=by kernel_rfl
 cL:=by kernel_rfl
 cM:=by kernel_rfl
 bV:=ae Zk
 bE:=ae Zk
end Go.Proofs.YtlonlnagmfdlbaaGreatDoor.Row
namespace Go.Proofs.YtlonlnagmfdlbaaGreatDoor.Row
open Go Go.Proofs Go.Sy Go.ChangeShapes Go.WideShapes Go.ChangeAt Go.RowKit
set_option maxRecDepth 100000
theorem YY(w:World)(h:w.ShapedOpen Tryz.prog): ∃ m,w.cell? ⟨0,0,none⟩=some (.int .i64 m):=Go.Proofs.cell_of_shapedOpen_int (zero:=#[.int .i64 0]) (t:=3) h (ae Zk) Zk rfl Zk Zk Tryz.underlying3
end Go.Proofs.YtlonlnagmfdlbaaGreatDoor.Row
namespace Go.Sy
open Go.ChangeShapes Go.RowKit
section
variable {H:Type} {enc:TypeId×Value->H} {P:Program} {w:World} {sp:Nat->Bool} {held:Bool}
theorem yV{α:Type}{t e:TypeId}{n sz:Nat}{c:Value}{x:DataW H×List MemPlace}(cells:α->List AT)(ok:α->Prop)(a0:α)(hu:P.underlying t=some (.slice e))(hc:P.cellsOf e=sz)(hb:0<P.bytesOf e)(h:DataW.trod enc P w 0 sp held n t [c]=some x)(hw:∀ k∈x.1.weights P t,k<=reachBytes)(nZ:∀ a,ok a->(cells a).length=sz/\∀ c∈cells a,c.lt 0)(Ub:∀(m:Nat) (cs:List Value) (y:DataW H×List MemPlace),cs.length=sz->DataW.trod enc P w 0 sp held m e cs=some y->(∀ k∈y.1.weights P e,k<=reachBytes)->∃ a,ok a/\cs=(cells a).map (AT.den fy)):
  ∃(ao:Option Addr) (cap:Nat) (l:List α),c=.slice ao l.length cap/\bu (m4 w) ao l.length cap sz (l.map cells)/\(∀ a∈l,ok a)/\l.length<=reachBytes:=by
 obtain⟨ao,len,cap,m,rfl,-,Hv,DU,hle⟩:=Gn hu hc hb h hw
 have HF:∀ i,∃ a:α,i<len->ok a/\∀ ad,ao=some ad->∀ j v,((cells a).map (AT.den fy))[j]?=some v->w.cell? (ad.add (i*sz+j))=some v:=by
  intro i
  by_cases hi:i<len
  ·rcases hle with h0 | ⟨ad,rfl,hle⟩
   ·omega
   ·obtain⟨cs,y,q1,q2,q3,q4⟩:=hle i hi
    obtain⟨a,ha,rfl⟩:=Ub m cs y q1 q3 fun k hk=>hw k (q4 k hk)
    exact⟨a,fun _=>⟨ha,fun a' GR=>by injection GR with GR;subst GR;exact q2⟩⟩
  ·exact⟨a0,fun h=>absurd h hi⟩
 obtain⟨F,HF⟩:=Classical.axiomOfChoice HF
 refine⟨ao,cap,(List.range len).map F,by simp,?_,fun a ha=>?_,by simpa using DU⟩
 ·rw[jm,aR,List.length_range]
  refine wD (R:=cells ∘ F) Hv (fun i hi=>nZ _ (HF i hi).1) ?_
  rcases hle with h0 | ⟨ad,rfl,_⟩
  ·exact .inl h0
  ·exact .inr ⟨ad,rfl,fun i hi=>(HF i hi).2 ad rfl⟩
 ·obtain⟨i,hi,rfl⟩:=bL.1 ha
  exact(HF i (List.mem_range.1 hi)).1
end
end Go.Sy
namespace Go.Sy
open Go.ChangeShapes Go.RowKit
section
variable {H:Type} {enc:TypeId×Value->H} {P:Program} {w:World} {sp:Nat->Bool} {held:Bool} {tV tL tM tE tD tS tI tB:TypeId}
theorem Rl{tR:TypeId}{n:Nat}{cs:List Value}{x:DataW H×List MemPlace}{fs:Array Field}(T:VT P tV tL tM tE tD tS tI tB)(hu:P.underlying tR=some (.struct fs))(hl:fs.toList.map (fun f=>(f.type,f.offset))=[(tI,0),(tI,1),(tI,2),(tI,3),(tB,4),(tS,5),(tB,6),(tD,7),(tS,10)])(cR:P.cellsOf tR=11)(h:DataW.trod enc P w 0 sp held n tR cs=some x)(hw:∀ k∈x.1.weights P tR,k<=reachBytes): ∃ r:aH,(r.name.size<=bJ/\r.s.size<=bJ)/\cs=(di r).map (AT.den fy):=by
 obtain⟨m,hm,hlen,hf⟩:=kq hu hl h
 rw[cR] at hlen
 match cs,hlen with
 | [c0,c1,c2,c3,c4,c5,c6,c7,c8,c9,c10],_ =>
 obtain⟨y0,h0,_⟩:=hf 0 tI 0 rfl
 obtain⟨y1,h1,_⟩:=hf 1 tI 1 rfl
 obtain⟨y2,h2,_⟩:=hf 2 tI 2 rfl
 obtain⟨y3,h3,_⟩:=hf 3 tI 3 rfl
 obtain⟨y4,h4,_⟩:=hf 4 tB 4 rfl
 obtain⟨y5,h5,w5⟩:=hf 5 tS 5 rfl
 obtain⟨y6,h6,_⟩:=hf 6 tB 6 rfl
 obtain⟨y7,h7,w7⟩:=hf 7 tD 7 rfl
 obtain⟨y8,h8,w8⟩:=hf 8 tS 10 rfl
 rw[T.cI] at h0 h1 h2 h3
 rw[T.cB] at h4 h6
 rw[T.cS] at h5 h8
 rw[T.cD] at h7
 simp only[cJ,dH,cX,fv] at h0 h1 h2 h3 h4 h5 h6 h7 h8
 obtain⟨st,e0,-,-⟩:=DataW.trod_int T.i h0
 obtain⟨en,e1,-,-⟩:=DataW.trod_int T.i h1
 obtain⟨lv,e2,-,-⟩:=DataW.trod_int T.i h2
 obtain⟨kd,e3,-,-⟩:=DataW.trod_int T.i h3
 obtain⟨nm,e4,-⟩:=DataW.trod_bool T.b h4
 obtain⟨na,e5,Qb⟩:=nS T.s h5 fun k hk=>hw k (w5 k hk)
 obtain⟨b,e6,-⟩:=DataW.trod_bool T.b h6
 obtain⟨s,e10,hs⟩:=nS T.s h8 fun k hk=>hw k (w8 k hk)
 obtain⟨fd,Yb,JG⟩:=T.d
 obtain⟨md,hmd,-,Hy⟩:=kq Yb JG h7
 obtain⟨z0,g0,_⟩:=Hy 0 tB 0 rfl
 obtain⟨z1,g1,v1⟩:=Hy 1 tS 1 rfl
 obtain⟨z2,g2,_⟩:=Hy 2 tI 2 rfl
 rw[T.cB] at g0
 rw[T.cS] at g1
 rw[T.cI] at g2
 simp only[cJ,dH,cX,fv] at g0 g1 g2
 obtain⟨ng,e7,-⟩:=DataW.trod_bool T.b g0
 obtain⟨dg,e8,_⟩:=nS T.s g1 fun k hk=>hw k (w7 k (v1 k hk))
 obtain⟨ex,e9,-,-⟩:=DataW.trod_int T.i g2
 injection e0 with e0
 injection e1 with e1
 injection e2 with e2
 injection e3 with e3
 injection e4 with e4
 injection e6 with e6
 injection e7 with e7
 injection e9 with e9
 subst e0 e1 e2 e3 e4 e5 e6 e7 e8 e9 e10
 exact⟨⟨st,en,lv,kd,nm,na,b,⟨ng,dg,ex⟩,s⟩,⟨Qb,hs⟩,rfl⟩
theorem OD{t tR:TypeId}{n:Nat}{c:Value}{x:DataW H×List MemPlace}{fs:Array Field}(T:VT P tV tL tM tE tD tS tI tB)(ht:P.underlying t=some (.slice tR))(hu:P.underlying tR=some (.struct fs))(hl:fs.toList.map (fun f=>(f.type,f.offset))=[(tI,0),(tI,1),(tI,2),(tI,3),(tB,4),(tS,5),(tB,6),(tD,7),(tS,10)])(cR:P.cellsOf tR=11)(bR:0<P.bytesOf tR)(h:DataW.trod enc P w 0 sp held n t [c]=some x)(hw:∀ k∈x.1.weights P t,k<=reachBytes):
  ∃(ao:Option Addr) (cap:Nat) (l:List aH),c=.slice ao l.length cap/\bu (m4 w) ao l.length cap 11 (cv l)/\(∀ r∈l,r.name.size<=140737488355328/\r.s.size<=140737488355328)/\l.length<=140737488355328:=by
 obtain⟨ao,cap,l,h1,h2,h3,h4⟩:=yV di (fun r=>r.name.size<=bJ/\r.s.size<=bJ) ⟨0,0,0,0,false,⟨#[]⟩,false,⟨false,⟨#[]⟩,0⟩,⟨#[]⟩⟩ ht cR bR h hw (fun a _=>⟨rfl,fP 0 a⟩) fun m cs y _ hy hk =>
  Rl T hu hl cR hy hk
 refine⟨ao,cap,l,h1,h2,fun r hr=>?_,ep h4 (by decide)⟩
 have:=h3 r hr
 simp only[bJ] at this
 omega
end
end Go.Sy
namespace Go.Sy
open Go.ChangeShapes Go.RowKit
section
variable {H:Type} {enc:TypeId×Value->H} {P:Program} {w:World} {sp:Nat->Bool} {held:Bool} {tV tL tM tE tD tS tI tB:TypeId}
theorem Rm{tR:TypeId}{n:Nat}{cs:List Value}{x:DataW H×List MemPlace}{fs:Array Field}(T:VT P tV tL tM tE tD tS tI tB)(hu:P.underlying tR=some (.struct fs))(hl:fs.toList.map (fun f=>(f.type,f.offset))=[(tI,0),(tS,1)])(cR:P.cellsOf tR=2)(h:DataW.trod enc P w 0 sp held n tR cs=some x)(hw:∀ k∈x.1.weights P tR,k<=reachBytes): ∃ r:gY,True/\cs=(mz r).map (AT.den fy):=by
 obtain⟨m,hm,hlen,hf⟩:=kq hu hl h
 rw[cR] at hlen
 match cs,hlen with
 | [c0,c1],_ =>
 obtain⟨y0,h0,_⟩:=hf 0 tI 0 rfl
 obtain⟨y1,h1,w1⟩:=hf 1 tS 1 rfl
 rw[T.cI] at h0
 rw[T.cS] at h1
 simp only[cJ,dH,cX,fv] at h0 h1
 obtain⟨wh,e0,-,-⟩:=DataW.trod_int T.i h0
 obtain⟨na,e1,-⟩:=nS T.s h1 fun k hk=>hw k (w1 k hk)
 injection e0 with e0
 subst e0 e1
 exact⟨⟨wh,na⟩,trivial,rfl⟩
theorem OE{t tR:TypeId}{n:Nat}{c:Value}{x:DataW H×List MemPlace}{fs:Array Field}(T:VT P tV tL tM tE tD tS tI tB)(ht:P.underlying t=some (.slice tR))(hu:P.underlying tR=some (.struct fs))(hl:fs.toList.map (fun f=>(f.type,f.offset))=[(tI,0),(tS,1)])(cR:P.cellsOf tR=2)(bR:0<P.bytesOf tR)(h:DataW.trod enc P w 0 sp held n t [c]=some x)(hw:∀ k∈x.1.weights P t,k<=reachBytes):
  ∃(ao:Option Addr) (cap:Nat) (l:List gY),c=.slice ao l.length cap/\bu (m4 w) ao l.length cap 2 (iN l)/\l.length<=140737488355328:=by
 obtain⟨ao,cap,l,h1,h2,-,h4⟩:=yV mz (fun _=>True) ⟨0,⟨#[]⟩⟩ ht cR bR h hw (fun a _=>⟨rfl,by simp[mz,AT.lt]⟩) fun m cs y _ hy hk=>Rm T hu hl cR hy hk
 exact⟨ao,cap,l,h1,h2,ep h4 (by decide)⟩
theorem U3{tO tR Uz:TypeId}{n:Nat}{cs:List Value}{x:DataW H×List MemPlace}{fs gs:Array Field}(T:VT P tV tL tM tE tD tS tI tB)(hu:P.underlying tO=some (.struct fs))(hl:fs.toList.map (fun f=>(f.type,f.offset))=[(tI,0),(tI,1),(tI,2),(tV,3),(Uz,11)])(cO:P.cellsOf tO=12)(ht:P.underlying Uz=some (.slice tR))(cRL:P.cellsOf Uz=1)(hr:P.underlying tR=some (.struct gs))(DU:gs.toList.map (fun f=>(f.type,f.offset))=[(tI,0),(tI,1),(tI,2),(tI,3),(tB,4),(tS,5),(tB,6),(tD,7),(tS,10)])(cR:P.cellsOf tR=11)(bR:0<P.bytesOf tR)(h:DataW.trod enc P w 0 sp held n tO cs=some x)(hw:∀ k∈x.1.weights P tO,k<=reachBytes): ∃ o:N1,Hg (m4 w) o/\cs=(rN o).map (AT.den fy):=by
 obtain⟨m,hm,hlen,hf⟩:=kq hu hl h
 rw[cO] at hlen
 match cs,hlen with
 | [c0,c1,c2,c3,c4,c5,c6,c7,c8,c9,c10,c11],_ =>
 obtain⟨y0,h0,_⟩:=hf 0 tI 0 rfl
 obtain⟨y1,h1,_⟩:=hf 1 tI 1 rfl
 obtain⟨y2,h2,_⟩:=hf 2 tI 2 rfl
 obtain⟨y3,h3,w3⟩:=hf 3 tV 3 rfl
 obtain⟨y4,h4,w4⟩:=hf 4 Uz 11 rfl
 rw[T.cI] at h0 h1 h2
 rw[T.cV] at h3
 rw[cRL] at h4
 simp only[cJ,dH,cX,fv] at h0 h1 h2 h3 h4
 obtain⟨wh,e0,-,-⟩:=DataW.trod_int T.i h0
 obtain⟨id,e1,-,-⟩:=DataW.trod_int T.i h1
 obtain⟨ga,e2,-,-⟩:=DataW.trod_int T.i h2
 obtain⟨g,r,e3,hR⟩:=Rk T _ _ _ h3 fun k hk=>hw k (w3 k hk)
 obtain⟨ao,cap,L,e4,hL,hs,Np⟩:=OD T ht hr DU cR bR h4 fun k hk=>hw k (w4 k hk)
 obtain⟨la,lc,fG,ma,mc,ft,rfl,V⟩:=hR.open
 injection e0 with e0
 injection e1 with e1
 injection e2 with e2
 subst e0 e1 e2 e4
 simp only[dN,bx,gi,List.cons.injEq,and_true] at e3
 obtain⟨rfl,rfl,rfl,rfl,rfl,rfl,rfl,rfl⟩:=e3
 exact⟨⟨wh,id,ga,g,la,lc,ma,mc,L,ao,cap⟩,⟨V.rep,hL,Np,hs⟩,rfl⟩
def op0:N1:=⟨0,0,0,.mk 0 false ⟨false,⟨#[]⟩,0⟩ ⟨#[]⟩ [] [] [],none,0,none,0,[],none,0⟩
theorem Rn{t tO tR Uz:TypeId}{n:Nat}{c:Value}{x:DataW H×List MemPlace}{fs gs:Array Field}(T:VT P tV tL tM tE tD tS tI tB)(ho:P.underlying t=some (.slice tO))(hu:P.underlying tO=some (.struct fs))(hl:fs.toList.map (fun f=>(f.type,f.offset))=[(tI,0),(tI,1),(tI,2),(tV,3),(Uz,11)])(cO:P.cellsOf tO=12)(bO:0<P.bytesOf tO)(ht:P.underlying Uz=some (.slice tR))(cRL:P.cellsOf Uz=1)(hr:P.underlying tR=some (.struct gs))(DU:gs.toList.map (fun f=>(f.type,f.offset))=[(tI,0),(tI,1),(tI,2),(tI,3),(tB,4),(tS,5),(tB,6),(tD,7),(tS,10)])(cR:P.cellsOf tR=11)(bR:0<P.bytesOf tR)(h:DataW.trod enc P w 0 sp held n t [c]=some x)(hw:∀ k∈x.1.weights P t,k<=reachBytes):
  ∃(ao:Option Addr) (cap:Nat) (l:List N1),c=.slice ao l.length cap/\bu (m4 w) ao l.length cap 12 (I7 l)/\l.length<=140737488355328/\∀ o∈l,Hg (m4 w) o:=by
 obtain⟨ao,cap,l,h1,h2,h3,h4⟩:=yV rN (Hg (m4 w)) op0 ho cO bO h hw (fun a _=>⟨rfl,mB 0 a⟩) fun m cs y _ hy hk=>U3 T hu hl cO ht cRL hr DU cR bR hy hk
 exact⟨ao,cap,l,h1,h2,ep h4 (by decide),h3⟩
theorem Cy{tR:TypeId}{n:Nat}{cs:List Value}{x:DataW H×List MemPlace}{fs:Array Field}(T:VT P tV tL tM tE tD tS tI tB)(hu:P.underlying tR=some (.struct fs))(hl:fs.toList.map (fun f=>(f.type,f.offset))=[(tI,0),(tB,1),(tD,2),(tS,5),(tI,6)])(cR:P.cellsOf tR=7)(h:DataW.trod enc P w 0 sp held n tR cs=some x)(hw:∀ k∈x.1.weights P tR,k<=reachBytes): ∃ r:dz,cs=(cc r).map (AT.den fy):=by
 obtain⟨m,hm,hlen,hf⟩:=kq hu hl h
 rw[cR] at hlen
 match cs,hlen with
 | [c0,c1,c2,c3,c4,c5,c6],_ =>
 obtain⟨y0,h0,_⟩:=hf 0 tI 0 rfl
 obtain⟨y1,h1,_⟩:=hf 1 tB 1 rfl
 obtain⟨y2,h2,w2⟩:=hf 2 tD 2 rfl
 obtain⟨y3,h3,w3⟩:=hf 3 tS 5 rfl
 obtain⟨y4,h4,_⟩:=hf 4 tI 6 rfl
 rw[T.cI] at h0 h4
 rw[T.cB] at h1
 rw[T.cD] at h2
 rw[T.cS] at h3
 simp only[cJ,dH,cX,fv] at h0 h1 h2 h3 h4
 obtain⟨kd,e0,-,-⟩:=DataW.trod_int T.i h0
 obtain⟨b,e1,-⟩:=DataW.trod_bool T.b h1
 obtain⟨s,e5,-⟩:=nS T.s h3 fun k hk=>hw k (w3 k hk)
 obtain⟨i,e6,-,-⟩:=DataW.trod_int T.i h4
 obtain⟨fd,Yb,JG⟩:=T.d
 obtain⟨md,hmd,-,Hy⟩:=kq Yb JG h2
 obtain⟨z0,g0,_⟩:=Hy 0 tB 0 rfl
 obtain⟨z1,g1,v1⟩:=Hy 1 tS 1 rfl
 obtain⟨z2,g2,_⟩:=Hy 2 tI 2 rfl
 rw[T.cB] at g0
 rw[T.cS] at g1
 rw[T.cI] at g2
 simp only[cJ,dH,cX,fv] at g0 g1 g2
 obtain⟨ng,e2,-⟩:=DataW.trod_bool T.b g0
 obtain⟨dg,e3,_⟩:=nS T.s g1 fun k hk=>hw k (w2 k (v1 k hk))
 obtain⟨ex,e4,-,-⟩:=DataW.trod_int T.i g2
 injection e0 with e0
 injection e1 with e1
 injection e2 with e2
 injection e4 with e4
 injection e6 with e6
 subst e0 e1 e2 e3 e4 e5 e6
 exact⟨⟨kd,b,⟨ng,dg,ex⟩,s,i⟩,rfl⟩
end
end Go.Sy
