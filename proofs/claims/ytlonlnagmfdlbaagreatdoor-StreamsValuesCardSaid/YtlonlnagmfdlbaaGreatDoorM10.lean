/- Parts of the proof of CStreamsValues: S3, S4, S9, SyEx, SyYb, Lw, S11, S12, S13, Lx, Sw. No conditions. -/
import Derived.Test.YtlonlnagmfdlbaaGreatDoorM9
import Derived.Laws.Externs
import Derived.Lib.BytesEntry
namespace Go.Sy
open Go.Proofs
theorem SlAt.adOf {σ:Snap} {ao:Option Addr} {n cap sz:Nat} {rows:List (List AT)} (H:SlAt σ ao n cap sz rows) (h:0<n):∃ ad,ao=some ad:=by
  rcases H.at_ with h0 | ⟨ad,h1,_⟩
  · omega
  · exact ⟨ad,h1⟩
set_option maxRecDepth 100000 in
set_option maxHeartbeats 1000000 in
theorem bytesEqual_c (σ:Snap) (a b:List UInt8) (ao:Option Addr) (ac:Nat) (HA:SlAt σ ao a.length ac 1 (u8Rows a)) (bo:Option Addr) (bc:Nat) (HB:SlAt σ bo b.length bc 1 (u8Rows b)) :
    PlainS Tryz.prog 120 [.a (.v (.slice ao a.length ac)),.a (.v (.slice bo b.length bc))] σ (fun v=>v=.bool (decide (a=b))):=by
  refine enter_p Tryz.func120 rfl rfl (by (repeat' (first | exact trivial | constructor))) fun w=>?_
  (repeat (first | refine cj_seq ?_ | refine cjr TT rfl ?_ | refine oj_then ?_))
  refine oj_strOf TT rfl rfl rfl rfl rfl rfl rfl rfl rfl rfl rfl rfl HA (oj_run TT rfl ?_)
  refine oj_strOf TT rfl rfl rfl rfl rfl rfl rfl rfl rfl rfl rfl rfl HB (oj_run TT rfl ?_)
  (repeat (first | refine oj_then ?_ | refine cj_ret ?_))
  refine nj_ret TT rfl fun β w' _ _=>?_
  show Value.bool (decide ((⟨a.toArray⟩:ByteArray)=⟨b.toArray⟩))=.bool (decide (a=b))
  congr 1
  rw [Bool.eq_iff_iff,decide_eq_true_eq,decide_eq_true_eq]
  exact ⟨fun h=>mkB_inj h,fun h=>by rw [h]⟩
set_option maxRecDepth 100000 in
set_option maxHeartbeats 2000000 in
theorem Equal1_c (σ:Snap) (m:Int) (hm:σ.cell ⟨0,0,none⟩=some (.int .i64 m)) (X:GIx) (IX:IxAt σ X) (hl:X.ds.length<=1000000) (ho:X.ds.Pairwise fun x y=>x.id<y.id) (hF:FitIx X)
    (g1:Nat) (hg1:∀ (j:Nat) c,(ixCells X)[j]?=some c->σ.cell ((⟨g1,0,none⟩:Addr).add j)=some (c.den β0)) (g2:Nat) (want:List UInt8) (wo:Option Addr) (wc:Nat) (hg2:σ.cell ⟨g2,0,none⟩=some (.slice wo want.length wc)) (HW:SlAt σ wo want.length wc 1 (u8Rows want)) (it:GItem) :
    PlainS Tryz.prog 119 [.agg (itCells it),.a (.v (.pointer (some ⟨g1,0,none⟩))),.a (.v (.pointer (some ⟨g2,0,none⟩)))] σ (fun v=>v=.bool (!decide (ixB X.ds it=want))):=by
  have hB:=ixBytes_c σ m hm X IX hl ho hF it
  generalize ixB X.ds it=z at *
  refine enter_p Tryz.func119 rfl rfl ⟨itCells_lt 0 it,trivial,trivial,trivial⟩ fun w=>?_
  (repeat (first | refine cj_seq ?_ | refine cjr TT rfl ?_ | refine oj_then ?_))
  refine cj_draw [(0,.quiet),(1,.quiet),(3,.quiet),(2,.keep),(4,.keep),(5,.pure),(6,.pure)] mixed (by kernel_rfl) (oj_run TT rfl ?_)
  refine oj_row 1 (ixCells X) rfl (ixCells_lt 0 X) hg1 (oj_run TT rfl ?_)
  refine oj_ldS (c:=.v (.slice wo want.length wc)) TT rfl rfl rfl rfl rfl rfl rfl rfl hg2 trivial (oj_run TT rfl ?_)
  refine oj_set 5 (.agg (ixCells X)) rfl (ixCells_lt _ _) (fun _=>rfl) ?_
  refine oj_set 6 (.agg (itCells it)) rfl (itCells_lt _ _) (fun _=>rfl) ?_
  refine oj_callS (ys:=[.agg (ixCells X),.agg (itCells it)]) rfl rfl rfl rfl rfl Tryz.call121 ⟨ixCells_lt 0 X,itCells_lt 0 it,trivial⟩ hB fun v s1 hle1 ⟨ao,cap,hv,HZ,hn⟩=>⟨.a (.v (.slice ao z.length cap)),trivial,hv.symm,?_⟩
  refine oj_run TT rfl ?_
  refine oj_callP rfl rfl rfl rfl rfl Tryz.call120 (by (repeat' (first | exact trivial | constructor))) (bytesEqual_c s1 z want ao cap HZ wo wc (HW.mono hle1)) fun v hv=>⟨.a (.b (decide (z=want))),trivial,hv.symm,?_⟩
  refine oj_run TT rfl ?_
  (repeat (first | refine oj_then ?_ | refine cj_ret ?_))
  refine nj_ret TT rfl fun β w' _ _=>?_
  rfl
def eqG (ds:List GDoc) (line:Int) (p:GPart):List GItem:=if rightG p then (onG (fun k=>decide (k=line)) ds).filter fun x=>decide (ixB ds x=pbytes p) else []
theorem onG_len {q:Int->Bool} {ds:List GDoc} {n k:Nat} (h:∀ d∈ds,d.L.length<=n) (hk:ds.length<=k):(onG q ds).length<=k*n:=by
  have:(onG q ds).length<=ds.length*n:=by
    clear hk
    induction ds with
    | nil=>exact Nat.zero_le _
    | cons d ds ih =>
      have h1:=ih fun x hx=>h x (List.mem_cons_of_mem d hx)
      have h2:=h d List.mem_cons_self
      have h3:(onD q d).length<=d.L.length:=by
        unfold onD
        rw [List.length_map]
        refine Nat.le_trans (List.length_filter_le _ _) ?_
        rw [List.length_zip,itemsD_len]
        omega
      have e:onG q (d::ds)=onD q d++onG q ds:=by unfold onG;rw [List.flatMap_cons]
      rw [e,List.length_append,List.length_cons,Nat.succ_mul]
      omega
  exact Nat.le_trans this (Nat.mul_le_mul_right _ hk)
theorem row_of {σ:Snap} {g e sz:Nat} {cs:List AT} (hlen:cs.length=sz) (hlt:∀ c∈cs,c.lt 0) (hS:ArrSealed σ ⟨some ⟨g,0,none⟩,1,1,e,sz,cs.map AT.val⟩):∀ (j:Nat) c,cs[j]?=some c->σ.cell ((⟨g,0,none⟩:Addr).add j)=some (c.den β0):=by
  have H:SlAt σ (some ⟨g,0,none⟩) 1 1 sz [cs]:=hS.sl (by simp) (fun r hr=>by rw [List.mem_singleton] at hr;subst hr;exact ⟨hlen,hlt⟩) rfl rfl (Nat.le_refl _)
  intro j c hc
  rcases H.at_ with h | ⟨ad,h1,h2⟩
  · cases h
  · injection h1 with h1
    subst h1
    have:=h2 0 cs j c rfl hc
    rw [Nat.zero_mul,Nat.zero_add] at this
    exact this
set_option maxRecDepth 100000 in
set_option maxHeartbeats 4000000 in
theorem EqualIx_c (σ:Snap) (m:Int) (hm:σ.cell ⟨0,0,none⟩=some (.int .i64 m)) (X:GIx) (IX:IxAt σ X) (hl:X.ds.length<=1000) (hd:∀ d∈X.ds,d.ids.length=d.L.length/\d.L.length<=100000) (ho:X.ds.Pairwise fun x y=>x.id<y.id) (hF:FitIx X) (line:Int) (p:GPart) (hp:p.n.dg.size<=mostLen/\p.s.size<=1000000) :
    PureS Tryz.prog 46 [.agg (ixCells X),.a (.v (.int .i64 line)),.agg (paCells p)] σ (fun v σ'=>∃ oo oc,v=.slice oo (eqG X.ds line p).length oc/\SlAt σ' oo (eqG X.ds line p).length oc 5 (itRows (eqG X.ds line p))):=by
  refine enter_s Tryz.func46 rfl rfl ⟨ixCells_lt 0 X,trivial,paCells_lt 0 p,trivial⟩ fun w=>?_
  (repeat (first | refine cj_seq ?_ | refine cjr TT rfl ?_ | refine oj_then ?_))
  refine oj_set 8 (.agg (paCells p)) rfl (paCells_lt _ _) (fun _=>rfl) ?_
  refine oj_callS (ys:=[.agg (paCells p)]) rfl rfl rfl rfl rfl Tryz.call117 ⟨paCells_lt 0 p,trivial⟩ (part_c σ m hm p hp) fun v s1 hle1 ⟨wo,wc,hv,HW,hn⟩=>⟨.a (.v (.slice wo (pbytes p).length wc)),trivial,hv.symm,?_⟩
  have IX:=IX.mono hle1
  have hm:=hle1.cell hm
  refine oj_run TT rfl ?_
  (repeat (first | refine cj_seq ?_ | refine cjr TT rfl ?_ | refine oj_then ?_ | (refine oj_slnil TT rfl rfl rfl rfl rfl rfl rfl rfl ?_;refine oj_run TT rfl ?_)))
  by_cases h:rightG p=true
  rotate_left
  · have h:rightG p=false:=by simpa using h
    have e:eqG X.ds line p=[]:=by unfold eqG;rw [h];rfl
    rw [e]
    rw [hn (pbytes_nil.2 h)]
    refine cj_if rfl (fun _=>?_) (fun h=>absurd h (by simp))
    (repeat (first | refine cj_seq ?_ | refine cjr TT rfl ?_ | refine oj_then ?_ | refine cj_ret ?_ | refine nj_then_ret ?_))
    refine nj_ret TT rfl fun β w' _ _=>?_
    exact ⟨none,0,rfl,SlAt.nil _ none 0 5⟩
  have hne:=pbytes_ne h
  have hpos:0<(pbytes p).length:=List.length_pos_iff.2 hne
  have e:eqG X.ds line p=(onG (fun k=>decide (k=line)) X.ds).filter fun x=>decide (ixB X.ds x=pbytes p):=by unfold eqG;rw [if_pos h]
  obtain ⟨wa,rfl⟩:=HW.adOf hpos
  have hlen:=onG_len (q:=fun k=>decide (k=line)) (n:=100000) (k:=1000) (fun d h=>(hd d h).2) hl
  refine cj_if rfl (fun h=>absurd h (by simp)) (fun _=>?_)
  (repeat (first | refine cj_seq ?_ | refine cjr TT rfl ?_ | refine cj_skip ?_ | refine nj_then ?_))
  refine oj_own 0 1 4 rfl (ixCells_lt 0 X) rfl (by decide) fun g1=>?_
  refine oj_own 2 1 1 rfl (by (repeat' (first | exact trivial | refine AllLt.of ?_ | constructor))) rfl (by decide) fun g2=>?_
  refine oj_seal 0 rfl rfl rfl fun s2 hle2 hS1=>?_
  refine oj_seal 0 rfl rfl rfl fun s3 hle3 hS2=>?_
  have hg1:=row_of (sz:=4) rfl (ixCells_lt 0 X) hS1
  have hg2:=cell1_of hS2
  have hg1:∀ (j:Nat) c,(ixCells X)[j]?=some c->s3.cell ((⟨g1,0,none⟩:Addr).add j)=some (c.den β0):=fun j c h=>hle3.cell (hg1 j c h)
  have hle:=Snap.le_trans hle2 hle3
  have IX:=IX.mono hle
  have hm:=hle.cell hm
  have HW:=HW.mono hle
  refine oj_set 12 (.agg (ixCells X)) rfl (ixCells_lt _ _) (fun _=>rfl) ?_
  refine oj_callF [] (A0:=[]) (Ar:=[]) (ys:=[.agg (ixCells X),.a (.v (.int .i64 line))]) rfl rfl rfl rfl rfl rfl rfl Tryz.call100 ⟨ixCells_lt 0 X,trivial,trivial⟩ (Of_f s3 X IX hl hd line) fun v s4 A' hle4 ⟨oo,oc,hv,hoc,hA⟩=>⟨.a (.v (.slice oo (onG (fun k=>decide (k=line)) X.ds).length oc)),trivial,hv.symm,?_⟩
  subst hA
  generalize onG (fun k=>decide (k=line)) X.ds=L at *
  have ef:(L.filter fun x=>!(!decide (ixB X.ds x=pbytes p)))=eqG X.ds line p:=by
    rw [e]
    simp only [Bool.not_not]
  have hfl:(SV.a (.fn (.func 119) [.val (.pointer (some ⟨g1,0,none⟩)),.val (.pointer (some ⟨g2,0,none⟩))])).lt 0:=fun x hx=>by
    simp only [List.mem_cons,List.not_mem_nil,or_false] at hx
    rcases hx with rfl | rfl<;>trivial
  refine oj_run TT rfl ?_
  refine oj_callF [0] (A0:=[itE oo oc L]) (Ar:=[]) (ys:=[.a (.v (.slice oo L.length oc)),.a (.fn (.func 119) [.val (.pointer (some ⟨g1,0,none⟩)),.val (.pointer (some ⟨g2,0,none⟩))])]) rfl rfl rfl rfl rfl rfl rfl Tryz.call118 ⟨trivial,hfl,trivial⟩
    (DeleteFunc_c s4 L (by omega) oo oc hoc 119 [.val (.pointer (some ⟨g1,0,none⟩)),.val (.pointer (some ⟨g2,0,none⟩))] ⟨trivial,trivial,trivial⟩ Tryz.call119 hfl (fun x=>!decide (ixB X.ds x=pbytes p)) fun s hs z=>Equal1_c s m ((Snap.le_trans hle4 hs).cell hm) X (IX.mono (Snap.le_trans hle4 hs)) (by omega) ho hF g1 (fun j c h=>(Snap.le_trans hle4 hs).cell (hg1 j c h)) g2 (pbytes p) (some wa) wc ((Snap.le_trans hle4 hs).cell hg2) (HW.mono (Snap.le_trans hle4 hs)) z)
    fun v s5 A' hle5 ⟨to,tc,hv,htc,hA⟩=>⟨.a (.v (.slice to (L.filter fun x=>!(!decide (ixB X.ds x=pbytes p))).length tc)),trivial,hv.symm,?_⟩
  subst hA
  rw [ef] at htc ⊢
  refine oj_run TT rfl ?_
  (repeat (first | refine oj_then ?_ | refine cj_ret ?_))
  refine nj_seal 0 rfl rfl fun s6 hle6 hS=>?_
  refine nj_ret TT rfl fun β w' _ _=>?_
  exact ⟨to,tc,rfl,it_sealed hS htc⟩
def numV (c:UInt8):GVal:=.mk 2 false ⟨false,mkB [c],0⟩ emptyS [] [] []
def aw19 (c:UInt8):GVal:=.mk 5 false dec0 emptyS [] [⟨#[97]⟩] [numV c]
theorem numV_rep (σ:Snap) (c:UInt8):RepV σ (numV c) (vCells (numV c) none 0 none 0):=by
  simp only [numV,RepV]
  exact ⟨none,0,[],none,0,[],rfl,SlAt.nil _ _ _ _,rfl,rfl,SlAt.nil _ _ _ _,rfl,(by rw [mkB_size];show 1<=mostLen;decide),by decide,by decide,by decide,fun k h=>(by cases h)⟩
def aw19L (c:UInt8):List GRec:=[⟨1,4,0,5,false,emptyS,false,dec0,emptyS⟩,⟨2,3,1,2,true,⟨#[97]⟩,false,⟨false,mkB [c],0⟩,emptyS⟩]
theorem aw19_shred1:shredG (aw19 49) 1=(aw19L 49,0):=by decide
theorem aw19_shred2:shredG (aw19 50) 1=(aw19L 50,0):=by decide
theorem aw19_sound1:soundG (aw19L 49)=true:=by decide
theorem aw19_sound2:soundG (aw19L 50)=true:=by decide
theorem aw19_ok1:RecsOk (aw19L 49):=⟨by decide,fun r hr=>by simp only [aw19L,List.mem_cons,List.not_mem_nil,or_false] at hr;rcases hr with rfl | rfl<;>exact ⟨by decide,by decide,by decide⟩,fun _=>by decide⟩
theorem aw19_ok2:RecsOk (aw19L 50):=⟨by decide,fun r hr=>by simp only [aw19L,List.mem_cons,List.not_mem_nil,or_false] at hr;rcases hr with rfl | rfl<;>exact ⟨by decide,by decide,by decide⟩,fun _=>by decide⟩
theorem aw19_levels (c:UInt8):levelsOk 0 (aw19L c):=by
  refine ⟨by decide,by decide,?_⟩
  exact ⟨by show (0:Int)<=1;decide,by show (1:Int)<=(((0:Int).toNat+1:Nat):Int);decide,trivial⟩
theorem aw19_paths1:pathsG (aw19L 49)=[[],[aS]]:=by decide
theorem aw19_paths2:pathsG (aw19L 50)=[[],[aS]]:=by decide
theorem aw19_list {ps:List SRow} (h:ps.map SRow.ss=[[],[aS]]):∃ a0 c0 a1 c1,ps=[⟨a0,c0,[]⟩,⟨a1,c1,[aS]⟩]:=by
  match ps,h with
  | [⟨a0,c0,s0⟩,⟨a1,c1,s1⟩],h =>
    simp only [List.map_cons,List.map_nil,List.cons.injEq,and_true] at h
    obtain ⟨rfl,rfl⟩:=h
    exact ⟨a0,c0,a1,c1,rfl⟩
theorem aw19_add2 (a0:Option Addr) (c0:Nat) (a1:Option Addr) (c1:Nat) (b0:Option Addr) (d0:Nat) (b1:Option Addr) (d1:Nat):addAll ⟨[⟨0,a0,c0,[],1⟩,⟨1,a1,c1,[aS],1⟩],2,[]⟩ [⟨b0,d0,[]⟩,⟨b1,d1,[aS]⟩]=⟨[⟨0,a0,c0,[],2⟩,⟨1,a1,c1,[aS],2⟩],2,[0,1]⟩:=rfl
def two19:GPart:=⟨2,false,⟨false,mkB [50],0⟩,emptyB,0⟩
theorem aw19_of (o1:Option Addr) (c1:Nat) (l1:Option Addr) (k1:Nat) (o2:Option Addr) (c2:Nat) (l2:Option Addr) (k2:Nat) :
    onG (fun k=>decide (k=1)) [⟨1,o1,c1,aw19L 49,l1,k1,[0,1]⟩,⟨2,o2,c2,aw19L 50,l2,k2,[0,1]⟩]=[⟨1,1,2,3,1⟩,⟨2,1,2,3,1⟩]:=rfl
theorem aw19_eq (o1:Option Addr) (c1:Nat) (l1:Option Addr) (k1:Nat) (o2:Option Addr) (c2:Nat) (l2:Option Addr) (k2:Nat) :
    eqG [⟨1,o1,c1,aw19L 49,l1,k1,[0,1]⟩,⟨2,o2,c2,aw19L 50,l2,k2,[0,1]⟩] 1 two19=[⟨2,1,2,3,1⟩]:=by
  have h1:ixB [⟨1,o1,c1,aw19L 49,l1,k1,[0,1]⟩,⟨2,o2,c2,aw19L 50,l2,k2,[0,1]⟩] ⟨1,1,2,3,1⟩=pbytes ⟨2,false,⟨false,mkB [49],0⟩,emptyB,0⟩:=rfl
  have h2:ixB [⟨1,o1,c1,aw19L 49,l1,k1,[0,1]⟩,⟨2,o2,c2,aw19L 50,l2,k2,[0,1]⟩] ⟨2,1,2,3,1⟩=pbytes two19:=rfl
  unfold eqG
  rw [aw19_of,if_pos (by decide),List.filter_cons,h1,if_neg (by decide),List.filter_cons,h2,if_pos (by decide)]
  rfl
end Go.Sy
namespace Go.Sy
open Go.Proofs
set_option maxRecDepth 100000 in
set_option maxHeartbeats 4000000 in
theorem awake19_c (σ:Snap) (m:Int) (hm:σ.cell ⟨0,0,none⟩=some (.int .i64 m)):PureS Tryz.prog 35 [] σ (fun v _=>v=.bool true):=by
  refine enter_s Tryz.func35 rfl rfl (by (repeat' exact trivial)) fun w=>?_
  (repeat (first | refine cj_seq ?_ | refine cjr TT rfl ?_ | refine oj_then ?_))
  refine oj_own 2 1 9 rfl (by (repeat' (first | exact trivial | refine AllLt.of ?_ | constructor))) rfl (by decide) fun g1=>?_
  refine oj_seal 0 rfl rfl rfl fun s1 hle1 hS=>?_
  have H1:SlAt s1 (some ⟨g1,0,none⟩) 1 1 9 (keyRows [⟨#[97]⟩] [vCells (numV 49) none 0 none 0]):=hS.sl (rows:=keyRows [⟨#[97]⟩] [vCells (numV 49) none 0 none 0]) rfl (fun r hr=>by
    simp only [keyRows,List.mem_singleton] at hr
    subst hr
    exact ⟨rfl,by (repeat' (first | exact trivial | refine AllLt.of ?_ | constructor))⟩) rfl rfl (Nat.le_refl _)
  have R1:RepV s1 (aw19 49) (vCells (aw19 49) none 0 (some ⟨g1,0,none⟩) 1):=by
    simp only [aw19,RepV]
    exact ⟨none,0,[],some ⟨g1,0,none⟩,1,_,rfl,SlAt.nil _ _ _ _,rfl,rfl,H1,⟨_,_,rfl,numV_rep s1 49,rfl⟩,by decide,by decide,by decide,by decide,fun k h=>(by rw [List.mem_singleton.1 h];decide)⟩
  refine oj_run TT rfl ?_
  refine oj_set 19 (.agg (vCells (aw19 49) none 0 (some ⟨g1,0,none⟩) 1)) rfl (vCells_lt _ _ _ _ _ _) (fun _=>rfl) ?_
  refine oj_callS rfl rfl rfl rfl rfl Tryz.call39 ⟨vCells_lt _ _ _ _ _ _,trivial,trivial⟩ (Shred_s s1 (aw19 49) _ 1 R1 (by decide)) fun v s2 hle2 ⟨ao,cap,hv,HA⟩=>⟨.tup [.a (.v (.slice ao 2 cap)),.a (.v (.int .i64 0))],(by (repeat' (first | exact trivial | refine SV.lt_tup ?_ | constructor))),(by rw [hv,aw19_shred1];rfl),?_⟩
  rw [aw19_shred1] at HA
  have HA:SlAt s2 ao 2 cap 11 (recRows (aw19L 49)):=HA
  refine oj_run TT rfl ?_
  (repeat (first | refine cj_seq ?_ | refine cjr TT rfl ?_ | refine oj_then ?_))
  refine oj_own 3 1 9 rfl (by (repeat' (first | exact trivial | refine AllLt.of ?_ | constructor))) rfl (by decide) fun g2=>?_
  refine oj_seal 0 rfl rfl rfl fun s3 hle3 hS=>?_
  have H2:SlAt s3 (some ⟨g2,0,none⟩) 1 1 9 (keyRows [⟨#[97]⟩] [vCells (numV 50) none 0 none 0]):=hS.sl (rows:=keyRows [⟨#[97]⟩] [vCells (numV 50) none 0 none 0]) rfl (fun r hr=>by
    simp only [keyRows,List.mem_singleton] at hr
    subst hr
    exact ⟨rfl,by (repeat' (first | exact trivial | refine AllLt.of ?_ | constructor))⟩) rfl rfl (Nat.le_refl _)
  have R2:RepV s3 (aw19 50) (vCells (aw19 50) none 0 (some ⟨g2,0,none⟩) 1):=by
    simp only [aw19,RepV]
    exact ⟨none,0,[],some ⟨g2,0,none⟩,1,_,rfl,SlAt.nil _ _ _ _,rfl,rfl,H2,⟨_,_,rfl,numV_rep s3 50,rfl⟩,by decide,by decide,by decide,by decide,fun k h=>(by rw [List.mem_singleton.1 h];decide)⟩
  have HA:=HA.mono hle3
  refine oj_run TT rfl ?_
  refine oj_set 27 (.agg (vCells (aw19 50) none 0 (some ⟨g2,0,none⟩) 1)) rfl (vCells_lt _ _ _ _ _ _) (fun _=>rfl) ?_
  refine oj_callS rfl rfl rfl rfl rfl Tryz.call39 ⟨vCells_lt _ _ _ _ _ _,trivial,trivial⟩ (Shred_s s3 (aw19 50) _ 1 R2 (by decide)) fun v s4 hle4 ⟨bo,bc,hv,HB⟩=>⟨.tup [.a (.v (.slice bo 2 bc)),.a (.v (.int .i64 0))],(by (repeat' (first | exact trivial | refine SV.lt_tup ?_ | constructor))),(by rw [hv,aw19_shred2];rfl),?_⟩
  rw [aw19_shred2] at HB
  have HB:SlAt s4 bo 2 bc 11 (recRows (aw19L 50)):=HB
  have HA:=HA.mono hle4
  refine oj_run TT rfl ?_
  (repeat (first | refine cj_seq ?_ | refine cjr TT rfl ?_ | refine oj_then ?_))
  refine oj_callP rfl rfl rfl rfl rfl Tryz.call38 (by (repeat' exact trivial)) (New_c s4) fun v hv=>⟨.agg (ixCells ix0),ixCells_lt _ _,hv.symm,?_⟩
  refine oj_run TT rfl ?_
  refine oj_callS (ys:=[.agg (ixCells ix0),.agg [.v (.int .i64 1),.v (.slice ao 2 cap)]]) rfl rfl rfl rfl rfl Tryz.call40 ⟨ixCells_lt 0 ix0,(by (repeat' (first | exact trivial | refine AllLt.of ?_ | constructor))),trivial⟩
    (IxAdd_x s4 ix0 (ix0_at s4) IdxP.nil 1 (aw19L 49) aw19_ok1 (by decide) aw19_sound1 (aw19_levels 49) ao cap HA (fun d h=>by cases h) (by decide) 0 ⟨Nat.le_refl _,Nat.le_refl _,by decide,fun _ h=>(by cases h)⟩ (by decide))
    fun v s5 hle5 ⟨X1,hv,I1,P1,_,F1,lo1,lc1,ps1,hps1,hds1,hxs1,hnx1⟩=>⟨.tup [.agg (ixCells X1),.a (.v (.int .i64 0))],(by intro x hx;simp only [List.mem_cons,List.not_mem_nil,or_false] at hx;rcases hx with rfl | rfl;exact ixCells_lt 0 X1;trivial),hv.symm,?_⟩
  rw [aw19_paths1] at hps1
  obtain ⟨a0,c0,a1,c1,rfl⟩:=aw19_list hps1
  have hds1:X1.ds=[⟨1,ao,cap,aw19L 49,lo1,lc1,[0,1]⟩]:=hds1
  have hxs1:X1.xs=[⟨0,a0,c0,[],1⟩,⟨1,a1,c1,[aS],1⟩]:=hxs1
  have hnx1:X1.next=2:=hnx1
  have HB:=HB.mono hle5
  refine oj_run TT rfl ?_
  (repeat (first | refine cj_seq ?_ | refine cjr TT rfl ?_ | refine oj_then ?_))
  refine oj_set 39 (.agg (ixCells X1)) rfl (ixCells_lt _ _) (fun _=>rfl) ?_
  refine oj_callS (ys:=[.agg (ixCells X1),.agg [.v (.int .i64 2),.v (.slice bo 2 bc)]]) rfl rfl rfl rfl rfl Tryz.call40 ⟨ixCells_lt 0 X1,(by (repeat' (first | exact trivial | refine AllLt.of ?_ | constructor))),trivial⟩
    (IxAdd_x s5 X1 I1 P1 2 (aw19L 50) aw19_ok2 (by decide) aw19_sound2 (aw19_levels 50) bo bc HB (fun d h=>by rw [hds1,List.mem_singleton] at h;subst h;show (1:Int)<2;decide) (by rw [hds1];show 1<=1000;decide) _ F1 (by decide))
    fun v s6 hle6 ⟨X,hv,IX,PX,_,FX,lo2,lc2,ps2,hps2,hds2,_,_⟩=>⟨.tup [.agg (ixCells X),.a (.v (.int .i64 0))],(by intro x hx;simp only [List.mem_cons,List.not_mem_nil,or_false] at hx;rcases hx with rfl | rfl;exact ixCells_lt 0 X;trivial),hv.symm,?_⟩
  rw [aw19_paths2] at hps2
  obtain ⟨b0,d0,b1,d1,rfl⟩:=aw19_list hps2
  rw [hxs1,hnx1,aw19_add2,hds1] at hds2
  have hds:X.ds=[⟨1,ao,cap,aw19L 49,lo1,lc1,[0,1]⟩,⟨2,bo,bc,aw19L 50,lo2,lc2,[0,1]⟩]:=hds2
  have hd:∀ d∈X.ds,d.ids.length=d.L.length/\d.L.length<=100000:=fun d h=>by
    rw [hds] at h
    simp only [List.mem_cons,List.not_mem_nil,or_false] at h
    rcases h with rfl | rfl<;>exact ⟨rfl,by show 2<=_;omega⟩
  have hlen:X.ds.length=2:=by rw [hds];rfl
  have hF:FitIx X:=fun d h r hr=>by
    rw [hds] at h
    simp only [List.mem_cons,List.not_mem_nil,or_false] at h
    rcases h with rfl | rfl<;>(simp only [aw19L,List.mem_cons,List.not_mem_nil,or_false] at hr;rcases hr with rfl | rfl<;>exact ⟨by decide,by decide⟩)
  have hO:=aw19_of ao cap lo1 lc1 bo bc lo2 lc2
  have hQ:=aw19_eq ao cap lo1 lc1 bo bc lo2 lc2
  rw [<-hds] at hO hQ
  have hOf:=Of_f s6 X IX (by omega) hd 1
  have hEq:=fun (s:Snap) (hle:s6.le s)=>EqualIx_c s m ((Snap.le_trans hle1 (Snap.le_trans hle2 (Snap.le_trans hle3 (Snap.le_trans hle4 (Snap.le_trans hle5 (Snap.le_trans hle6 hle)))))).cell hm) X (IX.mono hle) (by omega) hd PX.ord hF 1 two19 ⟨by decide,by decide⟩
  rw [hO] at hOf
  rw [hQ] at hEq
  refine oj_run TT rfl ?_
  (repeat (first | refine cj_seq ?_ | refine cjr TT rfl ?_ | refine oj_then ?_))
  refine oj_split 47 rfl (fun _=>?_) (fun h=>absurd h (by decide))
  refine oj_run TT rfl ?_
  refine oj_split 51 rfl (fun _=>?_) (fun h=>absurd h (by decide))
  refine oj_run TT rfl ?_
  refine oj_set 52 (.agg (ixCells X)) rfl (ixCells_lt _ _) (fun _=>rfl) ?_
  refine oj_callF [] (A0:=[]) (Ar:=[]) (ys:=[.agg (ixCells X),.a (.v (.int .i64 1))]) rfl rfl rfl rfl rfl rfl rfl Tryz.call100 ⟨ixCells_lt 0 X,trivial,trivial⟩ hOf fun v s7 A' hle7 ⟨oo,oc,hv,hoc,hA⟩=>⟨.a (.v (.slice oo 2 oc)),trivial,hv.symm,?_⟩
  subst hA
  refine oj_run TT rfl ?_
  refine oj_split 57 rfl (fun _=>?_) (fun h=>absurd h (by decide))
  refine oj_run TT rfl ?_
  refine oj_set 58 (.agg (ixCells X)) rfl (ixCells_lt _ _) (fun _=>rfl) ?_
  refine oj_set 61 (.agg (paCells two19)) rfl (paCells_lt _ _) (fun _=>rfl) ?_
  refine oj_callS (ys:=[.agg (ixCells X),.a (.v (.int .i64 1)),.agg (paCells two19)]) rfl rfl rfl rfl rfl Tryz.call46 ⟨ixCells_lt 0 X,trivial,paCells_lt 0 _,trivial⟩ (hEq s7 hle7) fun v s8 hle8 ⟨po,pc,hv,_⟩=>⟨.a (.v (.slice po 1 pc)),trivial,hv.symm,?_⟩
  refine oj_run TT rfl ?_
  (repeat (first | refine oj_then ?_ | refine cj_ret ?_))
  refine nj_ret TT rfl fun β w' _ _=>?_
  rfl
end Go.Sy
namespace Go.Sy
open Go.Proofs
theorem und122:Tryz.prog.underlying 122=some (.struct (Tryz.prog.fieldsOf 122)):=by kernel_rfl
theorem eqItem19_ok (m:Nat) (a b:GItem) (w:World):(Op.equalIn (m+1+1) 122 (.agg (itVals a)) (.agg (itVals b))).run Tryz.prog w=.ok (decide (a=b)) w:=by
  rw [run_equalIn_agg w (m+1) 122 _ _ und122 (by kernel_rfl)]
  have h:fieldsAre (Tryz.prog.fieldsOf 122).toList [(3,0),(3,1),(3,2),(3,3),(3,4)]=true:=by kernel_rfl
  generalize (Tryz.prog.fieldsOf 122).toList=fl at h
  obtain ⟨f0,fl,rfl,n0,t0,o0,h⟩:=fieldsAre_cons h
  obtain ⟨f1,fl,rfl,n1,t1,o1,h⟩:=fieldsAre_cons h
  obtain ⟨f2,fl,rfl,n2,t2,o2,h⟩:=fieldsAre_cons h
  obtain ⟨f3,fl,rfl,n3,t3,o3,h⟩:=fieldsAre_cons h
  obtain ⟨f4,fl,rfl,n4,t4,o4,h⟩:=fieldsAre_cons h
  cases fl with
  | cons _ _=>cases h
  | nil =>
    have ii:∀ (f:Field) (o:Nat) (r:GItem) (x:Int),f.type=3->f.offset=o->(itVals r)[o]?=some (.int .i64 x)->(part f.type (itVals r) f.offset).run Tryz.prog w=.ok (.int .i64 x) w:=fun f o r x ht ho hx=>run_part1 (by rw [ht];exact und3) rfl (by rw [ho];exact hx)
    rw [eqFields_cons (r:=a.doc == b.doc) n0 (ii f0 0 a _ t0 o0 rfl) (ii f0 0 b _ t0 o0 rfl) (run_equalIn_int w m f0.type .i64 .i64 a.doc b.doc (by rw [t0];exact und3))]
    rw [eqFields_cons (r:=a.at_ == b.at_) n1 (ii f1 1 a _ t1 o1 rfl) (ii f1 1 b _ t1 o1 rfl) (run_equalIn_int w m f1.type .i64 .i64 a.at_ b.at_ (by rw [t1];exact und3))]
    rw [eqFields_cons (r:=a.st == b.st) n2 (ii f2 2 a _ t2 o2 rfl) (ii f2 2 b _ t2 o2 rfl) (run_equalIn_int w m f2.type .i64 .i64 a.st b.st (by rw [t2];exact und3))]
    rw [eqFields_cons (r:=a.en == b.en) n3 (ii f3 3 a _ t3 o3 rfl) (ii f3 3 b _ t3 o3 rfl) (run_equalIn_int w m f3.type .i64 .i64 a.en b.en (by rw [t3];exact und3))]
    rw [eqFields_cons (r:=a.lv == b.lv) n4 (ii f4 4 a _ t4 o4 rfl) (ii f4 4 b _ t4 o4 rfl) (run_equalIn_int w m f4.type .i64 .i64 a.lv b.lv (by rw [t4];exact und3))]
    simp only [Op.eqFields,Sem.run_pure]
    have:(decide (a=b))=(a.doc == b.doc&&(a.at_ == b.at_&&(a.st == b.st&&(a.en == b.en&&(a.lv == b.lv))))):=by
      rw [Bool.eq_iff_iff]
      cases a;cases b
      simp
    rw [this]
    cases (a.doc == b.doc)<;>cases (a.at_ == b.at_)<;>cases (a.st == b.st)<;>cases (a.en == b.en)<;>cases (a.lv == b.lv)<;>rfl
section
variable {cf:Cf} {Q:Exit->Act->World->Prop} {σ:Snap} {env:Env} {hp:HP} {A:List AE} {nh:Nat} {it:Item} {rest:List Item}
theorem oj_neItem19 {d:Nat} {x y:Operand} {yt:TypeId} (a b:GItem) (hP:cf.P=Tryz.prog)
    (hop:it.o.op=.binOp .neq 122 x y yt) (hd:it.o.dst=some d) (hg:guardVal it.guard env=some true) (hN:Nat.blt d cf.N=true) (hx:evalO env x=some (.agg (itCells a))) (hy:evalO env y=some (.agg (itCells b)))
    (hk:OJ cf rest Q σ ((d,.a (.b (!decide (a=b))))::env) hp A nh):OJ cf (it::rest) Q σ env hp A nh:=by
  refine oj_val (.a (.b (!decide (a=b)))) hd hg hN trivial (fun _ ac β ha w=>?_) hk
  have h1:ac.eval x=.agg (itVals a):=evalO_eval ha hx
  have h2:ac.eval y=.agg (itVals b):=evalO_eval ha hy
  rw [hP]
  have hG:(eqGuard .neq 122 x y (.agg (itVals a)) (.agg (itVals b))).run Tryz.prog w=.ok () w:=run_eqGuard_agg w _ _ _ _ _ _ (by kernel_rfl)
  have hE:(Op.equalIn 10000 122 (.agg (itVals a)) (.agg (itVals b))).run Tryz.prog w=.ok (decide (a=b)) w:=eqItem19_ok 9998 a b w
  have hB:(binOp .neq 122 (.agg (itVals a)) (.agg (itVals b))).run Tryz.prog w=.ok (.bool (!decide (a=b))) w:=by
    rw [run_neq_struct,hE]
    rfl
  simp only [execOp,hop,h1,h2,Sem.run_bind,hG,hB,Result.andThen_ok,Sem.run_pure]
  rfl
end
def it9E (ao:Option Addr) (cap:Nat) (l:List GItem):AE:=⟨ao,l.length,cap,122,5,itXs l⟩
theorem it9_sealed {σ:Snap} {ao:Option Addr} {cap:Nat} {l:List GItem} (hS:ArrSealed σ (it9E ao cap l)) (hc:l.length<=cap):SlAt σ ao l.length cap 5 (itRows l) :=
  hS.sl rfl (fun r hr=>⟨(itRows_all l r hr).1,(itRows_all l r hr).2.1⟩) (by simp [itRows]) rfl hc
structure It9S where
  k:Nat
  oo:Option Addr
  oc:Nat
set_option maxRecDepth 100000 in
set_option maxHeartbeats 1000000 in
theorem theirs19_c (σ:Snap) (xs:List GItem) (hl:xs.length<=100000000) (ao:Option Addr) (cap:Nat) (H:SlAt σ ao xs.length cap 5 (itRows xs)) :
    PureS Tryz.prog 44 [.a (.v (.slice ao xs.length cap))] σ (fun v σ'=>∃ bo bc,v=.slice bo xs.length bc/\SlAt σ' bo xs.length bc 5 (itRows xs)):=by
  refine enter_s Tryz.func44 rfl rfl (by (repeat' (first | exact trivial | constructor))) fun w=>?_
  (repeat (first | refine cj_seq ?_ | refine cjr TT rfl ?_ | refine oj_then ?_ | refine cj_block ?_))
  refine cj_nilarr 122 5 ?_
  refine cj_loop (fun (_:It9S)=>σ) (fun t=>[(0,.a (.v (.slice ao xs.length cap))),(3,.a (.v (.slice t.oo (xs.take t.k).length t.oc))),(4,.a (.v (.int .i64 (t.k:Nat))))]) (fun _=>[]) (fun t=>[it9E t.oo t.oc (xs.take t.k)]) 0
    (fun t=>t.k<=xs.length/\t.k<=t.oc) (fun t=>xs.length - t.k) ⟨0,none,0⟩ ⟨Nat.zero_le _,Nat.le_refl _⟩ rfl (by (repeat first | exact trivial | refine ⟨rfl,?_⟩)) (by (repeat first | exact trivial | refine ⟨rfl,?_⟩)) rfl (by (repeat' (first | exact trivial | constructor))) (by (repeat' exact trivial)) fun ⟨k,bo,bc⟩ ⟨hk,hbc⟩=>?_
  dsimp only at hk hbc ⊢
  (repeat (first | refine cj_seq ?_ | refine cjr TT rfl ?_ | refine oj_then ?_))
  refine cj_if rfl (fun h=>?_) (fun h=>?_)
  rotate_left
  · have hk0:k=xs.length:=by have:=of_decide_eq_false h;omega
    subst hk0
    rw [List.take_length]
    (repeat (first | refine cj_seq ?_ | refine cjr TT rfl ?_ | refine oj_then ?_ | refine cj_exit ?_ | refine cj_ret ?_ | refine nj_then ?_ | refine nj_then_exit ?_ | refine nj_block_out ?_))
    refine nj_seal 0 rfl rfl fun s2 hle2 hS=>?_
    refine nj_ret TT rfl fun β w' _ _=>?_
    exact ⟨bo,bc,rfl,it9_sealed hS hbc⟩
  have hkl:k<xs.length:=by have:=of_decide_eq_true h;omega
  have hra:=itRows_get (List.getElem?_eq_getElem hkl)
  have htk:xs.take (k+1)=xs.take k++[xs[k]]:=List.take_succ_eq_append_getElem hkl
  have hlk:(xs.take k).length=k:=by rw [List.length_take];omega
  generalize xs[k]=x at *
  have hlk1:(xs.take (k+1)).length=k+1:=by rw [List.length_take];omega
  have hE0:it9E bo bc (xs.take k)=⟨bo,k,bc,122,5,itXs (xs.take k)⟩:=by unfold it9E;rw [hlk]
  rw [hlk,hE0]
  (repeat (first | refine cj_seq ?_ | refine cj_skip ?_ | refine cj_block ?_ | refine nj_then ?_))
  refine cj_draw [(0,.pure),(1,.pure),(2,.pure),(3,.pure),(4,.pure),(5,.quiet),(6,.pure),(7,.pure),(8,.pure),(9,.pure),(10,.quiet),(11,.pure),(12,.pure),(13,.pure),(14,.pure),(15,.quiet),(16,.pure),(17,.pure),(18,.pure),(19,.pure),(20,.quiet),(21,.pure),(22,.pure),(23,.pure),(24,.pure),(25,.quiet),(26,.pure),(27,.keep),(28,.sink),(29,.pure)] mixed (by kernel_rfl) (oj_run TT rfl ?_)
  refine oj_idx TT rfl rfl rfl rfl rfl rfl rfl rfl rfl H (by omega) hra (oj_run TT rfl ?_)
  refine oj_idx TT rfl rfl rfl rfl rfl rfl rfl rfl rfl H (by omega) hra (oj_run TT rfl ?_)
  refine oj_idx TT rfl rfl rfl rfl rfl rfl rfl rfl rfl H (by omega) hra (oj_run TT rfl ?_)
  refine oj_idx TT rfl rfl rfl rfl rfl rfl rfl rfl rfl H (by omega) hra (oj_run TT rfl ?_)
  refine oj_idx TT rfl rfl rfl rfl rfl rfl rfl rfl rfl H (by omega) hra (oj_run TT rfl ?_)
  refine oj_append_lit TT 0 rfl rfl rfl rfl rfl rfl rfl rfl rfl rfl rfl rfl rfl rfl rfl rfl rfl rfl (by (repeat' (first | exact trivial | refine AllLt.of ?_ | constructor))) rfl (by omega) (by show (k+1)*40<=_;omega) fun ao' cap' hcap'=>oj_run TT rfl ?_
  (repeat (first | refine cjr TT rfl ?_ | refine oj_nil ?_ | refine nj_then ?_ | refine nj_block ?_ | (refine oj_add rfl rfl rfl rfl rfl rfl (by omega) ?_;refine oj_run TT rfl ?_)))
  refine nj_again (⟨k+1,ao',cap'⟩:It9S) ⟨hkl,hcap'⟩ (by dsimp only;omega) rfl ?_ (by (repeat first | exact trivial | refine ⟨rfl,?_⟩)) ?_ (by (repeat' (first | exact trivial | constructor))) (by (repeat' exact trivial))
  · dsimp only
    rw [hlk1]
    (repeat first | exact trivial | refine ⟨rfl,?_⟩)
  · show [_]=[_]
    dsimp only
    unfold it9E
    rw [hlk1,htk,itXs_append]
    rfl
set_option maxRecDepth 100000 in
set_option maxHeartbeats 1000000 in
theorem Same19_c (σ:Snap) (a b:List GItem) (hl:a.length<=140737488355328) (ao:Option Addr) (ac:Nat) (HA:SlAt σ ao a.length ac 5 (itRows a)) (bo:Option Addr) (bc:Nat) (HB:SlAt σ bo b.length bc 5 (itRows b)) :
    PlainS Tryz.prog 43 [.a (.v (.slice ao a.length ac)),.a (.v (.slice bo b.length bc))] σ (fun v=>v=.bool (decide (a=b))):=by
  refine enter_p Tryz.func43 rfl rfl (by (repeat' (first | exact trivial | constructor))) fun w=>?_
  (repeat (first | refine cj_seq ?_ | refine cjr TT rfl ?_ | refine oj_then ?_))
  refine cj_if rfl (fun h=>?_) (fun h=>?_)
  · have h:(!decide ((a.length:Int)=b.length))=true:=h
    have hne:a≠b:=fun e=>by rw [e] at h;simp at h
    (repeat (first | refine cj_seq ?_ | refine cjr TT rfl ?_ | refine oj_then ?_ | refine cj_ret ?_ | refine nj_then_ret ?_))
    refine nj_ret TT rfl fun β w' _ _=>?_
    rw [decide_eq_false hne]
    rfl
  have hlen:a.length=b.length:=by
    have h:(!decide ((a.length:Int)=b.length))=false:=h
    simp at h
    omega
  (repeat (first | refine cj_seq ?_ | refine cjr TT rfl ?_ | refine oj_then ?_ | refine cj_skip ?_ | refine cj_block ?_ | refine nj_then ?_))
  refine cj_loop (fun (_:Nat)=>σ) (fun k=>[(0,.a (.v (.slice ao a.length ac))),(1,.a (.v (.slice bo b.length bc))),(5,.a (.v (.int .i64 k)))]) (fun _=>[]) (fun _=>[]) 0 (fun k=>k<=a.length/\a.take k=b.take k) (fun k=>a.length - k) 0 ⟨Nat.zero_le _,rfl⟩ rfl (by (repeat first | exact trivial | refine ⟨rfl,?_⟩)) (by (repeat first | exact trivial | refine ⟨rfl,?_⟩)) rfl (by (repeat' (first | exact trivial | constructor))) (by (repeat' exact trivial)) fun k ⟨hk,hw⟩=>?_
  (repeat (first | refine cj_seq ?_ | refine cjr TT rfl ?_ | refine oj_then ?_))
  refine cj_if rfl (fun h=>?_) (fun h=>?_)
  rotate_left
  · have hk0:k=a.length:=by have:=of_decide_eq_false h;omega
    rw [hk0,List.take_length,hlen,List.take_length] at hw
    (repeat (first | refine cj_seq ?_ | refine cjr TT rfl ?_ | refine oj_then ?_ | refine cj_exit ?_ | refine cj_ret ?_ | refine nj_then ?_ | refine nj_then_exit ?_ | refine nj_block_out ?_))
    refine nj_ret TT rfl fun β w' _ _=>?_
    rw [decide_eq_true hw]
    rfl
  have hkl:k<a.length:=by have:=of_decide_eq_true h;omega
  have hkb:k<b.length:=by omega
  have hra:=itRows_get (List.getElem?_eq_getElem hkl)
  have hrb:=itRows_get (List.getElem?_eq_getElem hkb)
  have hta:a.take (k+1)=a.take k++[a[k]]:=List.take_succ_eq_append_getElem hkl
  have htb:b.take (k+1)=b.take k++[b[k]]:=List.take_succ_eq_append_getElem hkb
  have hab:a=b->a[k]=b[k]:=fun e=>by subst e;rfl
  generalize a[k]=x at *
  generalize b[k]=y at *
  (repeat (first | refine cj_seq ?_ | refine cj_skip ?_ | refine cj_block ?_ | refine nj_then ?_))
  refine cj_draw [(0,.pure),(1,.pure),(2,.pure),(3,.quiet),(4,.pure),(5,.pure),(6,.pure),(7,.quiet),(8,.pure)] mixed (by kernel_rfl) (oj_run TT rfl ?_)
  refine oj_idx TT rfl rfl rfl rfl rfl rfl rfl rfl rfl HA (by omega) hra (oj_run TT rfl ?_)
  refine oj_idx TT rfl rfl rfl rfl rfl rfl rfl rfl rfl HB (by omega) hrb (oj_run TT rfl ?_)
  refine oj_neItem19 x y rfl rfl rfl rfl rfl rfl rfl (oj_run TT rfl ?_)
  (repeat refine oj_then ?_)
  refine cj_if rfl (fun h=>?_) (fun h=>?_)
  · have h:(!decide (x=y))=true:=h
    have hne:a≠b:=fun e=>by rw [hab e] at h;simp at h
    (repeat (first | refine cj_seq ?_ | refine cjr TT rfl ?_ | refine oj_then ?_ | refine cj_ret ?_ | refine nj_then_ret ?_ | refine nj_block_ret ?_))
    refine nj_ret TT rfl fun β w' _ _=>?_
    rw [decide_eq_false hne]
    rfl
  have hxy:x=y:=by
    have h:(!decide (x=y))=false:=h
    simpa using h
  (repeat (first | refine cjr TT rfl ?_ | refine oj_nil ?_ | refine cj_skip ?_ | refine nj_then ?_ | refine nj_block ?_ | (refine oj_add rfl rfl rfl rfl rfl rfl (by omega) ?_;refine oj_run TT rfl ?_)))
  refine nj_again (k+1) ⟨hkl,by rw [hta,htb,hw,hxy]⟩ (by omega) rfl (by (repeat first | exact trivial | refine ⟨rfl,?_⟩)) (by (repeat first | exact trivial | refine ⟨rfl,?_⟩)) rfl (by (repeat' (first | exact trivial | constructor))) (by (repeat' exact trivial))
end Go.Sy
/- Calls of what has no body. No program in sight. -/
namespace Go.Sy
theorem callee_run {cf:Cf} {env:Env} {β:Nat->Addr} {a:Act} {w:World} (ha:StA cf env β a) {o:Oper} {f:FuncId} {ys:List SV} {v:Value} (h:callee env o.op=some (f,ys))
    (hcall:(callFunc f (ys.map (SV.den β)).toArray).run cf.P w=.ok (.value v) w):(execOp a.eval o).run cf.P w=.ok (.value v) w:=by
  unfold callee at h
  split at h
  · rename_i c hop
    split at h
    · rename_i fo hcal
      split at h
      · rename_i g cap zs hf hz
        injection h with h
        simp only [Prod.mk.injEq] at h
        obtain ⟨rfl,rfl⟩:=h
        have h1:a.eval fo=.func (.func g) #[] (cap.map (PT.den β)).toArray:=evalO_eval ha hf
        have h2:c.args.map a.eval=(zs.map (SV.den β)).toArray:=by
          have:=evalL_ok ha _ _ hz
          rw [<-this,<-Array.toList_map]
        have h3:(zs.map (SV.den β)).toArray++(cap.map (PT.den β)).toArray=((zs++cap.map ptSV).map (SV.den β)).toArray:=by
          have:cap.map (SV.den β ∘ ptSV)=cap.map (PT.den β):=List.map_congr_left fun p _=>ptSV_den β p
          rw [List.map_append,List.map_map,this]
          exact List.append_toArray _ _
        simp only [execOp,hop,resolve,hcal,h1,h2,Deferred.ofValue,Sem.run_bind,Sem.run_pure,Result.andThen_ok,invoke,Array.empty_append,h3,hcall]
      · cases h
    · cases h
  · cases h
section
variable {cf:Cf} {Q:Exit->Act->World->Prop} {σ:Snap} {env:Env} {hp:HP} {A:List AE} {nh:Nat} {it:Item} {rest:List Item}
theorem oj_extern {d:Nat} {f:FuncId} {ys:List SV} (y:SV) (hc:callee env it.o.op=some (f,ys)) (hd:it.o.dst=some d) (hg:guardVal it.guard env=some true) (hN:Nat.blt d cf.N=true) (htag:(match it.tag with | .pure=>false | _=>true)=true) (hy:y.lt nh)
    (hrun:∀ (β:Nat->Addr) (w:World),StW cf σ hp A β w->(callFunc f (ys.map (SV.den β)).toArray).run cf.P w=.ok (Next.value (y.den β)) w)
    (k:OJ cf rest Q σ ((d,y)::env) hp A nh):OJ cf (it::rest) Q σ env hp A nh :=
  oj_valW y hd hg hN hy htag (fun _ _ β ha w hw=>callee_run ha hc (hrun β w hw)) k
end
end Go.Sy
/- bytealg.Compare of two sealed slices. No program in sight. -/
namespace Go.Sy
theorem bytesOf_sl {cf:Cf} {σ:Snap} {hp:HP} {A:List AE} {β:Nat->Addr} {w:World} (hw:StW cf σ hp A β w) {ao:Option Addr} {n cap:Nat} {l:List UInt8} (H:SlAt σ ao n cap 1 (u8Rows l)) :
    (Extern.Bytes.bytesOf (.slice ao n cap)).run cf.P w=.ok ⟨l.toArray⟩ w:=by
  have hn:l.length=n:=by rw [<-H.len,u8Rows_len]
  by_cases h0:n=0
  · have hl:l=[]:=List.eq_nil_of_length_eq_zero (by omega)
    subst hl
    subst h0
    cases ao<;>rfl
  rcases H.at_ with h1 | ⟨ad,rfl,h⟩
  · exact absurd h1 h0
  have h5:=Lib.run_loadBytesX (P:=cf.P) w (l.map fun u=>(u.toNat:Int)) ad .empty fun j x hx=>by
    rw [List.getElem?_map] at hx
    cases hl:l[j]? with
    | none=>rw [hl] at hx;cases hx
    | some u =>
      rw [hl] at hx
      obtain rfl:=Option.some.inj hx
      have:=Snap.cell_sealed hw (h j _ 0 _ (u8Rows_get hl) rfl)
      rw [Nat.mul_one,Nat.add_zero] at this
      exact this
  have h9:Lib.bytesOf (l.map fun u=>(u.toNat:Int))=l:=by
    unfold Lib.bytesOf
    rw [List.map_map]
    conv=>rhs;rw [<-List.map_id l]
    exact List.map_congr_left fun u _=>by simp
  rw [List.length_map,hn,h9] at h5
  show (Extern.Bytes.loadBytes ad n .empty).run cf.P w=_
  rw [h5]
  congr 1
  apply ByteArray.ext
  show (#[]:Array UInt8)++l.toArray=l.toArray
  simp
section
variable {cf:Cf} {Q:Exit->Act->World->Prop} {σ:Snap} {env:Env} {hp:HP} {A:List AE} {nh:Nat} {it:Item} {rest:List Item}
theorem oj_bcompare {d:Nat} {f:FuncId} {fn:Func} {ao bo:Option Addr} {n m cap bap:Nat} {l k:List UInt8} (hc:callee env it.o.op=some (f,[.a (.v (.slice ao n cap)),.a (.v (.slice bo m bap))])) (hd:it.o.dst=some d) (hg:guardVal it.guard env=some true) (hN:Nat.blt d cf.N=true) (htag:(match it.tag with | .pure=>false | _=>true)=true)
    (hf : cf.P.funcs[f]? = some fn) (h1 : (fn.name == "runtime.NumGoroutine") = false) (h2 : fn.body.isNone = true) (h3 : Extern.findNext fn = none) (h4 : Extern.find fn = some Extern.BytealgCompare.compare)
    (H:SlAt σ ao n cap 1 (u8Rows l)) (K:SlAt σ bo m bap 1 (u8Rows k)) (kk:OJ cf rest Q σ ((d,.a (.v (.int .i64 (Lib.compareBytes l k))))::env) hp A nh):OJ cf (it::rest) Q σ env hp A nh:=by
  refine oj_extern (.a (.v (.int .i64 (Lib.compareBytes l k)))) hc hd hg hN htag trivial (fun β w hw=>?_) kk
  rw [run_callFunc_extern hf h1 h2 h3 h4]
  show ((Extern.BytealgCompare.compare #[.slice ao n cap,.slice bo m bap]).run cf.P w).andThen _=.ok (Next.value (.int .i64 (Lib.compareBytes l k))) w
  have e1:=bytesOf_sl hw H
  have e2:=bytesOf_sl hw K
  have h5:(Extern.BytealgCompare.compare #[.slice ao n cap,.slice bo m bap]).run cf.P w=.ok (.int .i64 (Lib.compareBytes l k)) w:=by
    change Sem.run cf.P (do pure (goInt (Extern.BytealgCompare.cmp (<-Extern.Bytes.bytesOf (.slice ao n cap)) (<-Extern.Bytes.bytesOf (.slice bo m bap))))) w=_
    simp only [Sem.run_bind,Sem.run_pure,e1,e2,Result.andThen]
    rw [Lib.cmp_eq]
    rfl
  rw [h5]
  rfl
end
end Go.Sy
/- Plain law: lists that are sorted, and stand where they stood. No program in sight. -/
namespace Go.Sy
structure SWO {α:Type} (lt:α->α->Bool):Prop where
  asym:∀ x y,lt x y=true->lt y x=false
  tr:∀ x y z,lt y x=false->lt z y=false->lt z x=false
section
variable {α:Type} {lt:α->α->Bool}
def eqv (lt:α->α->Bool) (x y:α):Bool:=!lt x y&&!lt y x
def Srt (lt:α->α->Bool) (l:List α):Prop:=l.Pairwise fun x y=>lt y x=false
structure Stab (lt:α->α->Bool) (s l:List α):Prop where
  srt:Srt lt s
  cls:∀ x,s.filter (eqv lt x)=l.filter (eqv lt x)
theorem SWO.irr (h:SWO lt) (x:α):lt x x=false:=by
  cases e:lt x x with
  | false=>rfl
  | true=>rw [h.asym x x e] at e;cases e
theorem SWO.self (h:SWO lt) (x:α):eqv lt x x=true:=by unfold eqv;rw [h.irr x];rfl
theorem SWO.lt_le (h:SWO lt) {x y z:α} (h1:lt x y=true) (h2:lt z y=false):lt x z=true:=by
  cases e:lt x z with
  | true=>rfl
  | false =>
    have:=h.tr y z x h2 e
    rw [h1] at this
    cases this
theorem SWO.le_lt (h:SWO lt) {x y z:α} (h1:lt y x=false) (h2:lt y z=true):lt x z=true:=by
  cases e:lt x z with
  | true=>rfl
  | false =>
    have:=h.tr z x y e h1
    rw [h2] at this
    cases this
theorem Stab.mem (h:SWO lt) {s l:List α} (hs:Stab lt s l) {x:α}:x∈s↔x∈l:=by
  constructor
  · intro hx
    have:x∈s.filter (eqv lt x):=List.mem_filter.2 ⟨hx,h.self x⟩
    rw [hs.cls] at this
    exact (List.mem_filter.1 this).1
  · intro hx
    have:x∈l.filter (eqv lt x):=List.mem_filter.2 ⟨hx,h.self x⟩
    rw [<-hs.cls] at this
    exact (List.mem_filter.1 this).1
theorem Stab.refl {l:List α} (hl:Srt lt l):Stab lt l l:=⟨hl,fun _=>rfl⟩
theorem eqv_iff {x y:α}:eqv lt x y=true↔lt x y=false/\lt y x=false:=by simp [eqv]
theorem stab_uniq (h:SWO lt):∀ {s t:List α},Srt lt s->Srt lt t->(∀ x,s.filter (eqv lt x)=t.filter (eqv lt x))->s=t
  | [],[],_,_,_=>rfl
  | [],y::t,_,_,hc=>by
    have:=hc y
    rw [List.filter_nil,List.filter_cons,if_pos (h.self y)] at this
    cases this
  | x::s,[],_,_,hc=>by
    have:=hc x
    rw [List.filter_nil,List.filter_cons,if_pos (h.self x)] at this
    cases this
  | x::s,y::t,hs,ht,hc=>by
    obtain ⟨hs1,hs2⟩:=List.pairwise_cons.1 hs
    obtain ⟨ht1,ht2⟩:=List.pairwise_cons.1 ht
    have hmem:∀ {u v:List α} (hc:∀ x,u.filter (eqv lt x)=v.filter (eqv lt x)) {z:α},z∈u->z∈v:=fun hc z hz=>by
      have:z∈List.filter (eqv lt z) _:=List.mem_filter.2 ⟨hz,h.self z⟩
      rw [hc] at this
      exact (List.mem_filter.1 this).1
    have hyx:lt y x=false:=by
      rcases List.mem_cons.1 (hmem (fun z=>(hc z).symm) (List.mem_cons_self (a:=y) (l:=t))) with rfl | hy
      · exact h.irr _
      · exact hs1 y hy
    have hxy:lt x y=false:=by
      rcases List.mem_cons.1 (hmem hc (List.mem_cons_self (a:=x) (l:=s))) with rfl | hx
      · exact h.irr _
      · exact ht1 x hx
    have he:=hc x
    rw [List.filter_cons,List.filter_cons,if_pos (h.self x),if_pos (eqv_iff.2 ⟨hxy,hyx⟩)] at he
    injection he with he _
    subst he
    rw [stab_uniq h hs2 ht2 fun z=>?_]
    have:=hc z
    rw [List.filter_cons,List.filter_cons] at this
    split at this
    · injection this
    · exact this
theorem Stab.uniq (h:SWO lt) {s t l:List α} (hs:Stab lt s l) (ht:Stab lt t l):s=t:=stab_uniq h hs.srt ht.srt fun x=>by rw [hs.cls,ht.cls]
theorem Stab.ins (h:SWO lt) {P L:List α} (hs:Stab lt P L) {x:α} {k:Nat} (h1:∀ y∈P.drop k,lt x y=true) (h2:∀ y∈P.take k,lt x y=false):Stab lt (P.take k++x::P.drop k) (L++[x]):=by
  have hP:=hs.srt
  unfold Srt at hP
  rw [<-List.take_append_drop k P,List.pairwise_append] at hP
  obtain ⟨p1,p2,p3⟩:=hP
  refine ⟨?_,fun z=>?_⟩
  · unfold Srt
    rw [List.pairwise_append]
    refine ⟨p1,List.pairwise_cons.2 ⟨fun y hy=>h.asym _ _ (h1 y hy),p2⟩,fun a ha b hb=>?_⟩
    rcases List.mem_cons.1 hb with rfl | hb
    · exact h2 a ha
    · exact p3 a ha b hb
  · rw [List.filter_append,List.filter_append,<-hs.cls z,List.filter_cons]
    conv=>rhs;rw [<-List.take_append_drop k P,List.filter_append]
    rw [List.append_assoc]
    congr 1
    split
    · rename_i hz
      have:(P.drop k).filter (eqv lt z)=[]:=by
        rw [List.filter_eq_nil_iff]
        intro y hy hzy
        obtain ⟨e1,e2⟩:=eqv_iff.1 hz
        obtain ⟨e3,e4⟩:=eqv_iff.1 hzy
        have h3:=h1 y hy
        have h4:=h.le_lt e2 h3
        rw [e3] at h4
        cases h4
      rw [this,List.filter_cons,if_pos hz,List.filter_nil,List.nil_append]
    · rename_i hz
      rw [List.filter_cons,if_neg hz,List.filter_nil,List.append_nil]
theorem srt_le {P:List α} (h:SWO lt) (hP:Srt lt P) {k:Nat} {x y:α} (hy:P[k]?=some y) (hxy:lt x y=false):∀ z∈P.take (k+1),lt x z=false:=by
  intro z hz
  obtain ⟨i,hi,rfl⟩:=List.mem_iff_getElem.1 hz
  rw [List.length_take] at hi
  rw [List.getElem_take]
  obtain ⟨hk,rfl⟩:=List.getElem?_eq_some_iff.1 hy
  by_cases e:i=k
  · subst e;exact hxy
  · have:=List.pairwise_iff_getElem.1 hP i k (by omega) hk (by omega)
    exact h.tr _ _ _ this hxy
theorem Stab.sym (h:SWO lt) {A1 A2 B1 B2 S1 S2:List α} (hA:Srt lt (A1++A2)) (hB:Srt lt (B1++B2)) (h12:∀ a∈A1,∀ b∈B2,lt b a=false) (h21:∀ a∈A2,∀ b∈B1,lt b a=true)
    (s1:Stab lt S1 (A1++B1)) (s2:Stab lt S2 (A2++B2)):Stab lt (S1++S2) (A1++A2++(B1++B2)):=by
  refine ⟨?_,fun z=>?_⟩
  · unfold Srt at hA hB ⊢
    rw [List.pairwise_append] at hA hB ⊢
    refine ⟨s1.srt,s2.srt,fun x hx y hy=>?_⟩
    rw [s1.mem h,List.mem_append] at hx
    rw [s2.mem h,List.mem_append] at hy
    rcases hx with hx | hx<;>rcases hy with hy | hy
    · exact hA.2.2 x hx y hy
    · exact h12 x hx y hy
    · exact h.asym _ _ (h21 y hy x hx)
    · exact hB.2.2 x hx y hy
  · rw [List.filter_append,s1.cls,s2.cls]
    simp only [List.filter_append,List.append_assoc]
    congr 1
    rw [<-List.append_assoc,<-List.append_assoc]
    congr 1
    by_cases h1:A2.filter (eqv lt z)=[]
    · rw [h1,List.append_nil,List.nil_append]
    by_cases h2:B1.filter (eqv lt z)=[]
    · rw [h2,List.append_nil,List.nil_append]
    exfalso
    obtain ⟨a,ha⟩:=List.exists_mem_of_ne_nil _ h1
    obtain ⟨b,hb⟩:=List.exists_mem_of_ne_nil _ h2
    obtain ⟨ha,ea⟩:=List.mem_filter.1 ha
    obtain ⟨hb,eb⟩:=List.mem_filter.1 hb
    obtain ⟨e1,e2⟩:=eqv_iff.1 ea
    obtain ⟨e3,e4⟩:=eqv_iff.1 eb
    have h5:=h.tr a z b e1 e4
    rw [h21 a ha b hb] at h5
    cases h5
theorem Stab.two {s t u v w:List α} (h1:Stab lt s u) (h2:Stab lt t v) (h3:Stab lt w (s++t)):Stab lt w (u++v):=⟨h3.srt,fun x=>by rw [h3.cls,List.filter_append,List.filter_append,h1.cls,h2.cls]⟩
end
end Go.Sy
namespace Go.Sy
open Go.Proofs
set_option maxRecDepth 100000 in
set_option maxHeartbeats 1000000 in
theorem BCompare_c (σ:Snap) (a b:List UInt8) (ao:Option Addr) (ac:Nat) (HA:SlAt σ ao a.length ac 1 (u8Rows a)) (bo:Option Addr) (bc:Nat) (HB:SlAt σ bo b.length bc 1 (u8Rows b)) :
    PlainS Tryz.prog 122 [.a (.v (.slice ao a.length ac)),.a (.v (.slice bo b.length bc))] σ (fun v=>v=.int .i64 (Lib.compareBytes a b)):=by
  refine enter_p Tryz.func122 rfl rfl (by (repeat' (first | exact trivial | constructor))) fun w=>?_
  (repeat (first | refine cj_seq ?_ | refine cjr TT rfl ?_ | refine oj_then ?_))
  refine oj_bcompare (f:=185) (fn:=Tryz.f185) rfl rfl rfl rfl rfl Tryz.func185 (by kernel_rfl) (by kernel_rfl) (by kernel_rfl) (by kernel_rfl) HA HB (oj_run TT rfl ?_)
  (repeat (first | refine oj_then ?_ | refine cj_ret ?_))
  refine nj_ret TT rfl fun β w' _ _=>?_
  rfl
theorem cb_flip:∀ a b:List UInt8,Lib.compareBytes b a = - Lib.compareBytes a b
  | [],[]=>rfl
  | [],_::_=>rfl
  | _::_,[]=>rfl
  | x::a,y::b=>by
    unfold Lib.compareBytes
    have ih:=cb_flip a b
    simp only [UInt8.lt_iff_toNat_lt]
    split<;>split<;>first | omega | (split<;>omega) | exact ih
theorem cb_tr:∀ x y z:List UInt8,0<=Lib.compareBytes y x->0<=Lib.compareBytes z y->0<=Lib.compareBytes z x
  | [],_,[],_,_=>by unfold Lib.compareBytes;omega
  | [],_,_::_,_,_=>by unfold Lib.compareBytes;omega
  | _::_,[],_,h,_=>by unfold Lib.compareBytes at h;omega
  | _::_,_::_,[],_,h=>by unfold Lib.compareBytes at h;omega
  | x::a,y::b,z::c,h1,h2=>by
    have ih:=cb_tr a b c
    unfold Lib.compareBytes at h1 h2 ⊢
    simp only [UInt8.lt_iff_toNat_lt] at h1 h2 ⊢
    split at h1
    · omega
    split at h2
    · omega
    split
    · omega
    split
    · omega
    rw [if_neg (by omega)] at h1 h2
    exact ih h1 h2
structure Vd where
  zo:Option Addr
  zc:Nat
  z:List UInt8
  it:GItem
def vdCells (v:Vd):List AT:=.v (.slice v.zo v.z.length v.zc)::itCells v.it
theorem vdCells_lt (n:Nat) (x:Vd):∀ c∈vdCells x,c.lt n:=by simp [vdCells,itCells,AT.lt]
def VdOk (σ:Snap) (v:Vd):Prop:=SlAt σ v.zo v.z.length v.zc 1 (u8Rows v.z)
def vdLt (a b:Vd):Bool:=decide (Lib.compareBytes a.z b.z<0)
theorem vdSWO:SWO vdLt:=by
  refine ⟨fun x y h=>?_,fun x y z h1 h2=>?_⟩
  · have h:=of_decide_eq_true h
    unfold vdLt
    rw [cb_flip,decide_eq_false_iff_not]
    omega
  · have h1:=of_decide_eq_false h1
    have h2:=of_decide_eq_false h2
    unfold vdLt
    rw [decide_eq_false_iff_not]
    have:=cb_tr x.z y.z z.z (by omega) (by omega)
    omega
def vdXs (l:List Vd):List Value:=(l.map vdCells).flatten.map AT.val
def vdE (ao:Option Addr) (n cap:Nat) (l:List Vd):AE:=⟨ao,n,cap,220,6,vdXs l⟩
theorem vdXs_cons (x:Vd) (l:List Vd):vdXs (x::l)=(vdCells x).map AT.val++vdXs l:=by simp [vdXs]
theorem vdXs_get:∀ {l:List Vd} {i:Nat} {x:Vd},l[i]?=some x->∀ (j:Nat) c,(vdCells x)[j]?=some c->(vdXs l)[i*6+j]?=some c.val
  | y::l,0,x,h,j,c,hc=>by
    simp only [List.getElem?_cons_zero,Option.some.injEq] at h
    subst h
    have hj:j<6:=by have:=(List.getElem?_eq_some_iff.1 hc).1;simpa [vdCells,itCells] using this
    rw [vdXs_cons,Nat.zero_mul,Nat.zero_add,List.getElem?_append_left (by simpa [vdCells,itCells] using hj),List.getElem?_map,hc]
    rfl
  | y::l,i+1,x,h,j,c,hc=>by
    rw [vdXs_cons,List.getElem?_append_right (by simp [vdCells,itCells];omega)]
    have:(i+1)*6+j - (List.map AT.val (vdCells y)).length=i*6+j:=by simp [vdCells,itCells];omega
    rw [this]
    exact vdXs_get (by simpa using h) j c hc
theorem vdXs_set:∀ {l:List Vd} {i:Nat} (x:Vd),i<l.length->(vdXs l).take (i*6)++(vdCells x).map AT.val++(vdXs l).drop (i*6+(vdCells x).length)=vdXs (l.set i x)
  | y::l,0,x,h=>by
    rw [List.set_cons_zero,vdXs_cons,vdXs_cons,Nat.zero_mul,Nat.zero_add,List.take_zero,List.nil_append]
    congr 1
  | y::l,i+1,x,h=>by
    have ih:=vdXs_set (l:=l) (i:=i) x (by simpa using h)
    rw [List.set_cons_succ,vdXs_cons,vdXs_cons,<-ih]
    have e1:(i+1)*6=(List.map AT.val (vdCells y)).length+i*6:=by simp [vdCells,itCells];omega
    rw [e1,Nat.add_assoc,List.take_length_add_append,List.drop_length_add_append]
    simp only [List.append_assoc]
theorem swap_mid {α:Type} (U V:List α) (y x:α):((U++y::x::V).set (U.length+1) y).set U.length x=U++x::y::V:=by
  rw [List.set_append_right _ _ (by omega),Nat.add_sub_cancel_left,List.set_cons_succ,List.set_cons_zero,List.set_append_right _ _ (Nat.le_refl _),Nat.sub_self,List.set_cons_zero]
theorem get_mid {α:Type} (U V:List α) (y:α):(U++y::V)[U.length]?=some y:=by
  rw [List.getElem?_append_right (Nat.le_refl _),Nat.sub_self]
  rfl
theorem get_mid1 {α:Type} (U V:List α) (y x:α):(U++y::x::V)[U.length+1]?=some x:=by
  rw [List.getElem?_append_right (by omega),Nat.add_sub_cancel_left]
  rfl
set_option maxRecDepth 100000 in
set_option maxHeartbeats 1000000 in
theorem vdCmp_c (σ:Snap) (a b:Vd) (ha:VdOk σ a) (hb:VdOk σ b):PlainS Tryz.prog 124 [.agg (vdCells a),.agg (vdCells b)] σ (fun v=>v=.int .i64 (Lib.compareBytes a.z b.z)):=by
  refine enter_p Tryz.func124 rfl rfl ⟨vdCells_lt 0 a,vdCells_lt 0 b,trivial⟩ fun w=>?_
  (repeat (first | refine cj_seq ?_ | refine cjr TT rfl ?_ | refine oj_then ?_))
  refine oj_callP rfl rfl rfl rfl rfl Tryz.call122 (by (repeat' (first | exact trivial | constructor))) (BCompare_c σ a.z b.z _ _ ha _ _ hb) fun v hv=>⟨.a (.v (.int .i64 (Lib.compareBytes a.z b.z))),trivial,hv.symm,?_⟩
  refine oj_run TT rfl ?_
  (repeat (first | refine oj_then ?_ | refine cj_ret ?_))
  refine nj_ret TT rfl fun β w' _ _=>?_
  rfl
end Go.Sy
namespace Go.Sy
open Go.Proofs
structure I1S where
  k:Nat
  D:List Vd
theorem fn124_lt (n:Nat):(SV.a (.fn (.func 124) [])).lt n:=by intro p hp;cases hp
set_option maxRecDepth 100000 in
set_option maxHeartbeats 4000000 in
theorem insSort_c (σ:Snap) (P M S:List Vd) (hok:∀ v∈M,VdOk σ v) (n:Nat) (hn:P.length+M.length+S.length=n) (hl:n<=1000000) (ao:Option Addr) (cap:Nat) (a b:Int) (ha:a=P.length) (hb:b=P.length+M.length) :
    FnS Tryz.prog 220 [.a (.v (.slice ao n cap)),.a (.v (.int .i64 a)),.a (.v (.int .i64 b)),.a (.fn (.func 124) [])] σ [vdE ao n cap (P++(M++S))] (fun v _ A'=>v=.tuple #[]/\∃ M',Stab vdLt M' M/\M'.length=M.length/\A'=[vdE ao n cap (P++(M'++S))]):=by
  subst ha hb
  refine enter_f Tryz.func220 rfl rfl ⟨trivial,trivial,trivial,fn124_lt 0,trivial⟩ fun w=>?_
  (repeat (first | refine cj_seq ?_ | refine cjr TT rfl ?_ | refine oj_then ?_ | refine cj_block ?_ | (refine oj_add rfl rfl rfl rfl rfl rfl (by omega) ?_;refine oj_run TT rfl ?_)))
  refine cj_loop (fun (_:I1S)=>σ) (fun t=>[(0,.a (.v (.slice ao n cap))),(1,.a (.v (.int .i64 P.length))),(2,.a (.v (.int .i64 (P.length+M.length)))),(3,.a (.fn (.func 124) [])),(8,.a (.v (.int .i64 ((P.length+1+t.k:Nat):Int))))]) (fun _=>[]) (fun t=>[vdE ao n cap (P++(t.D++(M.drop (t.k+1)++S)))]) 0
    (fun t=>Stab vdLt t.D (M.take (t.k+1))/\t.D.length=(M.take (t.k+1)).length) (fun t=>M.length - t.k) ⟨0,M.take 1⟩ ⟨Stab.refl (by
      unfold Srt
      cases M with
      | nil=>exact List.Pairwise.nil
      | cons x l=>exact List.pairwise_singleton _ _),rfl⟩ rfl ?_ (by (repeat first | exact trivial | refine ⟨rfl,?_⟩)) ?_ ⟨trivial,trivial,trivial,fn124_lt 0,trivial,trivial⟩ trivial fun ⟨k,D⟩ ⟨hD,hDl⟩=>?_
  · refine ⟨rfl,rfl,rfl,rfl,?_,trivial⟩
    exact congrArg (fun z=>some (SV.a (AT.v (Value.int .i64 z)))) (show (P.length:Int)+1=((P.length+1+0:Nat):Int) by omega)
  · show [_]=[_]
    dsimp only
    rw [<-List.append_assoc (M.take 1),List.take_append_drop]
  dsimp only at hD hDl ⊢
  rw [List.length_take] at hDl
  (repeat (first | refine cj_seq ?_ | refine cjr TT rfl ?_ | refine oj_then ?_))
  refine cj_if rfl (fun h=>?_) (fun h=>?_)
  rotate_left
  · have h:=of_decide_eq_false h
    have hk:M.length<=k+1:=by omega
    rw [List.take_of_length_le hk] at hD
    rw [List.drop_eq_nil_of_le hk,List.nil_append]
    (repeat (first | refine cj_exit ?_ | refine nj_then_exit ?_ | refine nj_block_out ?_))
    refine nj_fend TT rfl fun β w' _ _=>?_
    exact ⟨rfl,D,hD,by omega,rfl⟩
  have h:=of_decide_eq_true h
  have hk:k+1<M.length:=by omega
  refine cj_arrAt 0 (E:=vdE ao n cap (P++(D++(M.drop (k+1)++S)))) rfl (show 0<n by omega) fun gb hgb=>?_
  have hgb:ao=some ⟨gb,0,none⟩:=hgb
  subst hgb
  have hDl:D.length=k+1:=by omega
  have hx:=List.getElem?_eq_getElem hk
  have hxm:=hok _ (List.getElem_mem hk)
  have htk:M.take (k+1+1)=M.take (k+1)++[M[k+1]]:=List.take_succ_eq_append_getElem hk
  have hdk:M.drop (k+1)=M[k+1]::M.drop (k+1+1):=List.drop_eq_getElem_cons hk
  generalize M[k+1]=x at *
  rw [hdk]
  have hlast:∀ t,(∀ y∈D.drop t,vdLt x y=true)->(∀ y∈D.take t,vdLt x y=false)->Stab vdLt (D.take t++x::D.drop t) (M.take (k+1+1)):=fun t h1 h2=>by
    rw [htk]
    exact hD.ins vdSWO h1 h2
  (repeat (first | refine cj_seq ?_ | refine cjr TT rfl ?_ | refine oj_then ?_ | refine cj_skip ?_ | refine cj_block ?_ | refine nj_then ?_))
  refine cj_loop (fun (_:Nat)=>σ) (fun t=>[(0,.a (.v (.slice (some ⟨gb,0,none⟩) n cap))),(1,.a (.v (.int .i64 P.length))),(2,.a (.v (.int .i64 (P.length+M.length)))),(3,.a (.fn (.func 124) [])),(8,.a (.v (.int .i64 ((P.length+1+k:Nat):Int)))),(9,.a (.v (.int .i64 ((P.length+t:Nat):Int))))]) (fun _=>[]) (fun t=>[vdE (some ⟨gb,0,none⟩) n cap (P++(D.take t++(x::(D.drop t++(M.drop (k+1+1)++S)))))]) 0
    (fun t=>t<=D.length/\∀ y∈D.drop t,vdLt x y=true) (fun t=>t) D.length ⟨Nat.le_refl _,by rw [List.drop_length];intro y hy;cases hy⟩ rfl ?_ (by (repeat first | exact trivial | refine ⟨rfl,?_⟩)) ?_ ⟨trivial,trivial,trivial,fn124_lt 0,trivial,trivial,trivial⟩ trivial fun t ⟨ht,hlt⟩=>?_
  · refine ⟨rfl,rfl,rfl,rfl,rfl,?_,trivial⟩
    rw [hDl,Nat.add_assoc P.length,Nat.add_comm 1 k]
    rfl
  · show [_]=[_]
    rw [List.take_length,List.drop_length]
    rfl
  (repeat refine cj_seq ?_)
  refine cj_draw [(0,.pure),(1,.pure),(2,.pure),(3,.pure),(4,.pure),(5,.pure),(6,.pure),(7,.pure),(8,.quiet),(9,.pure),(10,.pure),(11,.pure),(12,.pure),(13,.quiet),(14,.keep),(15,.pure),(16,.pure)] mixed (by kernel_rfl) (oj_run TT rfl ?_)
  have hend:∀ t,(∀ y∈D.drop t,vdLt x y=true)->(∀ y∈D.take t,vdLt x y=false)->t<=D.length->(Stab vdLt (D.take t++x::D.drop t) (M.take (k+1+1))/\(D.take t++x::D.drop t).length=(M.take (k+1+1)).length):=fun t h1 h2 h3=>by
    refine ⟨hlast t h1 h2,?_⟩
    rw [List.length_append,List.length_cons,List.length_take,List.length_take,List.length_drop]
    omega
  have hi8:(((P.length+1+k:Nat):Int)+1)=((P.length+1+(k+1):Nat):Int):=by omega
  refine oj_split 21 rfl (fun h=>?_) (fun h=>?_)
  rotate_left
  · have ht0:t=0:=by
      have:=of_decide_eq_false (show decide (((P.length+t:Nat):Int) > P.length)=false from h)
      omega
    subst ht0
    refine oj_run TT rfl ?_
    (repeat (first | refine cjr TT rfl ?_ | refine oj_then ?_ | refine oj_nil ?_ | refine cj_if_f rfl ?_ | refine cj_exit ?_ | refine nj_then ?_ | refine nj_then_exit ?_ | refine nj_block ?_ | refine nj_block_out ?_ | (refine oj_add rfl rfl rfl rfl rfl rfl (by omega) ?_;refine oj_run TT rfl ?_)))
    refine nj_again (⟨k+1,D.take 0++x::D.drop 0⟩:I1S) (hend 0 hlt (fun y hy=>by cases hy) (Nat.zero_le _)) (by dsimp only;omega) rfl ?_ (by (repeat first | exact trivial | refine ⟨rfl,?_⟩)) ?_ ⟨trivial,trivial,trivial,fn124_lt 0,trivial,trivial⟩ trivial
    · refine ⟨rfl,rfl,rfl,rfl,?_,trivial⟩
      exact congrArg (fun z=>some (SV.a (AT.v (Value.int .i64 z)))) hi8
    · show [_]=[_]
      dsimp only
      rw [List.append_assoc]
      rfl
  have h:=of_decide_eq_true (show decide (((P.length+t:Nat):Int) > P.length)=true from h)
  obtain ⟨q,rfl⟩:∃ q,t=q+1:=⟨t - 1,by omega⟩
  have hy:=List.getElem?_eq_getElem (show q<D.length by omega)
  have hym:=hok D[q] (List.mem_of_mem_take ((hD.mem vdSWO).1 (List.getElem_mem (show q<D.length by omega))))
  have htq:D.take (q+1)=D.take q++[D[q]]:=List.take_succ_eq_append_getElem (by omega)
  have hdq:D.drop q=D[q]::D.drop (q+1):=List.drop_eq_getElem_cons (by omega)
  have hle:=fun h1=>srt_le vdSWO hD.srt (k:=q) (x:=x) hy h1
  generalize D[q]=y at *
  generalize hR:D.drop (q+1)++(M.drop (k+1+1)++S)=R
  have hU:(P++D.take q).length=P.length+q:=by rw [List.length_append,List.length_take];omega
  have hw1:P++(D.take (q+1)++x::R)=(P++D.take q)++y::x::R:=by rw [htq];simp
  rw [hw1]
  have hlw:((P++D.take q)++y::x::R).length=n:=by
    rw [<-hR]
    simp only [List.length_append,List.length_cons,List.length_take,List.length_drop]
    omega
  generalize hUd:P++D.take q=U at *
  have had:∀ (m:Int) (u:Nat),m=u->some (SV.a (AT.v (.pointer (some (Addr.add ⟨gb,0,none⟩ (m.toNat*6))))))=some (SV.a (AT.v (.pointer (some ⟨gb,u*6,none⟩)))):=fun m u h=>by
    rw [h,Int.toNat_natCast,add0]
  have hgx:=get_mid1 U R y x
  have hgy:=get_mid U (x::R) y
  have hUn:U.length+1<n:=by omega
  refine oj_run TT rfl ?_
  refine oj_indexAddr TT rfl rfl rfl rfl rfl rfl rfl rfl rfl ⟨by omega,by omega⟩ (oj_run TT rfl ?_)
  refine oj_ldAs 0 (off:=(U.length+1)*6) TT (vdCells x) rfl rfl rfl rfl rfl (had _ _ (by omega)) rfl rfl rfl rfl rfl (fun q c hc=>vdXs_get hgx q c hc) (vdCells_lt 0 x) (oj_run TT rfl ?_)
  refine oj_minus rfl rfl rfl rfl rfl rfl (by omega) (oj_run TT rfl ?_)
  refine oj_indexAddr TT rfl rfl rfl rfl rfl rfl rfl rfl rfl ⟨by omega,by omega⟩ (oj_run TT rfl ?_)
  refine oj_ldAs 0 (off:=U.length*6) TT (vdCells y) rfl rfl rfl rfl rfl (had _ _ (by omega)) rfl rfl rfl rfl rfl (fun q c hc=>vdXs_get hgy q c hc) (vdCells_lt 0 y) (oj_run TT rfl ?_)
  refine oj_callP (ys:=[.agg (vdCells x),.agg (vdCells y)]) rfl rfl rfl rfl rfl Tryz.call124 ⟨vdCells_lt 0 x,vdCells_lt 0 y,trivial⟩ (vdCmp_c σ x y hxm hym) fun v hv=>⟨.a (.v (.int .i64 (Lib.compareBytes x.z y.z))),trivial,hv.symm,?_⟩
  refine oj_run TT rfl ?_
  (repeat refine oj_then ?_)
  refine cj_if rfl (fun h=>?_) (fun h=>?_)
  rotate_left
  · have h:vdLt x y=false:=h
    (repeat (first | refine cjr TT rfl ?_ | refine oj_nil ?_ | refine cj_exit ?_ | refine nj_then ?_ | refine nj_then_exit ?_ | refine nj_block ?_ | refine nj_block_out ?_ | (refine oj_add rfl rfl rfl rfl rfl rfl (by omega) ?_;refine oj_run TT rfl ?_)))
    refine nj_again (⟨k+1,D.take (q+1)++x::D.drop (q+1)⟩:I1S) (hend (q+1) hlt (hle h) (by omega)) (by dsimp only;omega) rfl ?_ (by (repeat first | exact trivial | refine ⟨rfl,?_⟩)) ?_ ⟨trivial,trivial,trivial,fn124_lt 0,trivial,trivial⟩ trivial
    · refine ⟨rfl,rfl,rfl,rfl,?_,trivial⟩
      exact congrArg (fun z=>some (SV.a (AT.v (Value.int .i64 z)))) hi8
    · show [_]=[_]
      dsimp only
      rw [<-hw1,<-hR,List.append_assoc]
      rfl
  have h:vdLt x y=true:=h
  (repeat (first | refine cj_seq ?_ | refine cj_skip ?_ | refine cj_block ?_ | refine nj_then ?_))
  refine cj_draw [(0,.pure),(1,.pure),(2,.pure),(3,.pure),(4,.pure),(5,.pure),(6,.pure),(7,.pure),(8,.pure),(9,.quiet),(10,.pure),(11,.pure),(12,.pure),(13,.quiet),(14,.pure),(15,.sink),(16,.pure),(17,.sink)] mixed (by kernel_rfl) (oj_run TT rfl ?_)
  refine oj_run TT rfl ?_
  refine oj_minus rfl rfl rfl rfl rfl rfl (by omega) (oj_run TT rfl ?_)
  refine oj_minus rfl rfl rfl rfl rfl rfl (by omega) (oj_run TT rfl ?_)
  refine oj_indexAddr TT rfl rfl rfl rfl rfl rfl rfl rfl rfl ⟨by omega,by omega⟩ (oj_run TT rfl ?_)
  refine oj_ldAs 0 (off:=U.length*6) TT (vdCells y) rfl rfl rfl rfl rfl (had _ _ (by omega)) rfl rfl rfl rfl rfl (fun q c hc=>vdXs_get hgy q c hc) (vdCells_lt 0 y) (oj_run TT rfl ?_)
  refine oj_indexAddr TT rfl rfl rfl rfl rfl rfl rfl rfl rfl ⟨by omega,by omega⟩ (oj_run TT rfl ?_)
  refine oj_ldAs 0 (off:=(U.length+1)*6) TT (vdCells x) rfl rfl rfl rfl rfl (had _ _ (by omega)) rfl rfl rfl rfl rfl (fun q c hc=>vdXs_get hgx q c hc) (vdCells_lt 0 x) (oj_run TT rfl ?_)
  refine oj_indexAddr TT rfl rfl rfl rfl rfl rfl rfl rfl rfl ⟨by omega,by omega⟩ (oj_run TT rfl ?_)
  refine oj_stAs 0 (off:=(U.length+1)*6) (cs:=vdCells y) (A':=[vdE (some ⟨gb,0,none⟩) n cap ((U++y::x::R).set (U.length+1) y)]) TT rfl rfl rfl rfl (had _ _ (by omega)) rfl rfl rfl rfl rfl (by show (U.length+1)*6+6<=n*6;omega) (vdCells_lt 0 y) rfl ?_ (oj_run TT rfl ?_)
  · show [_]=[_]
    unfold vdE
    rw [<-vdXs_set y (by omega)]
  refine oj_indexAddr TT rfl rfl rfl rfl rfl rfl rfl rfl rfl ⟨by omega,by omega⟩ (oj_run TT rfl ?_)
  refine oj_stAs 0 (off:=U.length*6) (cs:=vdCells x) (A':=[vdE (some ⟨gb,0,none⟩) n cap (((U++y::x::R).set (U.length+1) y).set U.length x)]) TT rfl rfl rfl rfl (had _ _ (by omega)) rfl rfl rfl rfl rfl (by show U.length*6+6<=n*6;omega) (vdCells_lt 0 x) rfl ?_ (oj_run TT rfl ?_)
  · show [_]=[_]
    unfold vdE
    rw [<-vdXs_set x (by rw [List.length_set];omega)]
  rw [swap_mid]
  (repeat (first | refine cjr TT rfl ?_ | refine oj_nil ?_ | refine nj_then ?_ | refine nj_block ?_ | (refine oj_minus rfl rfl rfl rfl rfl rfl (by omega) ?_;refine oj_run TT rfl ?_)))
  refine nj_again q ⟨by omega,fun z hz=>by
    rw [hdq] at hz
    rcases List.mem_cons.1 hz with rfl | hz
    · exact h
    · exact hlt z hz⟩ (by omega) rfl ?_ (by (repeat first | exact trivial | refine ⟨rfl,?_⟩)) ?_ ⟨trivial,trivial,trivial,fn124_lt 0,trivial,trivial,trivial⟩ trivial
  · refine ⟨rfl,rfl,rfl,rfl,rfl,?_,trivial⟩
    exact congrArg (fun z=>some (SV.a (AT.v (Value.int .i64 z)))) (show ((P.length+(q+1):Nat):Int) - 1=((P.length+q:Nat):Int) by omega)
  · show [_]=[_]
    rw [hdq,<-hUd,<-hR]
    simp only [List.append_assoc,List.cons_append]
end Go.Sy
namespace Go.Sy
open Go.Proofs
theorem get_two {α:Type} (U V W:List α) (x y:α):(U++x::(V++y::W))[U.length+1+V.length]?=some y:=by
  rw [List.getElem?_append_right (by omega),show U.length+1+V.length - U.length=V.length+1 by omega,List.getElem?_cons_succ]
  exact get_mid V W y
theorem swap_two {α:Type} (U V W:List α) (x y:α):((U++x::(V++y::W)).set U.length y).set (U.length+1+V.length) x=U++y::(V++x::W):=by
  rw [List.set_append_right _ _ (Nat.le_refl _),Nat.sub_self,List.set_cons_zero,List.set_append_right _ _ (by omega),show U.length+1+V.length - U.length=V.length+1 by omega,List.set_cons_succ,List.set_append_right _ _ (Nat.le_refl _),Nat.sub_self,List.set_cons_zero]
set_option maxRecDepth 100000 in
set_option maxHeartbeats 4000000 in
theorem swapR_c (σ:Snap) (P X Q Y S:List Vd) (hxy:Y.length=X.length) (n:Nat) (hn:P.length+X.length+Q.length+Y.length+S.length=n) (hl:n<=1000000) (ao:Option Addr) (cap:Nat) (a b k:Int) (ha:a=P.length) (hb:b=P.length+X.length+Q.length) (hk:k=X.length) :
    FnS Tryz.prog 249 [.a (.v (.slice ao n cap)),.a (.v (.int .i64 a)),.a (.v (.int .i64 b)),.a (.v (.int .i64 k)),.a (.fn (.func 124) [])] σ [vdE ao n cap (P++(X++(Q++(Y++S))))] (fun v _ A'=>v=.tuple #[]/\A'=[vdE ao n cap (P++(Y++(Q++(X++S))))]):=by
  subst ha hb hk
  refine enter_f Tryz.func249 rfl rfl ⟨trivial,trivial,trivial,trivial,fn124_lt 0,trivial⟩ fun w=>?_
  (repeat (first | refine cj_seq ?_ | refine cjr TT rfl ?_ | refine oj_then ?_ | refine cj_block ?_))
  refine cj_loop (fun (_:Nat)=>σ) (fun i=>[(0,.a (.v (.slice ao n cap))),(1,.a (.v (.int .i64 P.length))),(2,.a (.v (.int .i64 (P.length+X.length+Q.length)))),(3,.a (.v (.int .i64 X.length))),(10,.a (.v (.int .i64 (i:Nat))))]) (fun _=>[]) (fun i=>[vdE ao n cap (P++(Y.take i++(X.drop i++(Q++(X.take i++(Y.drop i++S))))))]) 0
    (fun i=>i<=X.length) (fun i=>X.length - i) 0 (Nat.zero_le _) rfl (by (repeat first | exact trivial | refine ⟨rfl,?_⟩)) (by (repeat first | exact trivial | refine ⟨rfl,?_⟩)) rfl ⟨trivial,trivial,trivial,trivial,trivial,trivial⟩ trivial fun i hi=>?_
  (repeat (first | refine cj_seq ?_ | refine cjr TT rfl ?_ | refine oj_then ?_))
  refine cj_if rfl (fun h=>?_) (fun h=>?_)
  rotate_left
  · have h:=of_decide_eq_false h
    have hk:i=X.length:=by omega
    subst hk
    rw [List.take_length,List.drop_length,List.nil_append,<-hxy,List.take_length,List.drop_length,List.nil_append]
    (repeat (first | refine cj_exit ?_ | refine nj_then_exit ?_ | refine nj_block_out ?_))
    refine nj_fend TT rfl fun β w' _ _=>?_
    exact ⟨rfl,rfl⟩
  have h:=of_decide_eq_true h
  have hix:i<X.length:=by omega
  have hiy:i<Y.length:=by omega
  refine cj_arrAt 0 (E:=vdE ao n cap (P++(Y.take i++(X.drop i++(Q++(X.take i++(Y.drop i++S))))))) rfl (show 0<n by omega) fun gb hgb=>?_
  have hgb:ao=some ⟨gb,0,none⟩:=hgb
  subst hgb
  have hdx:X.drop i=X[i]::X.drop (i+1):=List.drop_eq_getElem_cons hix
  have hdy:Y.drop i=Y[i]::Y.drop (i+1):=List.drop_eq_getElem_cons hiy
  have htx:X.take (i+1)=X.take i++[X[i]]:=List.take_succ_eq_append_getElem hix
  have hty:Y.take (i+1)=Y.take i++[Y[i]]:=List.take_succ_eq_append_getElem hiy
  generalize X[i]=x at *
  generalize Y[i]=y at *
  have hw1:P++(Y.take i++(X.drop i++(Q++(X.take i++(Y.drop i++S)))))=(P++Y.take i)++x::((X.drop (i+1)++(Q++X.take i))++y::(Y.drop (i+1)++S)):=by
    rw [hdx,hdy]
    simp only [List.append_assoc,List.cons_append]
  have hw2:(P++Y.take i)++y::((X.drop (i+1)++(Q++X.take i))++x::(Y.drop (i+1)++S))=P++(Y.take (i+1)++(X.drop (i+1)++(Q++(X.take (i+1)++(Y.drop (i+1)++S))))):=by
    rw [htx,hty]
    simp only [List.append_assoc,List.cons_append,List.nil_append]
  have hU:(P++Y.take i).length=P.length+i:=by rw [List.length_append,List.length_take];omega
  have hV:(X.drop (i+1)++(Q++X.take i)).length+1=X.length+Q.length:=by rw [List.length_append,List.length_append,List.length_take,List.length_drop];omega
  have hW:(Y.drop (i+1)++S).length+i+1=Y.length+S.length:=by rw [List.length_append,List.length_drop];omega
  rw [hw1]
  generalize P++Y.take i=U at *
  generalize X.drop (i+1)++(Q++X.take i)=V at *
  generalize hWd:Y.drop (i+1)++S=W at *
  have hlw:(U++x::(V++y::W)).length=n:=by
    simp only [List.length_append,List.length_cons]
    omega
  have had:∀ (m:Int) (u:Nat),m=u->some (SV.a (AT.v (.pointer (some (Addr.add ⟨gb,0,none⟩ (m.toNat*6))))))=some (SV.a (AT.v (.pointer (some ⟨gb,u*6,none⟩)))):=fun m u h=>by
    rw [h,Int.toNat_natCast,add0]
  have hgx:=get_mid U (V++y::W) x
  have hgy:=get_two U V W x y
  (repeat (first | refine cj_seq ?_ | refine cj_skip ?_ | refine cj_block ?_ | refine nj_then ?_))
  refine cj_draw [(0,.pure),(1,.pure),(2,.pure),(3,.pure),(4,.pure),(5,.pure),(6,.pure),(7,.pure),(8,.pure),(9,.pure),(10,.pure),(11,.pure),(12,.pure),(13,.quiet),(14,.pure),(15,.pure),(16,.pure),(17,.pure),(18,.pure),(19,.quiet),(20,.pure),(21,.sink),(22,.pure),(23,.sink)] mixed (by kernel_rfl) (oj_run TT rfl ?_)
  refine oj_run TT rfl ?_
  refine oj_add rfl rfl rfl rfl rfl rfl (by omega) (oj_run TT rfl ?_)
  refine oj_add rfl rfl rfl rfl rfl rfl (by omega) (oj_run TT rfl ?_)
  refine oj_add rfl rfl rfl rfl rfl rfl (by omega) (oj_run TT rfl ?_)
  refine oj_indexAddr TT rfl rfl rfl rfl rfl rfl rfl rfl rfl ⟨by omega,by omega⟩ (oj_run TT rfl ?_)
  refine oj_ldAs 0 (off:=(U.length+1+V.length)*6) TT (vdCells y) rfl rfl rfl rfl rfl (had _ _ (by omega)) rfl rfl rfl rfl rfl (fun q c hc=>vdXs_get hgy q c hc) (vdCells_lt 0 y) (oj_run TT rfl ?_)
  refine oj_add rfl rfl rfl rfl rfl rfl (by omega) (oj_run TT rfl ?_)
  refine oj_indexAddr TT rfl rfl rfl rfl rfl rfl rfl rfl rfl ⟨by omega,by omega⟩ (oj_run TT rfl ?_)
  refine oj_ldAs 0 (off:=U.length*6) TT (vdCells x) rfl rfl rfl rfl rfl (had _ _ (by omega)) rfl rfl rfl rfl rfl (fun q c hc=>vdXs_get hgx q c hc) (vdCells_lt 0 x) (oj_run TT rfl ?_)
  refine oj_indexAddr TT rfl rfl rfl rfl rfl rfl rfl rfl rfl ⟨by omega,by omega⟩ (oj_run TT rfl ?_)
  refine oj_stAs 0 (off:=U.length*6) (cs:=vdCells y) (A':=[vdE (some ⟨gb,0,none⟩) n cap ((U++x::(V++y::W)).set U.length y)]) TT rfl rfl rfl rfl (had _ _ (by omega)) rfl rfl rfl rfl rfl (by show U.length*6+6<=n*6;omega) (vdCells_lt 0 y) rfl ?_ (oj_run TT rfl ?_)
  · show [_]=[_]
    unfold vdE
    rw [<-vdXs_set y (by omega)]
  refine oj_indexAddr TT rfl rfl rfl rfl rfl rfl rfl rfl rfl ⟨by omega,by omega⟩ (oj_run TT rfl ?_)
  refine oj_stAs 0 (off:=(U.length+1+V.length)*6) (cs:=vdCells x) (A':=[vdE (some ⟨gb,0,none⟩) n cap (((U++x::(V++y::W)).set U.length y).set (U.length+1+V.length) x)]) TT rfl rfl rfl rfl (had _ _ (by omega)) rfl rfl rfl rfl rfl (by show (U.length+1+V.length)*6+6<=n*6;omega) (vdCells_lt 0 x) rfl ?_ (oj_run TT rfl ?_)
  · show [_]=[_]
    unfold vdE
    rw [<-vdXs_set x (by rw [List.length_set];omega)]
  rw [swap_two]
  (repeat (first | refine cjr TT rfl ?_ | refine oj_nil ?_ | refine nj_then ?_ | refine nj_block ?_ | (refine oj_add rfl rfl rfl rfl rfl rfl (by omega) ?_;refine oj_run TT rfl ?_)))
  refine nj_again (i+1) (by omega) (by omega) rfl (by (repeat first | exact trivial | refine ⟨rfl,?_⟩)) (by (repeat first | exact trivial | refine ⟨rfl,?_⟩)) ?_ ⟨trivial,trivial,trivial,trivial,trivial,trivial⟩ trivial
  show [_]=[_]
  rw [hWd,<-hw2]
structure RoS where
  P:List Vd
  X:List Vd
  Y:List Vd
  S:List Vd
  s:Snap
set_option maxRecDepth 100000 in
set_option maxHeartbeats 4000000 in
theorem rot_c (σ:Snap) (P X Y S:List Vd) (hx:0<X.length) (hy:0<Y.length) (n:Nat) (hn:P.length+X.length+Y.length+S.length=n) (hl:n<=1000000) (ao:Option Addr) (cap:Nat) (a m b:Int) (ha:a=P.length) (hm:m=P.length+X.length) (hb:b=P.length+X.length+Y.length) :
    FnS Tryz.prog 240 [.a (.v (.slice ao n cap)),.a (.v (.int .i64 a)),.a (.v (.int .i64 m)),.a (.v (.int .i64 b)),.a (.fn (.func 124) [])] σ [vdE ao n cap (P++(X++(Y++S)))] (fun v _ A'=>v=.tuple #[]/\A'=[vdE ao n cap (P++(Y++(X++S)))]):=by
  refine enter_f Tryz.func240 rfl rfl ⟨trivial,trivial,trivial,trivial,fn124_lt 0,trivial⟩ fun w=>?_
  (repeat (first | refine cj_seq ?_ | refine cjr TT rfl ?_ | refine oj_then ?_ | refine cj_block ?_ | (refine oj_minus rfl rfl rfl rfl rfl rfl (by omega) ?_;refine oj_run TT rfl ?_)))
  refine cj_loop (fun (t:RoS)=>t.s) (fun t=>[(0,.a (.v (.slice ao n cap))),(2,.a (.v (.int .i64 m))),(4,.a (.fn (.func 124) [])),(10,.a (.v (.int .i64 t.X.length))),(11,.a (.v (.int .i64 t.Y.length)))]) (fun _=>[]) (fun t=>[vdE ao n cap (t.P++(t.X++(t.Y++t.S)))]) 0
    (fun t=>σ.le t.s/\0<t.X.length/\0<t.Y.length/\(t.P.length:Int)+t.X.length=m/\t.P.length+t.X.length+t.Y.length+t.S.length=n/\t.P++(t.Y++(t.X++t.S))=P++(Y++(X++S))) (fun t=>t.X.length+t.Y.length) ⟨P,X,Y,S,σ⟩ ⟨Snap.le_refl _,hx,hy,hm.symm,hn,rfl⟩ rfl ?_ (by (repeat first | exact trivial | refine ⟨rfl,?_⟩)) rfl ⟨trivial,trivial,fn124_lt 0,trivial,trivial,trivial⟩ trivial fun ⟨P1,X1,Y1,S1,s⟩ ⟨hle,hx1,hy1,hm1,hn1,he⟩=>?_
  · refine ⟨rfl,rfl,rfl,?_,?_,trivial⟩
    · exact congrArg (fun z=>some (SV.a (AT.v (Value.int .i64 z)))) (show m - a=X.length by omega)
    · exact congrArg (fun z=>some (SV.a (AT.v (Value.int .i64 z)))) (show b - m=Y.length by omega)
  dsimp only at hx1 hy1 hm1 hn1 he hle ⊢
  clear hn hx hy hm hb
  (repeat (first | refine cj_seq ?_ | refine cjr TT rfl ?_ | refine oj_then ?_))
  refine cj_if rfl (fun h=>?_) (fun h=>?_)
  rotate_left
  · have h:(!decide ((X1.length:Int)=Y1.length))=false:=h
    have h:(X1.length:Int)=Y1.length:=by simpa using h
    have h:X1.length=Y1.length:=by omega
    (repeat (first | refine cjr TT rfl ?_ | refine cj_exit ?_ | refine nj_then ?_ | refine nj_then_exit ?_ | refine nj_block_out ?_ | (refine oj_minus rfl rfl rfl rfl rfl rfl (by omega) ?_;refine oj_run TT rfl ?_)))
    refine oj_callF [0] (A0:=[vdE ao n cap (P1++(X1++([]++(Y1++S1))))]) (Ar:=[]) rfl rfl rfl rfl rfl rfl rfl Tryz.call249 ⟨trivial,trivial,trivial,trivial,fn124_lt 0,trivial⟩ (swapR_c s P1 X1 [] Y1 S1 h.symm n (by rw [List.length_nil];omega) hl ao cap _ _ _ (by omega) (by rw [List.length_nil];omega) rfl) fun v s1 A1 hle1 ⟨hv,hA⟩=>⟨.tup [],(by (repeat' (first | exact trivial | refine SV.lt_tup ?_))),hv.symm,?_⟩
    subst hA
    refine oj_run TT rfl ?_
    (repeat refine oj_nil ?_)
    refine nj_fend TT rfl fun β w' _ _=>?_
    refine ⟨rfl,?_⟩
    rw [<-he]
    rfl
  have h:(!decide ((X1.length:Int)=Y1.length))=true:=h
  have h:¬ (X1.length:Int)=Y1.length:=by simpa using h
  have h:X1.length≠Y1.length:=by omega
  (repeat (first | refine cj_seq ?_ | refine cjr TT rfl ?_ | refine oj_then ?_ | refine cj_skip ?_ | refine cj_block ?_ | refine nj_then ?_))
  refine cj_if rfl (fun h1=>?_) (fun h1=>?_)
  · have h1:=of_decide_eq_true h1
    have e:X1=X1.take Y1.length++X1.drop Y1.length:=(List.take_append_drop _ _).symm
    have e1:(X1.take Y1.length).length=Y1.length:=by rw [List.length_take];omega
    have e2:(X1.drop Y1.length).length=X1.length - Y1.length:=List.length_drop
    generalize X1.take Y1.length=C at *
    generalize X1.drop Y1.length=D at *
    have hxl:X1.length=C.length+D.length:=by rw [e,List.length_append]
    have ew:P1++(X1++(Y1++S1))=P1++(C++(D++(Y1++S1))):=by rw [e,List.append_assoc]
    rw [ew]
    (repeat (first | refine cj_seq ?_ | refine cjr TT rfl ?_ | (refine oj_minus rfl rfl rfl rfl rfl rfl (by omega) ?_;refine oj_run TT rfl ?_)))
    refine oj_callF [0] (A0:=[vdE ao n cap (P1++(C++(D++(Y1++S1))))]) (Ar:=[]) rfl rfl rfl rfl rfl rfl rfl Tryz.call249 ⟨trivial,trivial,trivial,trivial,fn124_lt 0,trivial⟩ (swapR_c s P1 C D Y1 S1 e1.symm n (by omega) hl ao cap _ _ _ (by omega) (by omega) (by omega)) fun v s1 A1 hle1 ⟨hv,hA⟩=>⟨.tup [],(by (repeat' (first | exact trivial | refine SV.lt_tup ?_))),hv.symm,?_⟩
    subst hA
    refine oj_run TT rfl ?_
    (repeat (first | refine cjr TT rfl ?_ | refine oj_then ?_ | refine oj_nil ?_ | refine nj_block ?_ | (refine oj_minus rfl rfl rfl rfl rfl rfl (by omega) ?_;refine oj_run TT rfl ?_)))
    refine nj_again (⟨P1++Y1,D,C,S1,s1⟩:RoS) ⟨Snap.le_trans hle hle1,by dsimp only;omega,by dsimp only;omega,by dsimp only;rw [List.length_append];omega,by dsimp only;rw [List.length_append];omega,by
      dsimp only
      rw [<-he,e]
      simp only [List.append_assoc]⟩ (by dsimp only;omega) rfl ?_ (by (repeat first | exact trivial | refine ⟨rfl,?_⟩)) ?_ ⟨trivial,trivial,fn124_lt 0,trivial,trivial,trivial⟩ trivial
    · refine ⟨rfl,rfl,rfl,?_,?_,trivial⟩
      · exact congrArg (fun z=>some (SV.a (AT.v (Value.int .i64 z)))) (show (X1.length:Int) - Y1.length=D.length by omega)
      · exact congrArg (fun z=>some (SV.a (AT.v (Value.int .i64 z)))) (show (Y1.length:Int)=C.length by omega)
    · show [_]=[_]
      dsimp only
      simp only [List.append_assoc]
  · have h1:=of_decide_eq_false h1
    have e:Y1=Y1.take (Y1.length - X1.length)++Y1.drop (Y1.length - X1.length):=(List.take_append_drop _ _).symm
    have e1:(Y1.take (Y1.length - X1.length)).length=Y1.length - X1.length:=by rw [List.length_take];omega
    have e2:(Y1.drop (Y1.length - X1.length)).length=X1.length:=by rw [List.length_drop];omega
    generalize Y1.take (Y1.length - X1.length)=C at *
    generalize Y1.drop (Y1.length - X1.length)=D at *
    have hyl:Y1.length=C.length+D.length:=by rw [e,List.length_append]
    have ew:P1++(X1++(Y1++S1))=P1++(X1++(C++(D++S1))):=by rw [e,List.append_assoc]
    rw [ew]
    (repeat (first | refine cj_seq ?_ | refine cjr TT rfl ?_ | (refine oj_add rfl rfl rfl rfl rfl rfl (by omega) ?_;refine oj_run TT rfl ?_) | (refine oj_minus rfl rfl rfl rfl rfl rfl (by omega) ?_;refine oj_run TT rfl ?_)))
    refine oj_callF [0] (A0:=[vdE ao n cap (P1++(X1++(C++(D++S1))))]) (Ar:=[]) rfl rfl rfl rfl rfl rfl rfl Tryz.call249 ⟨trivial,trivial,trivial,trivial,fn124_lt 0,trivial⟩ (swapR_c s P1 X1 C D S1 e2 n (by omega) hl ao cap _ _ _ (by omega) (by omega) (by omega)) fun v s1 A1 hle1 ⟨hv,hA⟩=>⟨.tup [],(by (repeat' (first | exact trivial | refine SV.lt_tup ?_))),hv.symm,?_⟩
    subst hA
    refine oj_run TT rfl ?_
    (repeat (first | refine cjr TT rfl ?_ | refine oj_then ?_ | refine oj_nil ?_ | refine nj_block ?_ | (refine oj_minus rfl rfl rfl rfl rfl rfl (by omega) ?_;refine oj_run TT rfl ?_)))
    refine nj_again (⟨P1,D,C,X1++S1,s1⟩:RoS) ⟨Snap.le_trans hle hle1,by dsimp only;omega,by dsimp only;omega,by dsimp only;omega,by dsimp only;rw [List.length_append];omega,by
      dsimp only
      rw [<-he,e]
      simp only [List.append_assoc]⟩ (by dsimp only;omega) rfl ?_ (by (repeat first | exact trivial | refine ⟨rfl,?_⟩)) rfl ⟨trivial,trivial,fn124_lt 0,trivial,trivial,trivial⟩ trivial
    · refine ⟨rfl,rfl,rfl,?_,?_,trivial⟩
      · exact congrArg (fun z=>some (SV.a (AT.v (Value.int .i64 z)))) (show (X1.length:Int)=D.length by omega)
      · exact congrArg (fun z=>some (SV.a (AT.v (Value.int .i64 z)))) (show (Y1.length:Int) - X1.length=C.length by omega)
end Go.Sy
/- Plain law: two sorted pieces merged by halves. No program in sight. -/
namespace Go.Sy
section
variable {α:Type} {lt:α->α->Bool}
theorem Srt.le (h:SWO lt) {l:List α} (hl:Srt lt l) {i j:Nat} {x y:α} (hx:l[i]?=some x) (hy:l[j]?=some y) (hij:i<=j):lt y x=false:=by
  obtain ⟨hi,rfl⟩:=List.getElem?_eq_some_iff.1 hx
  obtain ⟨hj,rfl⟩:=List.getElem?_eq_some_iff.1 hy
  rcases Nat.lt_or_ge i j with e | e
  · exact List.pairwise_iff_getElem.1 hl i j hi hj e
  · obtain rfl:i=j:=by omega
    exact h.irr _
theorem mem_take_get {l:List α} {n:Nat} {x:α} (h:x∈l.take n):∃ i,i<n/\l[i]?=some x:=by
  obtain ⟨i,hi,rfl⟩:=List.mem_iff_getElem.1 h
  rw [List.length_take] at hi
  exact ⟨i,by omega,by rw [List.getElem_take,List.getElem?_eq_getElem]⟩
theorem mem_drop_get {l:List α} {n:Nat} {x:α} (h:x∈l.drop n):∃ i,n<=i/\l[i]?=some x:=by
  obtain ⟨i,hi,rfl⟩:=List.mem_iff_getElem.1 h
  rw [List.length_drop] at hi
  exact ⟨n+i,by omega,by rw [List.getElem_drop,List.getElem?_eq_getElem]⟩
theorem Stab.left (h:SWO lt) {B:List α} (hB:Srt lt B) {x:α} {t:Nat} (h1:∀ b∈B.take t,lt b x=true) (h2:∀ b∈B.drop t,lt b x=false):Stab lt (B.take t++x::B.drop t) ([x]++B):=by
  have hB':=hB
  rw [<-List.take_append_drop t B] at hB'
  have hp:=List.pairwise_append.1 hB'
  have:=Stab.sym h (A1:=[]) (A2:=[x]) (B1:=B.take t) (B2:=B.drop t) (S1:=B.take t) (S2:=x::B.drop t) (List.pairwise_singleton _ _) hB' (fun a ha=>by cases ha) (fun a ha b hb=>by
    rw [List.mem_singleton] at ha
    subst ha
    exact h1 b hb) (Stab.refl hp.1) (Stab.refl (List.pairwise_cons.2 ⟨fun b hb=>h2 b hb,hp.2.1⟩))
  rw [List.take_append_drop] at this
  exact this
theorem Stab.half (h:SWO lt) {A B S1 S2:List α} (hA:Srt lt A) (hB:Srt lt B) {s e:Nat}
    (hlo:s=0\/B.length<=e\/∃ x y,A[s - 1]?=some x/\B[e]?=some y/\lt y x=false)
    (hhi:e=0\/A.length<=s\/∃ x y,A[s]?=some x/\B[e - 1]?=some y/\lt y x=true)
    (s1:Stab lt S1 (A.take s++B.take e)) (s2:Stab lt S2 (A.drop s++B.drop e)):Stab lt (S1++S2) (A++B):=by
  have:=Stab.sym h (A1:=A.take s) (A2:=A.drop s) (B1:=B.take e) (B2:=B.drop e) (by rw [List.take_append_drop];exact hA) (by rw [List.take_append_drop];exact hB) (fun a ha b hb=>by
    obtain ⟨i,hi,ea⟩:=mem_take_get ha
    obtain ⟨j,hj,eb⟩:=mem_drop_get hb
    rcases hlo with h0 | h0 | ⟨x,y,hx,hy,hxy⟩
    · omega
    · have:=(List.getElem?_eq_some_iff.1 eb).1
      omega
    · have q1:=hA.le h ea hx (by omega)
      have q2:=hB.le h hy eb hj
      exact h.tr _ _ _ (h.tr _ _ _ q1 hxy) q2) (fun a ha b hb=>by
    obtain ⟨i,hi,ea⟩:=mem_drop_get ha
    obtain ⟨j,hj,eb⟩:=mem_take_get hb
    rcases hhi with h0 | h0 | ⟨x,y,hx,hy,hxy⟩
    · omega
    · have:=(List.getElem?_eq_some_iff.1 ea).1
      omega
    · have q1:=hA.le h hx ea hi
      have q2:=hB.le h eb hy (by omega)
      exact h.le_lt q2 (h.lt_le hxy q1)) s1 s2
  rw [List.take_append_drop,List.take_append_drop] at this
  exact this
end
end Go.Sy
/- Plain law: sorting by blocks. No program in sight. -/
namespace Go.Sy
theorem VdOk.mono {σ σ':Snap} {v:Vd} (h:VdOk σ v) (hle:σ.le σ'):VdOk σ' v:=SlAt.mono h hle
theorem Stab.two' {M A B K J:List Vd} (h:Stab vdLt M (A++B)) (h1:Stab vdLt A K) (h2:Stab vdLt B J):Stab vdLt M (K++J):=h1.two h2 h
inductive Done (bs:Nat):List Vd->List Vd->Prop
  | nil:Done bs [] []
  | snoc {E L M K:List Vd} (h:Done bs E L) (hs:Stab vdLt M K) (hm:M.length=bs) (hk:K.length=bs):Done bs (E++M) (L++K)
inductive Run (bs:Nat):List Vd->List Vd->Prop
  | last {D L:List Vd} (hl:D.length=L.length) (hb:D.length<=bs) (hs:Stab vdLt D L):Run bs D L
  | cons {D L D' L':List Vd} (hd:D.length=bs) (hl:L.length=bs) (hs:Stab vdLt D L) (h:Run bs D' L'):Run bs (D++D') (L++L')
theorem Done.run {bs:Nat} {E L:List Vd} (h:Done bs E L):∀ {D K:List Vd},Run bs D K->Run bs (E++D) (L++K):=by
  induction h with
  | nil=>intro D K hr;exact hr
  | snoc _ hs hm hk ih =>
    intro D K hr
    rw [List.append_assoc,List.append_assoc]
    exact ih (Run.cons hm hk hs hr)
theorem Run.len {bs:Nat} {D L:List Vd} (h:Run bs D L):D.length=L.length:=by
  induction h with
  | last hl _ _=>exact hl
  | cons hd hl _ _ ih=>rw [List.length_append,List.length_append,ih,hd,hl]
theorem Run.mem {bs:Nat} {D L:List Vd} (h:Run bs D L) {v:Vd} (hv:v∈D):v∈L:=by
  induction h with
  | last _ _ hs=>exact (hs.mem vdSWO).1 hv
  | cons _ _ hs _ ih =>
    rw [List.mem_append] at hv ⊢
    rcases hv with hv | hv
    · exact .inl ((hs.mem vdSWO).1 hv)
    · exact .inr (ih hv)
theorem Run.small {bs:Nat} {D L:List Vd} (h:Run bs D L) (hb:D.length<=bs):Stab vdLt D L:=by
  cases h with
  | last _ _ hs=>exact hs
  | cons hd hl hs h' =>
    rename_i D1 L1 D' L'
    rw [List.length_append] at hb
    have h0:D'.length=0:=by omega
    have h1:=h'.len
    have e1:D'=[]:=List.eq_nil_of_length_eq_zero h0
    have e2:L'=[]:=List.eq_nil_of_length_eq_zero (by omega)
    rw [e1,e2,List.append_nil,List.append_nil]
    exact hs
theorem Run.one {bs:Nat} {D L:List Vd} (h:Run bs D L) (hb:bs<D.length):∃ A R K KR,D=A++R/\L=K++KR/\A.length=bs/\K.length=bs/\Stab vdLt A K/\Run bs R KR:=by
  cases h with
  | last _ hb' _=>omega
  | cons hd hl hs h'=>exact ⟨_,_,_,_,rfl,rfl,hd,hl,hs,h'⟩
theorem Run.two {bs:Nat} {D L:List Vd} (h:Run bs D L) (h0:0<bs) (hb:2*bs<=D.length) :
    ∃ A B R K J KR,D=A++(B++R)/\L=(K++J)++KR/\A.length=bs/\B.length=bs/\K.length=bs/\J.length=bs/\Stab vdLt A K/\Stab vdLt B J/\Run bs R KR:=by
  obtain ⟨A,R,K,KR,rfl,rfl,hA,hK,hs,hr⟩:=h.one (by omega)
  rw [List.length_append] at hb
  by_cases hR:bs<R.length
  · obtain ⟨B,R',J,KR',rfl,rfl,hB,hJ,hs',hr'⟩:=hr.one hR
    exact ⟨A,B,R',K,J,KR',rfl,(List.append_assoc _ _ _).symm,hA,hB,hK,hJ,hs,hs',hr'⟩
  · have:=hr.small (by omega)
    have hl:=hr.len
    refine ⟨A,R,[],K,KR,[],by rw [List.append_nil],by rw [List.append_nil],hA,by omega,hK,by omega,hs,this,Run.last rfl (Nat.zero_le _) (Stab.refl List.Pairwise.nil)⟩
end Go.Sy
