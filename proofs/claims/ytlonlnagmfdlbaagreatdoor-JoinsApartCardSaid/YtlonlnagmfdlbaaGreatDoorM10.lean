/- Parts of the proof of CJoinsApart: H4, H7, F34, F49, H8, H9, H10, H11, H12. No conditions. -/
import Derived.Test.YtlonlnagmfdlbaaGreatDoorM9
namespace Go.Sy
open Go.Proofs
abbrev Pr:=Nat×Nat
def prCells (p:Pr):List AT:=[.v (.int .i64 p.1),.v (.int .i64 p.2)]
theorem prCells_lt (n:Nat) (p:Pr):∀ c∈prCells p,c.lt n:=by simp [prCells,AT.lt]
def prRows (l:List Pr):List (List AT):=l.map prCells
theorem prRows_all (a:List Pr):∀ r∈prRows a,r.length=2/\(∀ c∈r,c.lt 0)/\r.all AT.one=true:=by
  intro r hr
  obtain ⟨x,_,rfl⟩:=List.mem_map.1 hr
  exact ⟨rfl,prCells_lt 0 x,rfl⟩
def prXs (l:List Pr):List Value:=(prRows l).flatten.map AT.val
theorem prXs_push (L:List Pr) (x:Pr):prXs L++(prCells x).map AT.val=prXs (L++[x]):=by
  simp [prXs,prRows]
def prE (ao:Option Addr) (cap:Nat) (l:List Pr):AE:=⟨ao,l.length,cap,73,2,prXs l⟩
theorem pr_sealed {σ:Snap} {ao:Option Addr} {cap:Nat} {l:List Pr} (hS:ArrSealed σ (prE ao cap l)) (hc:l.length<=cap):SlAt σ ao l.length cap 2 (prRows l) :=
  hS.sl rfl (fun r hr=>⟨(prRows_all l r hr).1,(prRows_all l r hr).2.1⟩) (by simp [prRows]) rfl hc
def outE (go e:Nat) (ao:Option Addr) (n cap:Nat):AE:=⟨some ⟨go,0,none⟩,1,1,e,1,[.slice ao n cap]⟩
theorem cell1_of {σ:Snap} {g cap e:Nat} {v:Value} (hS:ArrSealed σ ⟨some ⟨g,0,none⟩,1,cap,e,1,[v]⟩):σ.cell ⟨g,0,none⟩=some v:=by
  rcases hS with ⟨h,_⟩ | ⟨g',h1,h2⟩
  · cases h
  · have h1:some (⟨g,0,none⟩:Addr)=some ⟨g',0,none⟩:=h1
    injection h1 with h1
    injection h1 with h1
    subst h1
    exact h2 0 v rfl
structure PrS where
  j:Nat
  o:List Pr
  po:Option Addr
  pc:Nat
def fitL (S:List OI) (x:GItem) (kid:Bool) (k:Nat):List Pr:=(S.filter fun z=>fitsI z.1 x kid).map fun z=>(z.2,k)
theorem fitL_cons (z:OI) (S:List OI) (x:GItem) (kid:Bool) (k:Nat):fitL (z::S) x kid k=if fitsI z.1 x kid then (z.2,k)::fitL S x kid k else fitL S x kid k:=by
  unfold fitL
  rw [List.filter_cons]
  split<;>rfl
theorem fitL_len (S:List OI) (x:GItem) (kid:Bool) (k:Nat):(fitL S x kid k).length<=S.length:=by
  unfold fitL
  rw [List.length_map]
  exact List.length_filter_le _ _
set_option maxRecDepth 100000 in
set_option maxHeartbeats 4000000 in
theorem Pairs1_c (σ:Snap) (gd gp go:Nat) (d:List GItem) (bo:Option Addr) (bc:Nat) (HD:SlAt σ bo d.length bc 5 (itRows d)) (kid:Bool) (hgd:σ.cell ⟨gd,0,none⟩=some (.slice bo d.length bc)) (hgp:σ.cell ⟨gp,0,none⟩=some (.bool kid))
    (k:Nat) (x:GItem) (hx:d[k]?=some x) (S:List OI) (hS:S.length<=100000) (hb:∀ z∈S,-1000000000000<=z.1.lv/\z.1.lv<=1000000000000) (so:Option Addr) (sc:Nat) (o:List Pr) (ho:o.length<=1000000000000) (po:Option Addr) (pc:Nat) (hpc:o.length<=pc) :
    FnS Tryz.prog 86 [.a (.v (.int .i64 k)),.a (.v (.slice so S.length sc)),.a (.v (.pointer (some ⟨gd,0,none⟩))),.a (.v (.pointer (some ⟨gp,0,none⟩))),.a (.v (.pointer (some ⟨go,0,none⟩)))] σ [opE so sc S,outE go 67 po o.length pc,prE po pc o]
      (fun v _ A'=>v=.tuple #[]/\∃ po' pc',(o++fitL S x kid k).length<=pc'/\A'=[opE so sc S,outE go 67 po' (o++fitL S x kid k).length pc',prE po' pc' (o++fitL S x kid k)]):=by
  refine enter_f Tryz.func86 rfl rfl (by (repeat' (first | exact trivial | constructor))) fun w=>?_
  (repeat (first | refine cj_seq ?_ | refine cjr TT rfl ?_ | refine oj_then ?_ | refine cj_block ?_))
  refine cj_loop (fun (_:PrS)=>σ) (fun t=>[(0,.a (.v (.int .i64 k))),(2,.a (.v (.pointer (some ⟨gd,0,none⟩)))),(3,.a (.v (.pointer (some ⟨gp,0,none⟩)))),(4,.a (.v (.pointer (some ⟨go,0,none⟩)))),(9,.a (.v (.slice so S.length sc))),(10,.a (.v (.int .i64 S.length))),(11,.a (.v (.int .i64 (t.j:Nat))))])
    (fun _=>[]) (fun t=>[opE so sc S,outE go 67 t.po t.o.length t.pc,prE t.po t.pc t.o]) 0
    (fun t=>t.j<=S.length/\t.o++fitL (S.drop t.j) x kid k=o++fitL S x kid k/\t.o.length<=t.pc/\t.o.length<=o.length+t.j) (fun t=>S.length - t.j) ⟨0,o,po,pc⟩ ⟨Nat.zero_le _,rfl,hpc,Nat.le_refl _⟩ rfl (by (repeat first | exact trivial | refine ⟨rfl,?_⟩)) (by (repeat first | exact trivial | refine ⟨rfl,?_⟩)) rfl (by (repeat' (first | exact trivial | constructor))) (by (repeat' exact trivial)) fun ⟨j,o1,po,pc⟩ ⟨hj,hp,hpc,hlen⟩=>?_
  dsimp only at hj hp hpc hlen ⊢
  (repeat (first | refine cj_seq ?_ | refine cjr TT rfl ?_ | refine oj_then ?_))
  refine cj_if rfl (fun h=>?_) (fun h=>?_)
  rotate_left
  · have hj0:j=S.length:=by have:=of_decide_eq_false h;omega
    rw [hj0,List.drop_length] at hp
    have hp:o1=o++fitL S x kid k:=by rw [<-hp];exact (List.append_nil _).symm
    (repeat (first | refine cj_exit ?_ | refine nj_then_exit ?_ | refine nj_block_out ?_))
    refine nj_fend TT rfl fun β w' _ _=>?_
    rw [<-hp]
    exact ⟨rfl,po,pc,hpc,rfl⟩
  have hjl:j<S.length:=by have:=of_decide_eq_true h;omega
  have hzj:S[j]?=some S[j]:=List.getElem?_eq_getElem hjl
  have hzb:=hb S[j] (List.getElem_mem hjl)
  have hrow:=itRows_get hx
  rw [List.drop_eq_getElem_cons hjl,fitL_cons] at hp
  generalize S[j]=z at *
  (repeat (first | refine cj_seq ?_ | refine cjr TT rfl ?_ | refine cj_skip ?_ | refine cj_block ?_ | refine nj_then ?_))
  refine oj_arrAt 0 (E:=opE so sc S) rfl (by show 0<S.length;omega) fun g1 hg1=>?_
  have hg1:so=some ⟨g1,0,none⟩:=hg1
  subst hg1
  refine oj_indexAddr TT rfl rfl rfl rfl rfl rfl rfl rfl rfl ⟨by omega,by omega⟩ (oj_run TT rfl ?_)
  refine oj_ldAs 0 (off:=j*6) TT (opCells z) rfl rfl rfl rfl rfl ?_ rfl rfl rfl rfl rfl ?_ (opCells_lt _ _) (oj_run TT rfl ?_)
  · show some (SV.a (AT.v (.pointer (some (Addr.add ⟨g1,0,none⟩ (((j:Nat):Int).toNat*6))))))=_
    rw [add0,Int.toNat_natCast]
  · intro i c hi
    exact opXs_get hzj hi
  (repeat (first | refine cj_seq ?_ | refine oj_then ?_))
  refine cj_draw [(0,.pure),(1,.quiet),(2,.quiet),(3,.pure),(4,.pure),(5,.quiet),(6,.quiet),(7,.keep)] mixed (by kernel_rfl) (oj_run TT rfl ?_)
  refine oj_ldS (c:=.v (.slice bo d.length bc)) TT rfl rfl rfl rfl rfl rfl rfl rfl hgd trivial (oj_run TT rfl ?_)
  refine oj_idx TT rfl rfl rfl rfl rfl rfl rfl rfl rfl HD (by omega) hrow (oj_run TT rfl ?_)
  refine oj_ldS (c:=.b kid) TT rfl rfl rfl rfl rfl rfl rfl rfl hgp trivial (oj_run TT rfl ?_)
  refine oj_callP (ys:=[.agg (itCells z.1),.agg (itCells x),.a (.b kid)]) rfl rfl rfl rfl rfl Tryz.call87 ⟨itCells_lt 0 _,itCells_lt 0 _,trivial,trivial⟩ (fits_c σ z.1 x kid hzb) fun v hv=>⟨.a (.b (fitsI z.1 x kid)),trivial,hv.symm,?_⟩
  refine oj_run TT rfl ?_
  (repeat refine oj_then ?_)
  refine cj_if rfl (fun h=>?_) (fun h=>?_)
  · have h:fitsI z.1 x kid=true:=h
    rw [h,if_pos rfl] at hp
    (repeat refine cjr TT rfl ?_)
    refine oj_ldA 1 (c:=.v (.slice po o1.length pc)) TT rfl rfl rfl rfl rfl rfl rfl rfl rfl rfl rfl trivial (oj_run TT rfl ?_)
    refine oj_append_lit TT 2 rfl rfl rfl rfl rfl rfl rfl rfl rfl rfl rfl rfl rfl rfl rfl rfl rfl rfl (prCells_lt 0 (z.2,k)) rfl (by omega) (by show (o1.length+1)*16<=_;omega) fun po1 pc1 hpc1=>oj_run TT rfl ?_
    refine oj_stA 1 (A':=[opE (some ⟨g1,0,none⟩) sc S,outE go 67 po1 (o1.length+1) pc1,⟨po1,o1.length+1,pc1,73,2,prXs o1++(prCells (z.2,k)).map AT.val⟩]) TT rfl rfl rfl rfl rfl rfl rfl rfl rfl rfl (by show 0<1*1;omega) trivial rfl rfl (oj_run TT rfl ?_)
    rw [prXs_push]
    (repeat (first | refine cjr TT rfl ?_ | refine oj_nil ?_ | refine nj_then ?_ | refine nj_block ?_ | (refine oj_add rfl rfl rfl rfl rfl rfl (by omega) ?_;refine oj_run TT rfl ?_)))
    have hl1:(o1++[(z.2,k)]).length=o1.length+1:=by simp
    refine nj_again (⟨j+1,o1++[(z.2,k)],po1,pc1⟩:PrS) ⟨hjl,by dsimp only;rw [List.append_assoc];exact hp,by dsimp only;omega,by dsimp only;omega⟩ (by dsimp only;omega) rfl (by (repeat first | exact trivial | refine ⟨rfl,?_⟩)) (by (repeat first | exact trivial | refine ⟨rfl,?_⟩)) ?_ (by (repeat' (first | exact trivial | constructor))) (by (repeat' exact trivial))
    show [_,_,_]=[_,_,_]
    dsimp only
    unfold prE
    rw [hl1]
  · have h:fitsI z.1 x kid=false:=h
    rw [h,if_neg (by decide)] at hp
    (repeat (first | refine cjr TT rfl ?_ | refine oj_nil ?_ | refine cj_skip ?_ | refine nj_then ?_ | refine nj_block ?_ | (refine oj_add rfl rfl rfl rfl rfl rfl (by omega) ?_;refine oj_run TT rfl ?_)))
    refine nj_again (⟨j+1,o1,po,pc⟩:PrS) ⟨hjl,hp,hpc,by dsimp only;omega⟩ (by dsimp only;omega) rfl (by (repeat first | exact trivial | refine ⟨rfl,?_⟩)) (by (repeat first | exact trivial | refine ⟨rfl,?_⟩)) rfl (by (repeat' (first | exact trivial | constructor))) (by (repeat' exact trivial))
def pairsK (a d:List GItem) (kid:Bool) (k:Nat):List Pr:=(d.zipIdx.take k).flatMap fun x=>(a.zipIdx.filter fun z=>fitsI z.1 x.1 kid).map fun z=>(z.2,x.2)
theorem pairsK_all (a d:List GItem) (kid:Bool):pairsK a d kid d.length=pairsG a d kid:=by
  unfold pairsK pairsG
  rw [List.take_of_length_le (by rw [List.length_zipIdx];exact Nat.le_refl _)]
theorem pairsK_succ {a d:List GItem} {kid:Bool} {k:Nat} {x:GItem} (h:d[k]?=some x):pairsK a d kid (k+1)=pairsK a d kid k++fitL a.zipIdx x kid k:=by
  have hk:=(List.getElem?_eq_some_iff.1 h).1
  unfold pairsK
  rw [List.take_succ_eq_append_getElem (by rw [List.length_zipIdx];exact hk),List.flatMap_append]
  have h2:=zip_get h
  rw [List.getElem?_eq_getElem (by rw [List.length_zipIdx];exact hk)] at h2
  rw [Option.some.inj h2]
  simp [fitL]
theorem pairsK_len (a d:List GItem) (kid:Bool):∀ k:Nat,k<=d.length->(pairsK a d kid k).length<=k*a.length
  | 0,_=>by simp [pairsK]
  | k+1,h=>by
    have ih:=pairsK_len a d kid k (by omega)
    rw [pairsK_succ (List.getElem?_eq_getElem (show k<d.length by omega)),List.length_append]
    have:=fitL_len a.zipIdx (d[k]'(by omega)) kid k
    rw [List.length_zipIdx] at this
    rw [Nat.succ_mul]
    omega
structure PoS where
  o:List Pr
  po:Option Addr
  pc:Nat
set_option maxRecDepth 100000 in
set_option maxHeartbeats 4000000 in
theorem Pairs_c (σ:Snap) (a d:List GItem) (ha:a.length<=100000) (hd:d.length<=100000) (ao:Option Addr) (ac:Nat) (HA:SlAt σ ao a.length ac 5 (itRows a)) (bo:Option Addr) (bc:Nat) (HD:SlAt σ bo d.length bc 5 (itRows d))
    (hLa:Lam a) (hLd:Lam d) (hb:∀ z∈a,-1000000000000<=z.lv/\z.lv<=1000000000000) (kid:Bool) :
    PureS Tryz.prog 31 [.a (.v (.slice ao a.length ac)),.a (.v (.slice bo d.length bc)),.a (.b kid)] σ (fun v σ'=>∃ (po:Option Addr) (pc n:Nat),v=.tuple #[.slice po (pairsG a d kid).length pc,.int .i64 n]/\n<=a.length/\SlAt σ' po (pairsG a d kid).length pc 2 (prRows (pairsG a d kid))):=by
  refine enter_s Tryz.func31 rfl rfl (by (repeat' (first | exact trivial | constructor))) fun w=>?_
  (repeat (first | refine cj_seq ?_ | refine cjr TT rfl ?_ | refine oj_then ?_))
  refine oj_own 0 1 1 rfl (by (repeat' (first | exact trivial | refine AllLt.of ?_ | constructor))) rfl (by decide) fun gd=>?_
  refine oj_seal 0 rfl rfl rfl fun s1 hle1 hS1=>?_
  refine oj_own 1 1 1 rfl (by (repeat' (first | exact trivial | refine AllLt.of ?_ | constructor))) rfl (by decide) fun gp=>?_
  refine oj_seal 0 rfl rfl rfl fun s2 hle2 hS2=>?_
  have hgd:s2.cell ⟨gd,0,none⟩=some (.slice bo d.length bc):=hle2.cell (cell1_of hS1)
  have hgp:s2.cell ⟨gp,0,none⟩=some (.bool kid):=cell1_of hS2
  have HA:=HA.mono (Snap.le_trans hle1 hle2)
  have HD:=HD.mono (Snap.le_trans hle1 hle2)
  refine oj_callP rfl rfl rfl rfl rfl Tryz.call33 (by (repeat' (first | exact trivial | constructor))) (Sound20_c s2 a (by omega) ao ac HA) fun v hv=>⟨.a .tt,trivial,by rw [hv,lam_sound hLa];rfl,?_⟩
  refine oj_run TT rfl ?_
  refine oj_ldS (c:=.v (.slice bo d.length bc)) TT rfl rfl rfl rfl rfl rfl rfl rfl hgd trivial (oj_run TT rfl ?_)
  refine oj_callP rfl rfl rfl rfl rfl Tryz.call33 (by (repeat' (first | exact trivial | constructor))) (Sound20_c s2 d (by omega) bo bc HD) fun v hv=>⟨.a .tt,trivial,by rw [hv,lam_sound hLd];rfl,?_⟩
  refine oj_run TT rfl ?_
  (repeat (first | refine cj_seq ?_ | refine cjr TT rfl ?_ | refine oj_then ?_ | refine cj_if_f rfl ?_ | refine cj_skip ?_ | refine nj_then ?_))
  refine oj_ldS (c:=.v (.slice bo d.length bc)) TT rfl rfl rfl rfl rfl rfl rfl rfl hgd trivial (oj_run TT rfl ?_)
  refine oj_own 2 1 1 rfl (by (repeat' (first | exact trivial | refine AllLt.of ?_ | constructor))) rfl (by decide) fun go=>?_
  refine oj_nilarr 73 2 ?_
  have hfn:(SV.a (.fn (.func 86) [.val (.pointer (some ⟨gd,0,none⟩)),.val (.pointer (some ⟨gp,0,none⟩)),.val (.pointer (some ⟨go,0,none⟩))])).lt 0:=by
    intro p hp
    simp only [List.mem_cons,List.not_mem_nil,or_false] at hp
    rcases hp with rfl | rfl | rfl<;>trivial
  refine oj_callF [0,1] (A0:=[outE go 67 none 0 0,prE none 0 []]) (Ar:=[]) rfl rfl rfl rfl rfl rfl rfl Tryz.call85 ⟨trivial,trivial,hfn,trivial⟩
    (sweep_c s2 a d ha hd ao ac HA bo bc HD hLa hLd 86 [.val (.pointer (some ⟨gd,0,none⟩)),.val (.pointer (some ⟨gp,0,none⟩)),.val (.pointer (some ⟨go,0,none⟩))] ⟨trivial,trivial,trivial,trivial⟩ Tryz.call86 hfn
      (fun st:PoS=>outE go 67 st.po st.o.length st.pc) (fun st=>prE st.po st.pc st.o) (fun k st=>st.o=pairsK a d kid k/\st.o.length<=st.pc) ⟨[],none,0⟩ ⟨rfl,Nat.le_refl _⟩
      (fun σ' k i x st so sc hle hx ⟨hR1,hR2⟩ hn hoa hos=>by
        have hk:=(List.getElem?_eq_some_iff.1 hx).1
        have hlen:=pairsK_len a d kid k (by omega)
        have hm:k*a.length<=100000*100000:=Nat.mul_le_mul (by omega) ha
        have hof:=open_fits hn hLa (hLd.se x (List.mem_of_getElem? hx)) kid
        refine (Pairs1_c σ' gd gp go d bo bc (HD.mono hle) kid (hle.cell hgd) (hle.cell hgp) k x hx (openAt a i x) (by omega) (fun z hz=>?_) so sc st.o (by rw [hR1];omega) st.po st.pc hR2).mono fun v σ2 A2 _ ⟨hv,po',pc',hpc,hA⟩=>⟨hv,⟨st.o++fitL (openAt a i x) x kid k,po',pc'⟩,⟨?_,hpc⟩,hA⟩
        · obtain ⟨hz1,-⟩:=List.mem_filter.1 hz
          exact hb z.1 (List.mem_of_getElem? (mem_zip_take hz1).2)
        · show st.o++fitL (openAt a i x) x kid k=_
          rw [pairsK_succ hx,hR1]
          unfold fitL
          rw [hof]))
    fun v s3 A3 hle3 ⟨n,hv,hn,⟨o,po,pc⟩,⟨hR1,hR2⟩,hA⟩=>⟨.a (.v (.int .i64 n)),trivial,hv.symm,?_⟩
  subst hA
  dsimp only at hR1 hR2 ⊢
  rw [pairsK_all] at hR1
  subst hR1
  refine oj_run TT rfl ?_
  (repeat (first | refine cj_seq ?_ | refine cjr TT rfl ?_ | refine oj_then ?_))
  refine oj_ldA 0 (c:=.v (.slice po (pairsG a d kid).length pc)) TT rfl rfl rfl rfl rfl rfl rfl rfl rfl rfl rfl trivial (oj_run TT rfl ?_)
  (repeat (first | refine oj_then ?_ | refine cj_ret ?_))
  refine nj_seal 1 rfl rfl fun s4 hle4 hS4=>?_
  refine nj_ret TT rfl fun β w' _ _=>?_
  exact ⟨po,pc,n,rfl,hn,pr_sealed hS4 hR2⟩
end Go.Sy
namespace Go.Sy
open Go.Proofs
theorem allG_len_le0 (q:Nat->GLine->Bool):∀ (l:List GLine) (k:Nat),(allG q l k).length<=l.length
  | [],_=>Nat.le_refl _
  | x::l,k=>by
    have:=allG_len_le0 q l (k+1)
    unfold allG
    split
    · rw [List.length_cons,List.length_cons];omega
    · rw [List.length_cons];omega
set_option maxRecDepth 100000 in
set_option maxHeartbeats 1000000 in
theorem item_c (σ:Snap) (d:GDoc) (H:SlAt σ d.o d.L.length d.cap 11 (recRows d.L)) (i:Nat) (r:GRec) (hr:d.L[i]?=some r) :
    PlainS Tryz.prog 103 [.agg (doCells d),.a (.v (.int .i64 i))] σ (fun v=>v=(SV.agg (itCells (itemOf d.id r i))).den β0):=by
  have hrow:=recRows_get hr
  refine enter_p Tryz.func103 rfl rfl ⟨doCells_lt 0 d,trivial,trivial⟩ fun w=>?_
  (repeat (first | refine cj_seq ?_ | refine cjr TT rfl ?_ | refine oj_then ?_))
  refine oj_idx TT rfl rfl rfl rfl rfl rfl rfl rfl rfl H (by omega) hrow (oj_run TT rfl ?_)
  (repeat (first | refine cj_seq ?_ | refine cjr TT rfl ?_ | refine oj_then ?_ | refine cj_ret ?_))
  refine nj_ret TT rfl fun β w' _ _=>?_
  rfl
def onP (q:Int->Bool) (d:GDoc) (j:Nat):List GItem:=((((itemsD d.id d.L).zip d.ids).take j).filter fun x=>q x.2).map Prod.fst
theorem onP_all (q:Int->Bool) (d:GDoc) (h:d.ids.length=d.L.length):onP q d d.ids.length=onD q d:=by
  unfold onP onD
  rw [List.take_of_length_le (by rw [List.length_zip,itemsD_len];omega)]
theorem onP_succ {q:Int->Bool} {d:GDoc} {j:Nat} {k:Int} {r:GRec} (hk:d.ids[j]?=some k) (hr:d.L[j]?=some r):onP q d (j+1)=onP q d j++if q k then [itemOf d.id r j] else []:=by
  have h1:=itemsD_get (id:=d.id) hr
  have h2:((itemsD d.id d.L).zip d.ids)[j]?=some (itemOf d.id r j,k):=by
    rw [List.getElem?_zip_eq_some]
    exact ⟨h1,hk⟩
  obtain ⟨hj,he⟩:=List.getElem?_eq_some_iff.1 h2
  unfold onP
  rw [List.take_succ_eq_append_getElem hj,he,List.filter_append,List.map_append]
  congr 1
  rw [List.filter_cons]
  dsimp only
  split<;>rfl
theorem onP_len (q:Int->Bool) (d:GDoc) (j:Nat):(onP q d j).length<=j:=by
  unfold onP
  rw [List.length_map]
  refine Nat.le_trans (List.length_filter_le _ _) ?_
  rw [List.length_take]
  omega
theorem onG_succ {q:Int->Bool} {ds:List GDoc} {k:Nat} {d:GDoc} (h:ds[k]?=some d):onG q (ds.take (k+1))=onG q (ds.take k)++onD q d:=by
  obtain ⟨hk,he⟩:=List.getElem?_eq_some_iff.1 h
  unfold onG
  rw [List.take_succ_eq_append_getElem hk,he,List.flatMap_append]
  simp
structure OnS where
  k:Nat
  o:List GItem
  oo:Option Addr
  oc:Nat
set_option maxRecDepth 100000 in
set_option maxHeartbeats 4000000 in
theorem on_c (σ:Snap) (X:GIx) (IX:IxAt σ X) (hl:X.ds.length<=1000) (hd:∀ d∈X.ds,d.ids.length=d.L.length/\d.L.length<=100000) (f:FuncId) (caps:List PT) (hcap:LtAll (caps.map ptSV))
    (hcall:∀ args w,(callFunc f args).run Tryz.prog w=.ok (.enter f args) w) (hlt:(SV.a (.fn (.func f) caps)).lt 0) (q:Int->Bool) (hq:∀ k:Int,PlainS Tryz.prog f (.a (.v (.int .i64 k))::caps.map ptSV) σ (fun v=>v=.bool (q k))) :
    PureS Tryz.prog 83 [.agg (ixCells X),.a (.fn (.func f) caps)] σ (fun v σ'=>∃ oo oc,v=.slice oo (onG q X.ds).length oc/\SlAt σ' oo (onG q X.ds).length oc 5 (itRows (onG q X.ds))):=by
  have hlt1:=SV.lt_mono (Nat.zero_le 1) hlt
  have hlt3:=SV.lt_mono (Nat.zero_le 3) hlt
  refine enter_s Tryz.func83 rfl rfl ⟨ixCells_lt 0 X,hlt,trivial⟩ fun w=>?_
  (repeat (first | refine cj_seq ?_ | refine cjr TT rfl ?_ | refine oj_then ?_))
  refine oj_mm rfl rfl rfl rfl rfl rfl rfl (oj_run TT rfl ?_)
  refine oj_slice_to TT X.ds.length rfl rfl rfl rfl rfl rfl rfl rfl rfl (by show (if (X.ds.length:Int)<X.ds.length then _ else _)=_;split<;>rfl) IX.docs.ncap IX.docs.ncap (oj_run TT rfl ?_)
  refine oj_then ?_
  refine cj_nilarr 71 5 ?_
  (repeat refine cj_block ?_)
  refine cj_loop (fun (_:OnS)=>σ) (fun t=>[(1,.a (.fn (.func f) caps)),(2,.a (.p 0 0)),(5,.a (.v (.slice t.oo t.o.length t.oc))),(19,.a (.v (.slice X.o X.ds.length X.c))),(20,.a (.v (.int .i64 X.ds.length))),(21,.a (.v (.int .i64 (t.k:Nat))))])
    (fun _=>[(0,.loc 60,ixCells X)]) (fun t=>[itE t.oo t.oc t.o]) 1 (fun t=>t.k<=X.ds.length/\t.o=onG q (X.ds.take t.k)/\t.o.length<=t.oc/\t.o.length<=t.k*100000) (fun t=>X.ds.length - t.k) ⟨0,[],none,0⟩
    ⟨Nat.zero_le _,rfl,Nat.le_refl _,Nat.zero_le _⟩ rfl (by (repeat first | exact trivial | refine ⟨rfl,?_⟩)) (by (repeat first | exact trivial | refine ⟨rfl,?_⟩)) rfl ⟨hlt1,Nat.zero_lt_one,trivial,trivial,trivial,trivial,trivial⟩ (by exact ⟨⟨Nat.zero_lt_one,ixCells_lt 1 X⟩,trivial⟩) fun ⟨k,o,oo,oc⟩ ⟨hk,ho,hoc,hol⟩=>?_
  dsimp only at hk ho hoc hol ⊢
  (repeat (first | refine cj_seq ?_ | refine cjr TT rfl ?_ | refine oj_then ?_))
  refine cj_if rfl (fun h=>?_) (fun h=>?_)
  rotate_left
  · have hk0:k=X.ds.length:=by have:=of_decide_eq_false h;omega
    rw [hk0,List.take_length] at ho
    subst ho
    (repeat (first | refine cj_seq ?_ | refine cjr TT rfl ?_ | refine oj_then ?_ | refine cj_exit ?_ | refine cj_ret ?_ | refine nj_then ?_ | refine nj_then_exit ?_ | refine nj_block_out ?_))
    refine nj_seal 0 rfl rfl fun σ' hle' hS=>?_
    refine nj_ret TT rfl fun β w' _ _=>?_
    exact ⟨oo,oc,rfl,it_sealed hS hoc⟩
  have hkl:k<X.ds.length:=by have:=of_decide_eq_true h;omega
  have hdk:=List.getElem?_eq_getElem hkl
  have hrow:=doRows_get hdk
  have hrow2:=liRows_get hdk
  have hdm:=hd X.ds[k] (List.getElem_mem hkl)
  have hdd:=IX.doc X.ds[k] (List.getElem_mem hkl)
  have hnext:=onG_succ (q:=q) hdk
  rw [<-ho] at hnext
  generalize X.ds[k]=d at *
  obtain ⟨hdi,hdl⟩:=hdm
  (repeat (first | refine cj_seq ?_ | refine cjr TT rfl ?_ | refine cj_skip ?_ | refine cj_block ?_ | refine nj_then ?_))
  refine oj_idx TT rfl rfl rfl rfl rfl rfl rfl rfl rfl IX.docs (by omega) hrow (oj_run TT rfl ?_)
  (repeat (first | refine cj_seq ?_ | refine cjr TT rfl ?_ | refine oj_then ?_))
  refine oj_idx TT rfl rfl rfl rfl rfl rfl rfl rfl rfl IX.lines (by omega) hrow2 (oj_run TT rfl ?_)
  (repeat (first | refine oj_then ?_ | refine cj_block ?_))
  refine cj_loop (fun (_:OnS)=>σ) (fun t=>[(1,.a (.fn (.func f) caps)),(2,.a (.p 0 0)),(5,.a (.v (.slice t.oo t.o.length t.oc))),(7,.a (.p 2 0)),(19,.a (.v (.slice X.o X.ds.length X.c))),(20,.a (.v (.int .i64 X.ds.length))),(21,.a (.v (.int .i64 k))),(30,.a (.v (.slice d.lo d.ids.length d.lcap))),(31,.a (.v (.int .i64 d.ids.length))),(32,.a (.v (.int .i64 (t.k:Nat))))])
    (fun _=>[(0,.loc 60,ixCells X),(2,.loc 90,doCells d)]) (fun t=>[itE t.oo t.oc t.o]) 3 (fun t=>t.k<=d.ids.length/\t.o=o++onP q d t.k/\t.o.length<=t.oc) (fun t=>d.ids.length - t.k) ⟨0,o,oo,oc⟩
    ⟨Nat.zero_le _,(List.append_nil o).symm,hoc⟩ rfl (by (repeat first | exact trivial | refine ⟨rfl,?_⟩)) (by (repeat first | exact trivial | refine ⟨rfl,?_⟩)) rfl ⟨hlt3,by show 0<3;omega,trivial,by show 2<3;omega,trivial,trivial,trivial,trivial,trivial,trivial,trivial⟩ (by exact ⟨⟨by omega,ixCells_lt 3 X⟩,⟨by omega,doCells_lt 3 d⟩,trivial⟩) fun ⟨j,o1,oo,oc⟩ ⟨hj,ho1,hoc⟩=>?_
  dsimp only at hj ho1 hoc ⊢
  have hpl:=onP_len q d j
  have hlen1:o1.length=o.length+(onP q d j).length:=by rw [ho1,List.length_append]
  (repeat (first | refine cj_seq ?_ | refine cjr TT rfl ?_ | refine oj_then ?_))
  refine cj_if rfl (fun h=>?_) (fun h=>?_)
  rotate_left
  · have hj0:j=d.ids.length:=by have:=of_decide_eq_false h;omega
    subst hj0
    rw [onP_all q d hdi] at ho1
    (repeat (first | refine cjr TT rfl ?_ | refine oj_nil ?_ | refine cj_exit ?_ | refine nj_then ?_ | refine nj_then_exit ?_ | refine nj_block ?_ | refine nj_block_out ?_ | (refine oj_add rfl rfl rfl rfl rfl rfl (by omega) ?_;refine oj_run TT rfl ?_)))
    refine nj_again (⟨k+1,o1,oo,oc⟩:OnS) ⟨hkl,by dsimp only;rw [hnext,ho1],hoc,by dsimp only;rw [Nat.succ_mul];omega⟩ (by dsimp only;omega) rfl (by (repeat first | exact trivial | refine ⟨rfl,?_⟩)) (by (repeat first | exact trivial | refine ⟨rfl,?_⟩)) rfl ⟨hlt1,Nat.zero_lt_one,trivial,trivial,trivial,trivial,trivial⟩ (by exact ⟨⟨Nat.zero_lt_one,ixCells_lt 1 X⟩,trivial⟩)
  have hjl:j<d.ids.length:=by have:=of_decide_eq_true h;omega
  have hkj:=List.getElem?_eq_getElem hjl
  have hrj:d.L[j]?=some (d.L[j]'(by omega)):=List.getElem?_eq_getElem (by omega)
  have hrow3:=idRows_get hkj
  have hit:=item_c σ d hdd.1 j _ hrj
  have hsucc:=onP_succ (q:=q) hkj hrj
  generalize d.ids[j]=x at *
  generalize d.L[j]'(by omega)=r at *
  (repeat (first | refine cj_seq ?_ | refine cjr TT rfl ?_ | refine cj_skip ?_ | refine cj_block ?_ | refine nj_then ?_))
  refine oj_idx TT rfl rfl rfl rfl rfl rfl rfl rfl rfl hdd.2 (by omega) hrow3 (oj_run TT rfl ?_)
  (repeat (first | refine cj_seq ?_ | refine cjr TT rfl ?_ | refine oj_then ?_))
  refine oj_split 42 rfl (fun _=>?_) (fun h=>absurd (of_decide_eq_false (show decide ((j:Int)<d.L.length)=false from h)) (by omega))
  refine oj_run TT rfl ?_
  refine oj_callP (ys:=.a (.v (.int .i64 x))::caps.map ptSV) rfl rfl rfl rfl rfl hcall ⟨trivial,hcap⟩ (hq x) fun v hv=>⟨.a (.b (q x)),trivial,hv.symm,?_⟩
  refine oj_run TT rfl ?_
  (repeat refine oj_then ?_)
  refine cj_if rfl (fun h=>?_) (fun h=>?_)
  · have h:q x=true:=h
    rw [h,if_pos rfl] at hsucc
    (repeat refine cjr TT rfl ?_)
    refine oj_set 48 (.agg (doCells d)) rfl (doCells_lt _ _) (fun _=>rfl) ?_
    refine oj_callP (ys:=[.agg (doCells d),.a (.v (.int .i64 j))]) rfl rfl rfl rfl rfl Tryz.call103 ⟨doCells_lt 0 d,trivial,trivial⟩ hit fun v hv=>⟨.agg (itCells (itemOf d.id r j)),itCells_lt _ _,hv.symm,?_⟩
    refine oj_run TT rfl ?_
    refine oj_append_lit TT 0 rfl rfl rfl rfl rfl rfl rfl rfl rfl rfl rfl rfl rfl rfl rfl rfl rfl rfl (itCells_lt 0 _) rfl (by omega) (by show (o1.length+1)*40<=_;omega) fun oo' oc' hoc'=>oj_run TT rfl ?_
    (repeat (first | refine cjr TT rfl ?_ | refine oj_nil ?_ | refine nj_then ?_ | refine nj_block ?_ | (refine oj_add rfl rfl rfl rfl rfl rfl (by omega) ?_;refine oj_run TT rfl ?_)))
    have hl1:(o1++[itemOf d.id r j]).length=o1.length+1:=by simp
    refine nj_again (⟨j+1,o1++[itemOf d.id r j],oo',oc'⟩:OnS) ⟨hjl,by dsimp only;rw [hsucc,ho1,List.append_assoc],by dsimp only;omega⟩ (by dsimp only;omega) rfl ?_ (by (repeat first | exact trivial | refine ⟨rfl,?_⟩)) ?_ ⟨hlt3,by show 0<3;omega,trivial,by show 2<3;omega,trivial,trivial,trivial,trivial,trivial,trivial,trivial⟩ (by exact ⟨⟨by omega,ixCells_lt 3 X⟩,⟨by omega,doCells_lt 3 d⟩,trivial⟩)
    · dsimp only
      rw [hl1]
      (repeat first | exact trivial | refine ⟨rfl,?_⟩)
    · show [_]=[_]
      dsimp only
      unfold itE
      rw [hl1,<-itXs_push]
      rfl
  · have h:q x=false:=h
    rw [h,if_neg (by decide),List.append_nil] at hsucc
    (repeat (first | refine cjr TT rfl ?_ | refine oj_nil ?_ | refine cj_skip ?_ | refine nj_then ?_ | refine nj_block ?_ | (refine oj_add rfl rfl rfl rfl rfl rfl (by omega) ?_;refine oj_run TT rfl ?_)))
    refine nj_again (⟨j+1,o1,oo,oc⟩:OnS) ⟨hjl,by dsimp only;rw [hsucc];exact ho1,hoc⟩ (by dsimp only;omega) rfl (by (repeat first | exact trivial | refine ⟨rfl,?_⟩)) (by (repeat first | exact trivial | refine ⟨rfl,?_⟩)) rfl ⟨hlt3,by show 0<3;omega,trivial,by show 2<3;omega,trivial,trivial,trivial,trivial,trivial,trivial,trivial⟩ (by exact ⟨⟨by omega,ixCells_lt 3 X⟩,⟨by omega,doCells_lt 3 d⟩,trivial⟩)
theorem mix_val {κ:Type} [DecidableEq κ]:∀ (l:List (κ×Value)) (k:κ) (i j:Nat),(mix l k i).map (·.2)=(mix l k j).map (·.2)
  | [],_,_,_=>rfl
  | p::l,k,i,j=>by
    unfold mix
    split
    · rfl
    · exact mix_val l k _ _
theorem mlook_cons {κ:Type} [DecidableEq κ] (p:κ×Value) (l:List (κ×Value)) (k:κ):mlook (p::l) k=if p.1=k then some p.2 else mlook l k:=by
  have e:mix (p::l) k 0=if p.1=k then some (0,p.2) else mix l k 1:=rfl
  unfold mlook
  rw [e]
  split
  · rfl
  · exact mix_val l k 1 0
theorem mlook_mput {κ:Type} [DecidableEq κ] (k k':κ) (v:Value):∀ l:List (κ×Value),mlook (mput l k v) k'=if k=k' then some v else mlook l k'
  | []=>by
    unfold mput
    rw [mlook_cons]
  | p::l=>by
    unfold mput
    split
    · rename_i h
      rw [mlook_cons,mlook_cons]
      dsimp only
      split
      · rfl
      · rename_i h2
        rw [if_neg (by rw [h];exact h2)]
    · rename_i h
      rw [mlook_cons,mlook_cons,mlook_mput k k' v l]
      split
      · rename_i h2
        rw [if_neg (by intro e;exact h (by rw [h2,e]))]
      · rfl
def putIds (l:List Int):List (Int×Value):=l.foldl (fun m k=>mput m k (.bool true)) []
theorem putIds_snoc (l:List Int) (k:Int):putIds (l++[k])=mput (putIds l) k (.bool true):=by
  unfold putIds
  rw [List.foldl_append]
  rfl
theorem mlook_ids (k:Int) (l:List Int):mlook (putIds l) k=if k∈l then some (.bool true) else none:=by
  induction l using snocRec with
  | nil=>rfl
  | snoc l x ih =>
    rw [putIds_snoc,mlook_mput,ih]
    by_cases h:x=k
    · rw [if_pos h,if_pos (by simp [h])]
    · rw [if_neg h]
      by_cases h2:k∈l
      · rw [if_pos h2,if_pos (List.mem_append_left _ h2)]
      · rw [if_neg h2,if_neg (by simp [h2,eq_comm (a:=k),h])]
theorem und162:Tryz.prog.underlying 162=some (.map 3 4):=by kernel_rfl
set_option maxRecDepth 100000 in
set_option maxHeartbeats 1000000 in
theorem Match1_c (σ:Snap) (g b:Nat) (ids:List Int) (hg:σ.cell ⟨g,0,none⟩=some (.map (some b))) (hM:MapAt (Value.int .i64) σ b (putIds ids)) (k:Int) :
    PlainS Tryz.prog 84 [.a (.v (.int .i64 k)),.a (.v (.pointer (some ⟨g,0,none⟩)))] σ (fun v=>v=.bool (decide (k∈ids))):=by
  refine enter_p Tryz.func84 rfl rfl (by (repeat' (first | exact trivial | constructor))) fun w=>?_
  (repeat (first | refine cj_seq ?_ | refine cjr TT rfl ?_ | refine oj_then ?_))
  refine oj_ldS (c:=.v (.map (some b))) TT rfl rfl rfl rfl rfl rfl rfl rfl hg trivial (oj_run TT rfl ?_)
  refine oj_lookup (y:=.a (.b (decide (k∈ids)))) (kk:=k) (z:=.bool false) (int_key .i64 rfl) und162 und3 zero4 rfl rfl rfl rfl rfl rfl ⟨_,rfl,fun _=>rfl⟩ hM trivial ?_ (oj_run TT rfl ?_)
  · rw [mlook_ids]
    by_cases h:k∈ids
    · rw [if_pos h,decide_eq_true h]
      rfl
    · rw [if_neg h,decide_eq_false h]
      rfl
  (repeat (first | refine oj_then ?_ | refine cj_ret ?_))
  refine nj_ret TT rfl fun β w' _ _=>?_
  rfl
theorem IxAt.monoC {σ σ':Snap} {X:GIx} (h:IxAt σ X) (hle:σ.cle σ'):IxAt σ' X :=
  ⟨h.docs.monoC hle,h.lines.monoC hle,h.gl.monoC hle,fun x hx=>⟨(h.ok x hx).1,(h.ok x hx).2.monoC hle⟩,fun d hd=>⟨(h.doc d hd).1.monoC hle,(h.doc d hd).2.monoC hle⟩⟩
set_option maxRecDepth 100000 in
set_option maxHeartbeats 4000000 in
theorem IxMatch_c (σ:Snap) (X:GIx) (IX:IxAt σ X) (hl:X.ds.length<=1000) (hd:∀ d∈X.ds,d.ids.length=d.L.length/\d.L.length<=100000) (hxl:X.xs.length<=1000000)
    (ps:List GPat) (hpl:ps.length<=1000000) (po:Option Addr) (pc:Nat) (P:SlAt σ po ps.length pc 2 (ptRows ps)) :
    PureS Tryz.prog 30 [.agg (ixCells X),.a (.v (.slice po ps.length pc))] σ (fun v σ'=>∃ oo oc,v=.slice oo (onG (fun k=>decide (k∈matchIds X.xs ps)) X.ds).length oc/\SlAt σ' oo (onG (fun k=>decide (k∈matchIds X.xs ps)) X.ds).length oc 5 (itRows (onG (fun k=>decide (k∈matchIds X.xs ps)) X.ds))):=by
  refine enter_s Tryz.func30 rfl rfl ⟨ixCells_lt 0 X,trivial,trivial⟩ fun w=>?_
  (repeat (first | refine cj_seq ?_ | refine cjr TT rfl ?_ | refine oj_then ?_))
  refine oj_makeMap (Value.int .i64) rfl rfl rfl rfl rfl fun b σ1 hb hle hM=>oj_run TT rfl ?_
  (repeat (first | refine cj_seq ?_ | refine cjr TT rfl ?_ | refine oj_then ?_))
  refine oj_callS rfl rfl rfl rfl rfl Tryz.call82 (by (repeat' (first | exact trivial | refine AllLt.of ?_ | constructor))) (Match_c σ1 X.xs hxl X.go X.gc X.next (IX.gl.mono hle) (fun x hx=>(IX.ok x hx).mono hle) ps hpl po pc (P.mono hle)) fun v σ2 hle2 ⟨mo,mc,hv,HI⟩=>⟨.a (.v (.slice mo (matchIds X.xs ps).length mc)),trivial,hv.symm,?_⟩
  have hM:=MapAt.mono (Value.int .i64) hM hle2
  have IX:=IX.mono (Snap.le_trans hle hle2)
  have hml:(matchIds X.xs ps).length<=1000000:=Nat.le_trans (allG_len_le0 _ X.xs 0) hxl
  generalize matchIds X.xs ps=ids at *
  refine oj_run TT rfl ?_
  (repeat (first | refine oj_then ?_ | refine cj_block ?_))
  refine cj_cutB (fun (s:Snap)=>s) (fun _=>[(2,.a (.p 0 0)),(5,.a (.p 1 0))]) (fun _=>[(0,.loc 60,ixCells X),(1,.loc 162,[.v (.map (some b))])]) (fun _=>[]) 2 (fun s=>σ2.cle s/\MapAt (Value.int .i64) s b (putIds ids)) ?_ (fun s ⟨hs,hM⟩=>?_)
  · refine cj_loop2 (fun (s:Snap) (_:Nat)=>s) (fun _ (k:Nat)=>[(2,.a (.p 0 0)),(5,.a (.p 1 0)),(12,.a (.v (.slice mo ids.length mc))),(13,.a (.v (.int .i64 ids.length))),(14,.a (.v (.int .i64 k)))]) (fun _ _=>[(0,.loc 60,ixCells X),(1,.loc 162,[.v (.map (some b))])]) (fun _ _=>[]) 2
      (fun s k=>k<=ids.length/\σ2.cle s/\MapAt (Value.int .i64) s b (putIds (ids.take k))) (fun _ k=>ids.length - k) σ2 0 ⟨Nat.zero_le _,Snap.cle_refl _,hM⟩ rfl (by (repeat first | exact trivial | refine ⟨rfl,?_⟩)) (by (repeat first | exact trivial | refine ⟨rfl,?_⟩)) rfl ⟨by show 0<2;omega,by show 1<2;omega,trivial,trivial,trivial,trivial⟩ (by exact ⟨⟨by omega,ixCells_lt 2 X⟩,⟨by omega,fun c hc=>by rw [List.mem_singleton] at hc;subst hc;trivial⟩,trivial⟩) fun s k ⟨hk,hs,hM⟩=>?_
    (repeat (first | refine cj_seq ?_ | refine cjr TT rfl ?_ | refine oj_then ?_))
    refine cj_if rfl (fun h=>?_) (fun h=>?_)
    rotate_left
    · have hk0:k=ids.length:=by have:=of_decide_eq_false h;omega
      rw [hk0,List.take_length] at hM
      (repeat (first | refine cj_exit ?_ | refine nj_then_exit ?_ | refine nj_block_out ?_))
      refine nj_again s ⟨hs,hM⟩ Nat.zero_lt_one rfl (by (repeat first | exact trivial | refine ⟨rfl,?_⟩)) (by (repeat first | exact trivial | refine ⟨rfl,?_⟩)) rfl ⟨by show 0<2;omega,by show 1<2;omega,trivial⟩ (by exact ⟨⟨by omega,ixCells_lt 2 X⟩,⟨by omega,fun c hc=>by rw [List.mem_singleton] at hc;subst hc;trivial⟩,trivial⟩)
    have hkl:k<ids.length:=by have:=of_decide_eq_true h;omega
    have hrow:=idRows_get (List.getElem?_eq_getElem hkl)
    have htake:ids.take (k+1)=ids.take k++[ids[k]]:=List.take_succ_eq_append_getElem hkl
    generalize ids[k]=x at *
    (repeat (first | refine cj_seq ?_ | refine cjr TT rfl ?_ | refine cj_skip ?_ | refine cj_block ?_ | refine nj_then ?_))
    refine oj_idx TT rfl rfl rfl rfl rfl rfl rfl rfl rfl (HI.monoC hs) (by omega) hrow (oj_run TT rfl ?_)
    (repeat (first | refine cjr TT rfl ?_ | refine oj_then ?_))
    refine oj_mapUpdate (kk:=x) (vv:=.bool true) (int_key .i64 rfl) und162 und3 rfl rfl rfl rfl rfl ⟨_,rfl,fun _=>rfl⟩ ⟨_,rfl,fun _=>rfl⟩ hM (Snap.none_of_le (Snap.le_refl _) hb) fun s' hs' _ hM'=>oj_run TT rfl ?_
    (repeat (first | refine cjr TT rfl ?_ | refine oj_nil ?_ | refine nj_then ?_ | refine nj_block ?_ | (refine oj_add rfl rfl rfl rfl rfl rfl (by omega) ?_;refine oj_run TT rfl ?_)))
    rw [<-putIds_snoc,<-htake] at hM'
    refine nj_again (s',k+1) ⟨hkl,Snap.cle_trans hs hs',hM'⟩ (by dsimp only;omega) rfl (by (repeat first | exact trivial | refine ⟨rfl,?_⟩)) (by (repeat first | exact trivial | refine ⟨rfl,?_⟩)) rfl ⟨by show 0<2;omega,by show 1<2;omega,trivial,trivial,trivial,trivial⟩ (by exact ⟨⟨by omega,ixCells_lt 2 X⟩,⟨by omega,fun c hc=>by rw [List.mem_singleton] at hc;subst hc;trivial⟩,trivial⟩)
  have IX:=IX.monoC hs
  refine cj_own 1 1 1 rfl (by (repeat' (first | exact trivial | refine AllLt.of ?_ | constructor))) rfl (by decide) fun g=>?_
  refine cj_seal 0 rfl rfl fun s1 hle1 hS=>?_
  have hg:=cell1_of hS
  have hM:=MapAt.mono (Value.int .i64) hM hle1
  have IX:=IX.mono hle1
  (repeat (first | refine cj_seq ?_ | refine cjr TT rfl ?_))
  refine oj_set 21 (.agg (ixCells X)) rfl (ixCells_lt _ _) (fun _=>rfl) ?_
  refine oj_callS rfl rfl rfl rfl rfl Tryz.call83 ⟨ixCells_lt 0 X,fnLt1 84 g,trivial⟩ (on_c s1 X IX hl hd 84 [.val (.pointer (some ⟨g,0,none⟩))] ⟨trivial,trivial⟩ Tryz.call84 (fnLt1 84 g) (fun k=>decide (k∈ids)) fun k=>Match1_c s1 g b ids hg hM k) fun v s2 hle2 ⟨oo,oc,hv,HO⟩=>⟨.a (.v (.slice oo (onG (fun k=>decide (k∈ids)) X.ds).length oc)),trivial,hv.symm,?_⟩
  refine oj_run TT rfl ?_
  (repeat (first | refine oj_then ?_ | refine cj_ret ?_))
  refine nj_ret TT rfl fun β w' _ _=>?_
  exact ⟨oo,oc,rfl,HO⟩
end Go.Sy
namespace Go.Sy
open Go.Proofs
theorem shred_facts {σ:Snap} {g:GVal} {r:List AT} (hr:RepV σ g r) {gap:Int} (hg:1<=gap) (hg2:gap<=1000) (hw:g.weight<=4000) (hs:sane g=0) {L:List GRec} (hL:L=(shredV gap g 0 false emptyS 0).1) :
    L.length=cntV g/\L.length<=g.weight/\0<L.length/\soundG L=true/\RecsOk L/\buildR L=(g,0):=by
  subst hL
  have hcnt:=shredV_cnt gap g 0 false emptyS 0 hr.wf
  obtain ⟨hlen1,hlen2⟩:=shredV_len gap g 0 false emptyS 0
  have hfit:=shredV_fit gap g _ 0 false emptyS 0 hr (by decide)
  have hpos:=cntV_pos g
  have hnow:=(shredV_now (gap:=gap) g 0 false emptyS 0 (by omega) hg2).2
  have hbd:buildR (shredV gap g 0 false emptyS 0).1=(g,0):=by
    have:=buildR_shred (φ:=fun x=>x) (fun a b _ h=>h) (gap:=gap) (by omega) (by omega) g hr.wf hs (by omega) (by omega)
    rw [stE_id,List.map_id] at this
    exact this
  have hBG:buildG (shredV gap g 0 false emptyS 0).1=(g,[]):=by
    have:=build_shred (fun x=>x) gap g false emptyS 0 hr.wf
    rw [stE_id,List.map_id] at this
    exact this
  have hsound:soundG (shredV gap g 0 false emptyS 0).1=true:=by
    unfold soundG
    rw [hbd]
    rfl
  exact ⟨hcnt,hlen1,by omega,hsound,⟨by simp only [mostLen];omega,hfit,fun _=>by rw [hBG];show g.weight<=_;omega⟩,hbd⟩
end Go.Sy
namespace Go.Sy
open Go.Proofs
theorem sound_all {L:List GRec} (h:soundG L=true):L.length<=4096/\nestedG L=true/\namedG L=true/\((L.head?.map GRec.en).getD 0)<=1099511627776/\sane (buildG L).1=0:=by
  unfold soundG at h
  have h:=of_decide_eq_true h
  unfold buildR at h
  split at h
  · exact absurd h (by decide)
  · rename_i h1
    split at h
    · exact absurd h (by decide)
    · rename_i h2
      refine ⟨?_,?_,?_,?_,?_⟩
      · exact Nat.not_lt.1 fun hc=>h1 (.inl (by omega))
      · cases hn:nestedG L with
        | true=>rfl
        | false=>exact absurd (.inr (.inl hn)) h1
      · cases hn:namedG L with
        | true=>rfl
        | false=>exact absurd (.inr (.inr (.inl hn))) h1
      · exact Int.not_lt.1 fun hc=>h1 (.inr (.inr (.inr (by omega))))
      · simpa using h2
theorem levels_bd:∀ (L:List GRec) (m:Nat),levelsOk m L->∀ r∈L,0<=r.lv/\r.lv<=m+L.length
  | [],_,_,r,hr=>by cases hr
  | x::l,m,⟨h1,h2,h3⟩,r,hr=>by
    rw [List.length_cons]
    rcases List.mem_cons.1 hr with rfl | hr
    · exact ⟨h1,by omega⟩
    · have:=levels_bd l _ h3 r hr
      omega
theorem sound_levels {L:List GRec} (h:soundG L=true):∀ r∈L,0<=r.lv/\r.lv<=L.length:=by
  have h1:=(sound_all h).2.1
  unfold nestedG at h1
  rw [Bool.and_eq_true] at h1
  have:=levels_bd L 0 (nest_levels L 0 [] (-1) h1.1)
  intro r hr
  have:=this r hr
  omega
end Go.Sy
namespace Go.Sy
open Go.Proofs
set_option maxRecDepth 100000 in
set_option maxHeartbeats 2000000 in
theorem small_c (σ:Snap) (gs:List GVal) (rows:List (List AT)) (hR:RepL σ gs rows) (hl:gs.length<=140737488355328) (lo:Option Addr) (lc:Nat) (H:SlAt σ lo gs.length lc 8 rows) :
    PlainS Tryz.prog 28 [.a (.v (.slice lo gs.length lc))] σ (fun v=>∃ fb:Bool,v=.bool fb/\(fb=true->gs.length<=6/\∀ g∈gs,g.weight<=300)):=by
  refine enter_p Tryz.func28 rfl rfl (by (repeat' (first | exact trivial | constructor))) fun w=>?_
  (repeat (first | refine cj_seq ?_ | refine cjr TT rfl ?_ | refine oj_then ?_))
  refine cj_if rfl (fun h=>?_) (fun h=>?_)
  · (repeat (first | refine cj_seq ?_ | refine cjr TT rfl ?_ | refine oj_then ?_ | refine cj_ret ?_ | refine nj_then_ret ?_))
    refine nj_ret TT rfl fun β w' _ _=>?_
    exact ⟨false,rfl,fun h=>(by cases h)⟩
  have h6:gs.length<=6:=by have:=of_decide_eq_false h;omega
  (repeat (first | refine cj_seq ?_ | refine cjr TT rfl ?_ | refine oj_then ?_ | refine cj_skip ?_ | refine cj_block ?_ | refine nj_then ?_))
  refine cj_loop (fun (_:Nat)=>σ) (fun k=>[(0,.a (.v (.slice lo gs.length lc))),(3,.a (.v (.int .i64 k)))]) (fun _=>[]) (fun _=>[]) 0 (fun k=>k<=gs.length/\∀ g∈gs.take k,g.weight<=300) (fun k=>gs.length - k) 0 ⟨Nat.zero_le _,fun g h=>(by cases h)⟩ rfl (by (repeat first | exact trivial | refine ⟨rfl,?_⟩)) (by (repeat first | exact trivial | refine ⟨rfl,?_⟩)) rfl (by (repeat' (first | exact trivial | constructor))) (by (repeat' exact trivial)) fun k ⟨hk,hw⟩=>?_
  (repeat (first | refine cj_seq ?_ | refine cjr TT rfl ?_ | refine oj_then ?_))
  refine cj_if rfl (fun h=>?_) (fun h=>?_)
  rotate_left
  · have hk0:k=gs.length:=by have:=of_decide_eq_false h;omega
    rw [hk0,List.take_length] at hw
    (repeat (first | refine cj_seq ?_ | refine cjr TT rfl ?_ | refine oj_then ?_ | refine cj_exit ?_ | refine cj_ret ?_ | refine nj_then ?_ | refine nj_then_exit ?_ | refine nj_block_out ?_))
    refine nj_ret TT rfl fun β w' _ _=>?_
    exact ⟨true,rfl,fun _=>⟨h6,hw⟩⟩
  have hkl:k<gs.length:=by have:=of_decide_eq_true h;omega
  obtain ⟨r,hr1,hr2⟩:=hR.get (List.getElem?_eq_getElem hkl)
  have htk:gs.take (k+1)=gs.take k++[gs[k]]:=List.take_succ_eq_append_getElem hkl
  generalize gs[k]=g at *
  obtain ⟨la,lc',lrows,ma,mc,vrows,rfl,V⟩:=hr2.open
  (repeat (first | refine cj_seq ?_ | refine cjr TT rfl ?_ | refine cj_skip ?_ | refine cj_block ?_ | refine nj_then ?_))
  refine oj_idx TT rfl rfl rfl rfl rfl rfl rfl rfl rfl H (by omega) hr1 (oj_run TT rfl ?_)
  refine oj_callP rfl rfl rfl rfl rfl Tryz.call13 (by (repeat' (first | exact trivial | exact vCells_lt _ _ _ _ _ _ | constructor))) (Few_c σ g _ 300 V.rep (by omega) (by omega)) fun v ⟨fb,hv,hfew⟩=>⟨.a (.b fb),trivial,hv.symm,?_⟩
  refine oj_run TT rfl ?_
  (repeat refine oj_then ?_)
  refine cj_if rfl (fun h=>?_) (fun h=>?_)
  · (repeat (first | refine cj_seq ?_ | refine cjr TT rfl ?_ | refine oj_then ?_ | refine cj_ret ?_ | refine nj_then_ret ?_ | refine nj_block_ret ?_))
    refine nj_ret TT rfl fun β w' _ _=>?_
    exact ⟨false,rfl,fun h=>(by cases h)⟩
  have hwg:g.weight<=300:=by
    have:=hfew (by simpa using h)
    omega
  (repeat (first | refine cjr TT rfl ?_ | refine oj_nil ?_ | refine cj_skip ?_ | refine nj_then ?_ | refine nj_block ?_ | (refine oj_add rfl rfl rfl rfl rfl rfl (by omega) ?_;refine oj_run TT rfl ?_)))
  refine nj_again (k+1) ⟨hkl,fun x hx=>?_⟩ (by omega) rfl (by (repeat first | exact trivial | refine ⟨rfl,?_⟩)) (by (repeat first | exact trivial | refine ⟨rfl,?_⟩)) rfl (by (repeat' (first | exact trivial | constructor))) (by (repeat' exact trivial))
  rw [htk] at hx
  rcases List.mem_append.1 hx with hx | hx
  · exact hw x hx
  · rw [List.mem_singleton] at hx
    subst hx
    exact hwg
structure MadeOk (gap:Int) (X:GIx) (k:Nat):Prop where
  idx:IdxP X.ds X.xs X.next
  doc:∀ d∈X.ds,∃ g:GVal,g.wf/\sane g=0/\g.weight<=300/\d.L=(shredV gap g 0 false emptyS 0).1/\soundG d.L=true/\RecsOk d.L/\d.L.length<=300
  id:∀ d∈X.ds,0<=d.id/\d.id<k
  num:X.ds.length<=k
  fit:GFit (k*300) ⟨X.xs,X.next,[]⟩
theorem made0 (gap:Int):MadeOk gap ix0 0:=⟨IdxP.nil,fun _ h=>(by cases h),fun _ h=>(by cases h),Nat.le_refl _,⟨Nat.le_refl _,Nat.le_refl _,by decide,fun _ h=>(by cases h)⟩⟩
theorem MadeOk.skip {gap:Int} {X:GIx} {k:Nat} (h:MadeOk gap X k):MadeOk gap X (k+1) :=
  ⟨h.idx,h.doc,fun d hd=>by have:=h.id d hd;omega,by have:=h.num;omega,h.fit.mono (by omega)⟩
theorem MadeOk.shr {gap:Int} (hg:0<gap) {X:GIx} {k:Nat} (h:MadeOk gap X k):∀ d∈X.ds,ShrD d:=fun d hd=>by
  obtain ⟨g,hw,-,-,e,-⟩:=h.doc d hd
  exact ⟨gap,g,hg,hw,e⟩
theorem shred_levels {gap:Int} (hg:0<gap) (g:GVal):levelsOk 0 (shredV gap g 0 false emptyS 0).1:=by
  have:=nested_shred (φ:=fun x=>x) (fun a b _ h=>h) (gap:=gap) hg g false emptyS (by omega)
  rw [stE_id,List.map_id] at this
  unfold nestedG at this
  simp only [Bool.and_eq_true] at this
  exact nest_levels _ 0 [] (-1) this.1
set_option maxRecDepth 100000 in
set_option maxHeartbeats 4000000 in
theorem made_c (σ:Snap) (gs:List GVal) (rows:List (List AT)) (hR:RepL σ gs rows) (h6:gs.length<=6) (hw:∀ g∈gs,g.weight<=300) (lo:Option Addr) (lc:Nat) (H:SlAt σ lo gs.length lc 8 rows) :
    PureS Tryz.prog 29 [.a (.v (.slice lo gs.length lc))] σ (fun v σ'=>∃ X:GIx,v=(SV.agg (ixCells X)).den β0/\IxAt σ' X/\MadeOk 1 X gs.length):=by
  refine enter_s Tryz.func29 rfl rfl (by (repeat' (first | exact trivial | constructor))) fun w=>?_
  (repeat (first | refine cj_seq ?_ | refine cjr TT rfl ?_ | refine oj_then ?_))
  refine oj_callP rfl rfl rfl rfl rfl Tryz.call38 (by (repeat' exact trivial)) (New_c σ) fun v hv=>⟨.agg (ixCells ix0),ixCells_lt _ _,hv.symm,?_⟩
  refine oj_run TT rfl ?_
  (repeat (first | refine cj_seq ?_ | refine cjr TT rfl ?_ | refine oj_then ?_ | refine cj_block ?_))
  refine cj_loop2 (fun (s:Snap) (_:Nat×GIx)=>s) (fun _ t=>[(0,.a (.v (.slice lo gs.length lc))),(2,.a (.p 0 0)),(3,.a (.p 1 0)),(4,.a (.v (.int .i64 (t.1:Nat))))]) (fun _ t=>[(0,.loc 60,ixCells ix0),(1,.loc 60,ixCells t.2)]) (fun _ _=>[]) 2
    (fun s t=>σ.le s/\t.1<=gs.length/\IxAt s t.2/\MadeOk 1 t.2 t.1) (fun _ t=>gs.length - t.1) σ (0,ix0) ⟨Snap.le_refl _,Nat.zero_le _,ix0_at σ,made0 1⟩ rfl (by (repeat first | exact trivial | refine ⟨rfl,?_⟩)) (by (repeat first | exact trivial | refine ⟨rfl,?_⟩)) rfl ⟨trivial,by show 0<2;omega,by show 1<2;omega,trivial,trivial⟩
    (by exact ⟨⟨by omega,ixCells_lt 2 _⟩,⟨by omega,ixCells_lt 2 _⟩,trivial⟩) fun s ⟨k,X⟩ ⟨hle,hk,IX,M⟩=>?_
  dsimp only at hk IX M ⊢
  have H:=H.mono hle
  (repeat (first | refine cj_seq ?_ | refine cjr TT rfl ?_ | refine oj_then ?_))
  refine cj_if rfl (fun h=>?_) (fun h=>?_)
  rotate_left
  · have hk0:k=gs.length:=by have:=of_decide_eq_false h;omega
    subst hk0
    (repeat (first | refine cj_seq ?_ | refine cjr TT rfl ?_ | refine oj_then ?_ | refine cj_exit ?_ | refine cj_ret ?_ | refine nj_then ?_ | refine nj_then_exit ?_ | refine nj_block_out ?_))
    refine nj_ret TT rfl fun β w' _ _=>?_
    exact ⟨X,rfl,IX,M⟩
  have hkl:k<gs.length:=by have:=of_decide_eq_true h;omega
  obtain ⟨r,hr1,hr2⟩:=hR.get (List.getElem?_eq_getElem hkl)
  have hwg:=hw gs[k] (List.getElem_mem hkl)
  generalize gs[k]=g at *
  have hr2:=hr2.mono hle
  obtain ⟨la,lc',lrows,ma,mc,vrows,rfl,V⟩:=hr2.open
  (repeat (first | refine cj_seq ?_ | refine cjr TT rfl ?_ | refine cj_skip ?_ | refine cj_block ?_ | refine nj_then ?_))
  refine oj_idx TT rfl rfl rfl rfl rfl rfl rfl rfl rfl H (by omega) hr1 (oj_run TT rfl ?_)
  refine oj_callS rfl rfl rfl rfl rfl Tryz.call39 ⟨vCells_lt _ _ _ _ _ _,trivial,trivial⟩ (Shred_s s g _ 1 V.rep (by omega)) fun v s1 hle1 ⟨ao,cap,hv,HL⟩=>⟨.tup [.a (.v (.slice ao (shredG g 1).1.length cap)),.a (.v (.int .i64 (shredG g 1).2))],(by (repeat' (first | exact trivial | refine SV.lt_tup ?_ | constructor))),hv.symm,?_⟩
  rw [shredG_k (by omega) (by omega)] at HL ⊢
  have IX:=IX.mono hle1
  by_cases hs:sane g≠0
  · rw [if_pos hs] at HL ⊢
    dsimp only at HL ⊢
    refine oj_run TT rfl ?_
    (repeat (first | refine cj_seq ?_ | refine cjr TT rfl ?_ | refine oj_then ?_))
    refine cj_if rfl (fun h=>?_) (fun h=>absurd (by simpa using h) hs)
    (repeat (first | refine cjr TT rfl ?_ | refine oj_nil ?_ | refine cj_exit ?_ | refine nj_then ?_ | refine nj_then_exit ?_ | refine nj_block_out ?_ | (refine oj_add rfl rfl rfl rfl rfl rfl (by omega) ?_;refine oj_run TT rfl ?_)))
    refine nj_again (s1,(k+1,X)) ⟨Snap.le_trans hle hle1,hkl,IX,M.skip⟩ (by dsimp only;omega) rfl (by (repeat first | exact trivial | refine ⟨rfl,?_⟩)) (by (repeat first | exact trivial | refine ⟨rfl,?_⟩)) rfl ⟨trivial,by show 0<2;omega,by show 1<2;omega,trivial,trivial⟩ (by exact ⟨⟨by omega,ixCells_lt 2 _⟩,⟨by omega,ixCells_lt 2 _⟩,trivial⟩)
  have hs:sane g=0:=by simpa using hs
  rw [if_neg (by simp [hs])] at HL ⊢
  dsimp only at HL ⊢
  obtain ⟨hc1,hc2,hc3,hsound,R,-⟩:=shred_facts V.rep (gap:=1) (by omega) (by omega) (by omega) hs rfl
  have hlev:=shred_levels (gap:=1) (by omega) g
  have hwf:=V.rep.wf
  generalize hLdef:(shredV 1 g 0 false emptyS 0).1=L at *
  refine oj_run TT rfl ?_
  (repeat (first | refine cj_seq ?_ | refine cjr TT rfl ?_ | refine oj_then ?_))
  refine cj_if rfl (fun h=>absurd h (by decide)) (fun _=>?_)
  (repeat (first | refine cj_seq ?_ | refine cjr TT rfl ?_ | refine cj_skip ?_ | refine nj_then ?_))
  have hnum:=M.num
  have hadd:=IxAdd_c s1 X IX M.idx k L R (by omega) hsound hlev ao cap HL (fun d hd=>(M.id d hd).2) (by omega) (k*300) M.fit (by omega)
  refine oj_set 27 (.agg (ixCells X)) rfl (ixCells_lt _ _) (fun _=>rfl) ?_
  refine oj_callS rfl rfl rfl rfl rfl Tryz.call40 ⟨ixCells_lt 0 X,(by (repeat' (first | exact trivial | refine AllLt.of ?_ | constructor))),trivial⟩ hadd fun v s2 hle2 ⟨X',hv,IX',hP',⟨lo',lc2,ids,hds⟩,hfit⟩=>⟨.tup [.agg (ixCells X'),.a (.v (.int .i64 0))],(by intro x hx;simp only [List.mem_cons,List.not_mem_nil,or_false] at hx;rcases hx with rfl | rfl;exact ixCells_lt 0 X';trivial),hv.symm,?_⟩
  refine oj_run TT rfl ?_
  (repeat (first | refine cj_seq ?_ | refine cjr TT rfl ?_ | refine oj_then ?_))
  refine cj_if rfl (fun _=>?_) (fun h=>absurd h (by decide))
  (repeat (first | refine cjr TT rfl ?_ | refine oj_nil ?_ | refine nj_then ?_ | refine nj_block ?_ | (refine oj_add rfl rfl rfl rfl rfl rfl (by omega) ?_;refine oj_run TT rfl ?_)))
  have M':MadeOk 1 X' (k+1):=by
    refine ⟨hP',fun d hd=>?_,fun d hd=>?_,?_,hfit.mono (by omega)⟩
    · rw [hds] at hd
      rcases List.mem_append.1 hd with hd | hd
      · exact M.doc d hd
      · rw [List.mem_singleton] at hd
        subst hd
        exact ⟨g,hwf,hs,hwg,hLdef.symm,hsound,R,by show L.length<=300;omega⟩
    · rw [hds] at hd
      rcases List.mem_append.1 hd with hd | hd
      · have:=M.id d hd
        omega
      · rw [List.mem_singleton] at hd
        subst hd
        show 0<=(k:Int)/\(k:Int)<((k+1:Nat):Int)
        omega
    · rw [hds,List.length_append,List.length_singleton]
      omega
  refine nj_again (s2,(k+1,X')) ⟨Snap.le_trans hle (Snap.le_trans hle1 hle2),hkl,IX',M'⟩ (by dsimp only;omega) rfl (by (repeat first | exact trivial | refine ⟨rfl,?_⟩)) (by (repeat first | exact trivial | refine ⟨rfl,?_⟩)) rfl ⟨trivial,by show 0<2;omega,by show 1<2;omega,trivial,trivial⟩ (by exact ⟨⟨by omega,ixCells_lt 2 _⟩,⟨by omega,ixCells_lt 2 _⟩,trivial⟩)
end Go.Sy
namespace Go.Sy
open Go.Proofs
def awA:List GItem:=[⟨0,0,1,10,0⟩,⟨0,0,2,9,1⟩]
def awD:List GItem:=[⟨0,0,2,9,1⟩,⟨0,0,3,4,2⟩]
theorem awA_lam:Lam awA:=⟨by decide,by decide⟩
theorem awD_lam:Lam awD:=⟨by decide,by decide⟩
theorem aw_pairs:pairsG awA awD false=[(0,0),(0,1),(1,1)]:=by decide
set_option maxRecDepth 100000 in
set_option maxHeartbeats 2000000 in
theorem awake20_c (σ:Snap):PureS Tryz.prog 27 [] σ (fun v _=>v=.bool true):=by
  refine enter_s Tryz.func27 rfl rfl (by (repeat' exact trivial)) fun w=>?_
  (repeat (first | refine cj_seq ?_ | refine cjr TT rfl ?_ | refine oj_then ?_))
  refine oj_own 0 2 5 rfl (by (repeat' (first | exact trivial | refine AllLt.of ?_ | constructor))) rfl (by decide) fun ga=>?_
  refine oj_seal 0 rfl rfl rfl fun s1 hle1 hS1=>?_
  refine oj_own 1 2 5 rfl (by (repeat' (first | exact trivial | refine AllLt.of ?_ | constructor))) rfl (by decide) fun gd=>?_
  refine oj_seal 0 rfl rfl rfl fun s2 hle2 hS2=>?_
  have HA:SlAt s2 (some ⟨ga,0,none⟩) awA.length 2 5 (itRows awA):=(it_sealed (l:=awA) hS1 (by decide)).mono hle2
  have HD:SlAt s2 (some ⟨gd,0,none⟩) awD.length 2 5 (itRows awD):=it_sealed (l:=awD) hS2 (by decide)
  refine oj_callS rfl rfl rfl rfl rfl Tryz.call31 ⟨trivial,trivial,trivial,trivial⟩ (show PureS Tryz.prog 31 [.a (.v (.slice (some ⟨ga,0,none⟩) 2 2)),.a (.v (.slice (some ⟨gd,0,none⟩) 2 2)),.a .ff] s2 _ from Pairs_c s2 awA awD (by decide) (by decide) _ _ HA _ _ HD awA_lam awD_lam (by decide) false)
    fun v s3 hle3 ⟨po,pc,n,hv,hn,HP⟩=>⟨.tup [.a (.v (.slice po 3 pc)),.a (.v (.int .i64 n))],(by (repeat' (first | exact trivial | refine SV.lt_tup ?_ | constructor))),by rw [hv,aw_pairs];rfl,?_⟩
  rw [aw_pairs] at HP
  have hn:n<=2:=hn
  have HA:=HA.mono hle3
  refine oj_run TT rfl ?_
  (repeat (first | refine cj_seq ?_ | refine cjr TT rfl ?_ | refine oj_then ?_))
  refine oj_split 20 rfl (fun _=>?_) (fun h=>absurd h (by decide))
  refine oj_run TT rfl ?_
  refine oj_split 24 rfl (fun _=>?_) (fun h=>absurd (of_decide_eq_false (show decide ((0:Int)<=n)=false from h)) (by omega))
  refine oj_run TT rfl ?_
  refine oj_split 28 rfl (fun _=>?_) (fun h=>absurd (of_decide_eq_false (show decide ((n:Int)<=2)=false from h)) (by omega))
  refine oj_run TT rfl ?_
  refine oj_callP rfl rfl rfl rfl rfl Tryz.call33 (by (repeat' (first | exact trivial | constructor))) (Sound20_c s3 awA (by decide) _ _ HA) fun v hv=>⟨.a .tt,trivial,by rw [hv,lam_sound awA_lam];rfl,?_⟩
  refine oj_run TT rfl ?_
  refine oj_idx TT rfl rfl rfl rfl rfl rfl rfl rfl rfl HP (by decide) (r:=prCells (1,1)) rfl (oj_run TT rfl ?_)
  refine oj_split 39 rfl (fun _=>?_) (fun h=>absurd h (by decide))
  refine oj_run TT rfl ?_
  refine oj_idx TT rfl rfl rfl rfl rfl rfl rfl rfl rfl HP (by decide) (r:=prCells (1,1)) rfl (oj_run TT rfl ?_)
  (repeat (first | refine oj_then ?_ | refine cj_ret ?_))
  refine nj_ret TT rfl fun β w' _ _=>?_
  rfl
theorem deep_at {σ:Snap} {g:Nat} {xs:List Value} (hx:xs=(ptRows [deepP]).flatten.map AT.val) (hS:ArrSealed σ ⟨some ⟨g,0,none⟩,1,1,65,2,xs⟩):SlAt σ (some ⟨g,0,none⟩) 1 1 2 (ptRows [deepP]) :=
  hS.sl hx (fun r hr=>by
    simp only [ptRows,List.map_cons,List.map_nil,List.mem_singleton] at hr
    subst hr
    exact ⟨rfl,by simp [ptCells,AT.lt]⟩) rfl rfl (Nat.le_refl _)
def allOf (X:GIx):List GItem:=X.ds.flatMap fun d=>itemsD d.id d.L
theorem allOf_len {gap:Int} {X:GIx} {k:Nat} (M:MadeOk gap X k):(allOf X).length<=k*300:=by
  have h1:=M.num
  have h2:∀ d∈X.ds,d.L.length<=300:=fun d hd=>by obtain ⟨_,_,_,_,_,_,_,h⟩:=M.doc d hd;exact h
  have:∀ (ds:List GDoc),(∀ d∈ds,d.L.length<=300)->(ds.flatMap fun d=>itemsD d.id d.L).length<=ds.length*300:=by
    intro ds
    induction ds with
    | nil=>intro _;exact Nat.le_refl _
    | cons d ds ih =>
      intro h
      have e1:=ih fun x hx=>h x (List.mem_cons_of_mem d hx)
      have e2:=h d List.mem_cons_self
      rw [List.flatMap_cons,List.length_append,itemsD_len,List.length_cons,Nat.succ_mul]
      omega
  have h3:=this X.ds h2
  have h4:X.ds.length*300<=k*300:=Nat.mul_le_mul_right _ h1
  exact Nat.le_trans h3 h4
theorem allOf_lv {gap:Int} {X:GIx} {k:Nat} (M:MadeOk gap X k):∀ x∈allOf X,0<=x.lv/\x.lv<=300:=by
  intro x hx
  obtain ⟨d,hd,hx⟩:=List.mem_flatMap.1 hx
  obtain ⟨y,hy,rfl⟩:=List.mem_map.1 hx
  obtain ⟨_,_,_,_,_,hs,_,hl⟩:=M.doc d hd
  have hy:y.1∈d.L:=by
    have:=List.mem_map_of_mem (f:=Prod.fst) hy
    rw [List.zipIdx_map_fst] at this
    exact this
  have:=sound_levels hs y.1 hy
  show 0<=y.1.lv/\y.1.lv<=300
  omega
theorem allOf_lam {gap:Int} (hg:0<gap) {X:GIx} {k:Nat} (M:MadeOk gap X k):Lam (allOf X):=lam_idx M.idx.ord (M.shr hg)
end Go.Sy
namespace Go.Sy
open Go.Proofs
def upto (n:Nat):List Int:=(List.range n).map Int.ofNat
theorem upto_len (n:Nat):(upto n).length=n:=by simp [upto]
theorem upto_get {n k:Nat} (h:k<n):(upto n)[k]?=some (k:Int):=by
  unfold upto
  rw [List.getElem?_map,List.getElem?_range h]
  rfl
theorem upto_succ (n:Nat):upto (n+1)=upto n++[(n:Int)]:=by
  unfold upto
  rw [List.range_succ,List.map_append]
  rfl
set_option maxRecDepth 100000 in
set_option maxHeartbeats 2000000 in
theorem kept_c (σ:Snap) (a:List GItem) (ha:a.length<=100000) (ao:Option Addr) (ac:Nat) (HA:SlAt σ ao a.length ac 5 (itRows a)) (po:Option Addr) (pc:Nat) (HP:SlAt σ po a.length pc 1 (idRows (upto a.length))) :
    PureS Tryz.prog 90 [.a (.v (.slice ao a.length ac)),.a (.v (.slice po a.length pc))] σ (fun v σ'=>∃ oo oc,v=.slice oo a.length oc/\SlAt σ' oo a.length oc 5 (itRows a)):=by
  refine enter_s Tryz.func90 rfl rfl (by (repeat' (first | exact trivial | constructor))) fun w=>?_
  (repeat (first | refine cj_seq ?_ | refine cjr TT rfl ?_ | refine oj_then ?_ | refine cj_block ?_))
  refine cj_nilarr 71 5 ?_
  skip
  refine cj_loop (fun (_:OnS)=>σ) (fun t=>[(0,.a (.v (.slice ao a.length ac))),(5,.a (.v (.slice t.oo t.o.length t.oc))),(8,.a (.v (.slice po a.length pc))),(9,.a (.v (.int .i64 a.length))),(10,.a (.v (.int .i64 (t.k:Nat))))]) (fun _=>[]) (fun t=>[itE t.oo t.oc t.o]) 0
    (fun t=>t.k<=a.length/\t.o=a.take t.k/\t.o.length<=t.oc) (fun t=>a.length - t.k) ⟨0,[],none,0⟩ ⟨Nat.zero_le _,rfl,Nat.le_refl _⟩ rfl (by (repeat first | exact trivial | refine ⟨rfl,?_⟩)) (by (repeat first | exact trivial | refine ⟨rfl,?_⟩)) rfl (by (repeat' (first | exact trivial | constructor))) (by (repeat' exact trivial)) fun ⟨k,o,oo,oc⟩ ⟨hk,ho,hoc⟩=>?_
  dsimp only at hk ho hoc ⊢
  (repeat (first | refine cj_seq ?_ | refine cjr TT rfl ?_ | refine oj_then ?_))
  refine cj_if rfl (fun h=>?_) (fun h=>?_)
  rotate_left
  · have hk0:k=a.length:=by have:=of_decide_eq_false h;omega
    rw [hk0,List.take_length] at ho
    subst ho
    (repeat (first | refine cj_seq ?_ | refine cjr TT rfl ?_ | refine oj_then ?_ | refine cj_exit ?_ | refine cj_ret ?_ | refine nj_then ?_ | refine nj_then_exit ?_ | refine nj_block_out ?_))
    refine nj_seal 0 rfl rfl fun σ' hle' hS=>?_
    refine nj_ret TT rfl fun β w' _ _=>?_
    exact ⟨oo,oc,rfl,it_sealed hS hoc⟩
  have hkl:k<a.length:=by have:=of_decide_eq_true h;omega
  have hrow:=itRows_get (List.getElem?_eq_getElem hkl)
  have hrow2:=idRows_get (upto_get hkl)
  have htk:a.take (k+1)=a.take k++[a[k]]:=List.take_succ_eq_append_getElem hkl
  have hol:o.length<=k:=by rw [ho,List.length_take];omega
  generalize a[k]=x at *
  (repeat (first | refine cj_seq ?_ | refine cjr TT rfl ?_ | refine cj_skip ?_ | refine cj_block ?_ | refine nj_then ?_))
  refine oj_idx TT rfl rfl rfl rfl rfl rfl rfl rfl rfl HP (by omega) hrow2 (oj_run TT rfl ?_)
  (repeat (first | refine cjr TT rfl ?_ | refine oj_then ?_))
  refine oj_idx TT rfl rfl rfl rfl rfl rfl rfl rfl rfl HA (by omega) hrow (oj_run TT rfl ?_)
  refine oj_append_lit TT 0 rfl rfl rfl rfl rfl rfl rfl rfl rfl rfl rfl rfl rfl rfl rfl rfl rfl rfl (itCells_lt 0 _) rfl (by omega) (by show (o.length+1)*40<=_;omega) fun oo' oc' hoc'=>oj_run TT rfl ?_
  (repeat (first | refine cjr TT rfl ?_ | refine oj_nil ?_ | refine nj_then ?_ | refine nj_block ?_ | (refine oj_add rfl rfl rfl rfl rfl rfl (by omega) ?_;refine oj_run TT rfl ?_)))
  have hl1:(o++[x]).length=o.length+1:=by simp
  refine nj_again (⟨k+1,o++[x],oo',oc'⟩:OnS) ⟨hkl,by dsimp only;rw [htk,ho],by dsimp only;omega⟩ (by dsimp only;omega) rfl ?_ (by (repeat first | exact trivial | refine ⟨rfl,?_⟩)) ?_ (by (repeat' (first | exact trivial | constructor))) (by (repeat' exact trivial))
  · dsimp only
    rw [hl1]
    (repeat first | exact trivial | refine ⟨rfl,?_⟩)
  · show [_]=[_]
    dsimp only
    unfold itE
    rw [hl1,<-itXs_push]
    rfl
structure GLL where
  o:Option Addr
  c:Nat
  l:List GItem
def llCells (x:GLL):List AT:=[.v (.slice x.o x.l.length x.c)]
theorem llCells_lt (n:Nat) (x:GLL):∀ c∈llCells x,c.lt n:=by simp [llCells,AT.lt]
def llRows (ls:List GLL):List (List AT):=ls.map llCells
theorem llRows_get {ls:List GLL} {i:Nat} {x:GLL} (h:ls[i]?=some x):(llRows ls)[i]?=some (llCells x):=by unfold llRows;rw [List.getElem?_map,h];rfl
structure LLOk (σ:Snap) (x:GLL):Prop where
  at_:SlAt σ x.o x.l.length x.c 5 (itRows x.l)
  len:x.l.length<=100000
  lam:Lam x.l
  lv:∀ z∈x.l,-1000000000000<=z.lv/\z.lv<=1000000000000
theorem LLOk.mono {σ σ':Snap} {x:GLL} (h:LLOk σ x) (hle:σ.le σ'):LLOk σ' x:=⟨h.at_.mono hle,h.len,h.lam,h.lv⟩
set_option maxRecDepth 100000 in
set_option maxHeartbeats 1000000 in
theorem Chain1_c (σ:Snap) (x:GLL) (h:LLOk σ x):PlainS Tryz.prog 89 [.a (.v (.slice x.o x.l.length x.c))] σ (fun v=>v=.bool false):=by
  have hlen:=h.len
  refine enter_p Tryz.func89 rfl rfl (by (repeat' (first | exact trivial | constructor))) fun w=>?_
  (repeat (first | refine cj_seq ?_ | refine cjr TT rfl ?_ | refine oj_then ?_))
  refine oj_callP rfl rfl rfl rfl rfl Tryz.call33 (by (repeat' (first | exact trivial | constructor))) (Sound20_c σ x.l (by omega) x.o x.c h.at_) fun v hv=>⟨.a .tt,trivial,by rw [hv,lam_sound h.lam];rfl,?_⟩
  refine oj_run TT rfl ?_
  (repeat (first | refine oj_then ?_ | refine cj_ret ?_))
  refine nj_ret TT rfl fun β w' _ _=>?_
  rfl
set_option maxRecDepth 100000 in
set_option maxHeartbeats 1000000 in
theorem IndexLL_c (σ:Snap) (ls:List GLL) (hl:ls.length<=1000) (hok:∀ x∈ls,LLOk σ x) (ao:Option Addr) (ac:Nat) (H:SlAt σ ao ls.length ac 1 (llRows ls)) :
    PlainS Tryz.prog 163 [.a (.v (.slice ao ls.length ac)),.a (.fn (.func 89) [])] σ (fun v=>v=.int .i64 (-1)):=by
  refine enter_p Tryz.func163 rfl rfl (by (repeat' (first | exact trivial | exact SV.lt_fn0 | constructor))) fun w=>?_
  (repeat (first | refine cj_seq ?_ | refine cjr TT rfl ?_ | refine oj_then ?_ | refine cj_block ?_))
  refine cj_loop (fun (_:Nat)=>σ) (fun k=>[(0,.a (.v (.slice ao ls.length ac))),(1,.a (.fn (.func 89) [])),(7,.a (.v (.int .i64 ls.length))),(8,.a (.v (.int .i64 k)))]) (fun _=>[]) (fun _=>[]) 0 (fun k=>k<=ls.length) (fun k=>ls.length - k) 0 (Nat.zero_le _) rfl (by (repeat first | exact trivial | refine ⟨rfl,?_⟩)) (by (repeat first | exact trivial | refine ⟨rfl,?_⟩)) rfl (by (repeat' (first | exact trivial | exact SV.lt_fn0 | constructor))) (by (repeat' exact trivial)) fun k hk=>?_
  (repeat (first | refine cj_seq ?_ | refine cjr TT rfl ?_ | refine oj_then ?_))
  refine cj_if rfl (fun h=>?_) (fun h=>?_)
  rotate_left
  · (repeat (first | refine cj_seq ?_ | refine cjr TT rfl ?_ | refine oj_then ?_ | refine cj_exit ?_ | refine cj_ret ?_ | refine nj_then ?_ | refine nj_then_exit ?_ | refine nj_block_out ?_))
    refine nj_ret TT rfl fun β w' _ _=>?_
    rfl
  have hkl:k<ls.length:=by have:=of_decide_eq_true h;omega
  have hrow:=llRows_get (List.getElem?_eq_getElem hkl)
  have hx:=hok ls[k] (List.getElem_mem hkl)
  generalize ls[k]=x at *
  (repeat (first | refine cj_seq ?_ | refine cjr TT rfl ?_ | refine oj_then ?_ | refine cj_skip ?_ | refine cj_block ?_ | refine nj_then ?_))
  refine oj_idx TT rfl rfl rfl rfl rfl rfl rfl rfl rfl H (by omega) hrow (oj_run TT rfl ?_)
  refine oj_callP rfl rfl rfl rfl rfl Tryz.call89 (by (repeat' (first | exact trivial | constructor))) (Chain1_c σ x hx) fun v hv=>⟨.a .ff,trivial,hv.symm,?_⟩
  refine oj_run TT rfl ?_
  (repeat (first | refine cjr TT rfl ?_ | refine oj_then ?_ | refine oj_nil ?_ | refine cj_if_f rfl ?_ | refine cj_skip ?_ | refine nj_then ?_ | refine nj_block ?_ | (refine oj_add rfl rfl rfl rfl rfl rfl (by omega) ?_;refine oj_run TT rfl ?_)))
  refine nj_again (k+1) (show k+1<=ls.length from hkl) (by omega) rfl (by (repeat first | exact trivial | refine ⟨rfl,?_⟩)) (by (repeat first | exact trivial | refine ⟨rfl,?_⟩)) rfl (by (repeat' (first | exact trivial | exact SV.lt_fn0 | constructor))) (by (repeat' exact trivial))
set_option maxRecDepth 100000 in
set_option maxHeartbeats 1000000 in
theorem ContainsLL_c (σ:Snap) (ls:List GLL) (hl:ls.length<=1000) (hok:∀ x∈ls,LLOk σ x) (ao:Option Addr) (ac:Nat) (H:SlAt σ ao ls.length ac 1 (llRows ls)) :
    PlainS Tryz.prog 88 [.a (.v (.slice ao ls.length ac)),.a (.fn (.func 89) [])] σ (fun v=>v=.bool false):=by
  refine enter_p Tryz.func88 rfl rfl (by (repeat' (first | exact trivial | exact SV.lt_fn0 | constructor))) fun w=>?_
  (repeat (first | refine cj_seq ?_ | refine cjr TT rfl ?_ | refine oj_then ?_))
  refine oj_callP rfl rfl rfl rfl rfl Tryz.call163 (by (repeat' (first | exact trivial | exact SV.lt_fn0 | constructor))) (IndexLL_c σ ls hl hok ao ac H) fun v hv=>⟨.a (.v (.int .i64 (-1))),trivial,hv.symm,?_⟩
  refine oj_run TT rfl ?_
  (repeat (first | refine oj_then ?_ | refine cj_ret ?_))
  refine nj_ret TT rfl fun β w' _ _=>?_
  rfl
set_option maxRecDepth 100000 in
set_option maxHeartbeats 1000000 in
theorem IndexOp_c (σ:Snap) (S:List OI) (hl:S.length<=1000000) (so:Option Addr) (sc:Nat) (H:SlAt σ so S.length sc 6 (opRows S)) (f:FuncId) (caps:List PT) (hcap:LtAll (caps.map ptSV))
    (hcall:∀ args w,(callFunc f args).run Tryz.prog w=.ok (.enter f args) w) (hlt:(SV.a (.fn (.func f) caps)).lt 0) (q:OI->Bool) (hq:∀ z∈S,PlainS Tryz.prog f (.agg (opCells z)::caps.map ptSV) σ (fun v=>v=.bool (q z))) :
    PlainS Tryz.prog 164 [.a (.v (.slice so S.length sc)),.a (.fn (.func f) caps)] σ (fun v=>∃ i:Int,v=.int .i64 i/\decide (0<=i)=S.any q):=by
  refine enter_p Tryz.func164 rfl rfl ⟨trivial,hlt,trivial⟩ fun w=>?_
  (repeat (first | refine cj_seq ?_ | refine cjr TT rfl ?_ | refine oj_then ?_ | refine cj_block ?_))
  refine cj_loop (fun (_:Nat)=>σ) (fun k=>[(0,.a (.v (.slice so S.length sc))),(1,.a (.fn (.func f) caps)),(7,.a (.v (.int .i64 S.length))),(8,.a (.v (.int .i64 k)))]) (fun _=>[]) (fun _=>[]) 0 (fun k=>k<=S.length/\(S.take k).any q=false) (fun k=>S.length - k) 0 ⟨Nat.zero_le _,rfl⟩ rfl (by (repeat first | exact trivial | refine ⟨rfl,?_⟩)) (by (repeat first | exact trivial | refine ⟨rfl,?_⟩)) rfl ⟨trivial,hlt,trivial,trivial,trivial⟩ trivial fun k ⟨hk,hp⟩=>?_
  (repeat (first | refine cj_seq ?_ | refine cjr TT rfl ?_ | refine oj_then ?_))
  refine cj_if rfl (fun h=>?_) (fun h=>?_)
  rotate_left
  · have hk0:k=S.length:=by have:=of_decide_eq_false h;omega
    rw [hk0,List.take_length] at hp
    (repeat (first | refine cj_seq ?_ | refine cjr TT rfl ?_ | refine oj_then ?_ | refine cj_exit ?_ | refine cj_ret ?_ | refine nj_then ?_ | refine nj_then_exit ?_ | refine nj_block_out ?_))
    refine nj_ret TT rfl fun β w' _ _=>?_
    exact ⟨-1,rfl,by rw [hp];rfl⟩
  have hkl:k<S.length:=by have:=of_decide_eq_true h;omega
  have hrow:=opRows_get (List.getElem?_eq_getElem hkl)
  have hz:=List.getElem_mem hkl
  have hqz:=hq S[k] hz
  have htk:S.take (k+1)=S.take k++[S[k]]:=List.take_succ_eq_append_getElem hkl
  generalize S[k]=z at *
  (repeat (first | refine cj_seq ?_ | refine cjr TT rfl ?_ | refine oj_then ?_ | refine cj_skip ?_ | refine cj_block ?_ | refine nj_then ?_))
  refine oj_idx TT rfl rfl rfl rfl rfl rfl rfl rfl rfl H (by omega) hrow (oj_run TT rfl ?_)
  refine oj_callP (ys:=.agg (opCells z)::caps.map ptSV) rfl rfl rfl rfl rfl hcall ⟨opCells_lt 0 z,hcap⟩ hqz fun v hv=>⟨.a (.b (q z)),trivial,hv.symm,?_⟩
  refine oj_run TT rfl ?_
  (repeat refine oj_then ?_)
  refine cj_if rfl (fun h=>?_) (fun h=>?_)
  · have h:q z=true:=h
    (repeat (first | refine cj_seq ?_ | refine cjr TT rfl ?_ | refine oj_then ?_ | refine cj_ret ?_ | refine nj_then_ret ?_ | refine nj_block_ret ?_))
    refine nj_ret TT rfl fun β w' _ _=>?_
    refine ⟨(k:Int),rfl,?_⟩
    rw [decide_eq_true (by omega)]
    symm
    rw [List.any_eq_true]
    exact ⟨z,hz,h⟩
  · have h:q z=false:=h
    (repeat (first | refine cjr TT rfl ?_ | refine oj_nil ?_ | refine cj_skip ?_ | refine nj_then ?_ | refine nj_block ?_ | (refine oj_add rfl rfl rfl rfl rfl rfl (by omega) ?_;refine oj_run TT rfl ?_)))
    refine nj_again (k+1) ⟨hkl,by rw [htk,List.any_append,hp,List.any_cons,h];rfl⟩ (by omega) rfl (by (repeat first | exact trivial | refine ⟨rfl,?_⟩)) (by (repeat first | exact trivial | refine ⟨rfl,?_⟩)) rfl ⟨trivial,hlt,trivial,trivial,trivial⟩ trivial
set_option maxRecDepth 100000 in
set_option maxHeartbeats 1000000 in
theorem ContainsOp_c (σ:Snap) (S:List OI) (hl:S.length<=1000000) (so:Option Addr) (sc:Nat) (H:SlAt σ so S.length sc 6 (opRows S)) (f:FuncId) (caps:List PT) (hcap:LtAll (caps.map ptSV))
    (hcall:∀ args w,(callFunc f args).run Tryz.prog w=.ok (.enter f args) w) (hlt:(SV.a (.fn (.func f) caps)).lt 0) (q:OI->Bool) (hq:∀ z∈S,PlainS Tryz.prog f (.agg (opCells z)::caps.map ptSV) σ (fun v=>v=.bool (q z))) :
    PlainS Tryz.prog 92 [.a (.v (.slice so S.length sc)),.a (.fn (.func f) caps)] σ (fun v=>v=.bool (S.any q)):=by
  refine enter_p Tryz.func92 rfl rfl ⟨trivial,hlt,trivial⟩ fun w=>?_
  (repeat (first | refine cj_seq ?_ | refine cjr TT rfl ?_ | refine oj_then ?_))
  refine oj_callP rfl rfl rfl rfl rfl Tryz.call164 ⟨trivial,hlt,trivial⟩ (IndexOp_c σ S hl so sc H f caps hcap hcall hlt q hq) fun v ⟨i,hv,hi⟩=>⟨.a (.v (.int .i64 i)),trivial,hv.symm,?_⟩
  refine oj_run TT rfl ?_
  (repeat (first | refine oj_then ?_ | refine cj_ret ?_))
  refine nj_ret TT rfl fun β w' _ _=>?_
  exact congrArg Value.bool hi
set_option maxRecDepth 100000 in
set_option maxHeartbeats 1000000 in
theorem Chain3_c (σ:Snap) (gl gn g6 gk:Nat) (lo:Option Addr) (lc:Nat) (ls:List GLL) (HL:SlAt σ lo ls.length lc 1 (llRows ls)) (n:Nat) (d:GLL) (hd:ls[n]?=some d) (hok:LLOk σ d) (k:Nat) (x:GItem) (hx:d.l[k]?=some x) (kid:Bool)
    (h1:σ.cell ⟨gl,0,none⟩=some (.slice lo ls.length lc)) (h2:σ.cell ⟨gn,0,none⟩=some (.int .i64 n)) (h3:σ.cell ⟨g6,0,none⟩=some (.int .i64 k)) (h4:σ.cell ⟨gk,0,none⟩=some (.bool kid)) (z:OI) (hz:-1000000000000<=z.1.lv/\z.1.lv<=1000000000000) :
    PlainS Tryz.prog 93 [.agg (opCells z),.a (.v (.pointer (some ⟨gl,0,none⟩))),.a (.v (.pointer (some ⟨gn,0,none⟩))),.a (.v (.pointer (some ⟨g6,0,none⟩))),.a (.v (.pointer (some ⟨gk,0,none⟩)))] σ (fun v=>v=.bool (fitsI z.1 x kid)):=by
  have hrow1:=llRows_get hd
  have hrow2:=itRows_get hx
  refine enter_p Tryz.func93 rfl rfl ⟨opCells_lt 0 z,trivial,trivial,trivial,trivial,trivial⟩ fun w=>?_
  (repeat (first | refine cj_seq ?_ | refine cjr TT rfl ?_ | refine oj_then ?_))
  refine cj_draw [(0,.pure),(1,.quiet),(2,.quiet),(3,.quiet),(4,.pure),(5,.quiet),(6,.quiet),(7,.pure),(8,.quiet),(9,.quiet),(10,.keep),(11,.pure)] mixed (by kernel_rfl) (oj_run TT rfl ?_)
  refine oj_ldS (c:=.v (.slice lo ls.length lc)) TT rfl rfl rfl rfl rfl rfl rfl rfl h1 trivial (oj_run TT rfl ?_)
  refine oj_ldS (c:=.v (.int .i64 n)) TT rfl rfl rfl rfl rfl rfl rfl rfl h2 trivial (oj_run TT rfl ?_)
  refine oj_idx TT rfl rfl rfl rfl rfl rfl rfl rfl rfl HL (by omega) hrow1 (oj_run TT rfl ?_)
  refine oj_ldS (c:=.v (.int .i64 k)) TT rfl rfl rfl rfl rfl rfl rfl rfl h3 trivial (oj_run TT rfl ?_)
  refine oj_idx TT rfl rfl rfl rfl rfl rfl rfl rfl rfl hok.at_ (by omega) hrow2 (oj_run TT rfl ?_)
  refine oj_ldS (c:=.b kid) TT rfl rfl rfl rfl rfl rfl rfl rfl h4 trivial (oj_run TT rfl ?_)
  refine oj_callP (ys:=[.agg (itCells z.1),.agg (itCells x),.a (.b kid)]) rfl rfl rfl rfl rfl Tryz.call87 ⟨itCells_lt 0 _,itCells_lt 0 _,trivial,trivial⟩ (fits_c σ z.1 x kid hz) fun v hv=>⟨.a (.b (fitsI z.1 x kid)),trivial,hv.symm,?_⟩
  refine oj_run TT rfl ?_
  (repeat (first | refine oj_then ?_ | refine cj_ret ?_))
  refine nj_ret TT rfl fun β w' _ _=>?_
  rfl
theorem fnLt4 (f:FuncId) (g1 g2 g3 g4:Nat):(SV.a (.fn (.func f) [.val (.pointer (some ⟨g1,0,none⟩)),.val (.pointer (some ⟨g2,0,none⟩)),.val (.pointer (some ⟨g3,0,none⟩)),.val (.pointer (some ⟨g4,0,none⟩))])).lt 0:=by
  intro p hp
  simp only [List.mem_cons,List.not_mem_nil,or_false] at hp
  rcases hp with rfl | rfl | rfl | rfl<;>trivial
set_option maxRecDepth 100000 in
set_option maxHeartbeats 2000000 in
theorem Chain2_c (σ:Snap) (gl gn gk go:Nat) (lo:Option Addr) (lc:Nat) (ls:List GLL) (HL:SlAt σ lo ls.length lc 1 (llRows ls)) (n:Nat) (d:GLL) (hd:ls[n]?=some d) (hok:LLOk σ d) (k:Nat) (x:GItem) (hx:d.l[k]?=some x) (kid:Bool)
    (h1:σ.cell ⟨gl,0,none⟩=some (.slice lo ls.length lc)) (h2:σ.cell ⟨gn,0,none⟩=some (.int .i64 n)) (h4:σ.cell ⟨gk,0,none⟩=some (.bool kid)) (S:List OI) (hS:S.length<=100000) (hSl:∀ z∈S,-1000000000000<=z.1.lv/\z.1.lv<=1000000000000) (so:Option Addr) (sc:Nat) (hsc:S.length<=sc)
    (o:List Int) (ho:o.length<=1000000) (po:Option Addr) (pc:Nat) (hpc:o.length<=pc) :
    FnS Tryz.prog 91 [.a (.v (.int .i64 k)),.a (.v (.slice so S.length sc)),.a (.v (.pointer (some ⟨gl,0,none⟩))),.a (.v (.pointer (some ⟨gn,0,none⟩))),.a (.v (.pointer (some ⟨gk,0,none⟩))),.a (.v (.pointer (some ⟨go,0,none⟩)))] σ [opE so sc S,outE go 74 po o.length pc,idE po pc o]
      (fun v _ A'=>v=.tuple #[]/\∃ po' pc',(o++if S.any (fun z=>fitsI z.1 x kid) then [(k:Int)] else []).length<=pc'/\A'=[opE so sc S,outE go 74 po' (o++if S.any (fun z=>fitsI z.1 x kid) then [(k:Int)] else []).length pc',idE po' pc' (o++if S.any (fun z=>fitsI z.1 x kid) then [(k:Int)] else [])]):=by
  refine enter_f Tryz.func91 rfl rfl (by (repeat' (first | exact trivial | constructor))) fun w=>?_
  (repeat (first | refine cj_seq ?_ | refine cjr TT rfl ?_ | refine oj_then ?_))
  refine oj_own 0 1 1 rfl (by (repeat' (first | exact trivial | refine AllLt.of ?_ | constructor))) rfl (by decide) fun g6=>?_
  refine oj_seal 3 rfl rfl rfl fun s1 hle1 hS1=>?_
  have h3:=cell1_of hS1
  refine oj_peekP rfl rfl rfl rfl rfl Tryz.call92 ⟨trivial,fnLt4 93 gl gn g6 gk,trivial⟩ (fun s2 hle2 hA=>ContainsOp_c s2 S (by omega) so sc (op_sealed (hA 0 _ rfl) hsc) 93 [.val (.pointer (some ⟨gl,0,none⟩)),.val (.pointer (some ⟨gn,0,none⟩)),.val (.pointer (some ⟨g6,0,none⟩)),.val (.pointer (some ⟨gk,0,none⟩))] ⟨trivial,trivial,trivial,trivial,trivial⟩ Tryz.call93 (fnLt4 93 gl gn g6 gk) (fun z=>fitsI z.1 x kid)
    fun z hz=>Chain3_c s2 gl gn g6 gk lo lc ls ((HL.mono hle1).mono hle2) n d hd ((hok.mono hle1).mono hle2) k x hx kid (hle2.cell (hle1.cell h1)) (hle2.cell (hle1.cell h2)) (hle2.cell h3) (hle2.cell (hle1.cell h4)) z (hSl z hz)) fun v hv=>⟨.a (.b (S.any fun z=>fitsI z.1 x kid)),trivial,hv.symm,?_⟩
  refine oj_run TT rfl ?_
  (repeat refine oj_then ?_)
  refine cj_if rfl (fun h=>?_) (fun h=>?_)
  · have h:(S.any fun z=>fitsI z.1 x kid)=true:=h
    rw [h,if_pos rfl]
    (repeat refine cjr TT rfl ?_)
    refine oj_ldA 1 (c:=.v (.slice po o.length pc)) TT rfl rfl rfl rfl rfl rfl rfl rfl rfl rfl rfl trivial (oj_run TT rfl ?_)
    refine oj_ldS (c:=.v (.int .i64 k)) TT rfl rfl rfl rfl rfl rfl rfl rfl h3 trivial (oj_run TT rfl ?_)
    refine oj_append_lit TT 2 rfl rfl rfl rfl rfl rfl rfl rfl rfl rfl rfl rfl rfl rfl rfl rfl rfl rfl (by (repeat' (first | exact trivial | refine AllLt.of ?_ | constructor))) rfl (by omega) (by show (o.length+1)*8<=_;omega) fun po1 pc1 hpc1=>oj_run TT rfl ?_
    refine oj_stA 1 (A':=[opE so sc S,outE go 74 po1 (o.length+1) pc1,⟨po1,o.length+1,pc1,3,1,idXs o++[.int .i64 k]⟩]) TT rfl rfl rfl rfl rfl rfl rfl rfl rfl rfl (by show 0<1*1;omega) trivial rfl rfl (oj_run TT rfl ?_)
    (repeat refine oj_nil ?_)
    refine nj_fend TT rfl fun β w' _ _=>?_
    have hl1:(o++[(k:Int)]).length=o.length+1:=by simp
    rw [hl1]
    refine ⟨rfl,po1,pc1,hpc1,?_⟩
    unfold idE idXs
    rw [hl1,List.map_append]
    rfl
  · have h:(S.any fun z=>fitsI z.1 x kid)=false:=h
    rw [h,if_neg (by decide),List.append_nil]
    (repeat refine cj_skip ?_)
    refine nj_fend TT rfl fun β w' _ _=>?_
    exact ⟨rfl,po,pc,hpc,rfl⟩
end Go.Sy
namespace Go.Sy
open Go.Proofs
def withinI (a d:List GItem) (kid:Bool):List Int:=(withinG a d kid).map Int.ofNat
def withinK (a d:List GItem) (kid:Bool) (k:Nat):List Int:=((d.zipIdx.take k).filter fun x=>a.any fun z=>fitsI z x.1 kid).map fun x=>(x.2:Int)
theorem withinK_all (a d:List GItem) (kid:Bool):withinK a d kid d.length=withinI a d kid:=by
  unfold withinK withinI withinG
  rw [List.take_of_length_le (by rw [List.length_zipIdx];exact Nat.le_refl _),List.map_map]
  rfl
theorem withinK_succ {a d:List GItem} {kid:Bool} {k:Nat} {x:GItem} (h:d[k]?=some x):withinK a d kid (k+1)=withinK a d kid k++if a.any (fun z=>fitsI z x kid) then [(k:Int)] else []:=by
  have hk:=(List.getElem?_eq_some_iff.1 h).1
  unfold withinK
  rw [List.take_succ_eq_append_getElem (by rw [List.length_zipIdx];exact hk),List.filter_append,List.map_append]
  have h2:=zip_get h
  rw [List.getElem?_eq_getElem (by rw [List.length_zipIdx];exact hk)] at h2
  rw [Option.some.inj h2]
  congr 1
  rw [List.filter_cons]
  dsimp only
  split<;>rfl
theorem withinK_len (a d:List GItem) (kid:Bool) (k:Nat):(withinK a d kid k).length<=k:=by
  unfold withinK
  rw [List.length_map]
  refine Nat.le_trans (List.length_filter_le _ _) ?_
  rw [List.length_take]
  omega
theorem any_filter {α:Type} (p:α->Bool) (l:List α):l.any p=!(l.filter p).isEmpty:=by
  induction l with
  | nil=>rfl
  | cons x l ih =>
    rw [List.any_cons,List.filter_cons]
    cases p x
    · rw [if_neg (by decide),<-ih];rfl
    · rfl
theorem any_zip {α:Type} (p:α->Bool) (l:List α):(l.zipIdx.any fun z=>p z.1)=l.any p:=by
  conv=>rhs;rw [<-List.zipIdx_map_fst 0 l]
  rw [List.any_map]
  rfl
structure UpS where
  k:Nat
  o:List Int
  oo:Option Addr
  oc:Nat
def numE (g k:Nat):AE:=⟨some ⟨g,0,none⟩,1,1,3,1,[.int .i64 k]⟩
structure ChS where
  k:Nat
  l:List Int
  no:Option Addr
  nc:Nat
  g:Nat
  n:Nat
set_option maxRecDepth 100000 in
set_option maxHeartbeats 4000000 in
theorem Chain_c (σ:Snap) (x y:GLL) (hx:LLOk σ x) (hy:LLOk σ y) (lo:Option Addr) (lc:Nat) (HL:SlAt σ lo 2 lc 1 (llRows [x,y])) (po:Option Addr) (pn pc:Nat) (prows:List (List AT)) (HP:SlAt σ po pn pc 1 prows) (kid:Bool) (hk:(pn=0/\kid=false)\/(pn=2/\prows[1]?=some [.b kid])) :
    PureS Tryz.prog 32 [.a (.v (.slice lo 2 lc)),.a (.v (.slice po pn pc))] σ (fun v σ'=>∃ (oo:Option Addr) (oc n:Nat),v=.tuple #[.slice oo (withinI x.l y.l kid).length oc,.int .i64 n]/\n<=x.l.length/\SlAt σ' oo (withinI x.l y.l kid).length oc 1 (idRows (withinI x.l y.l kid))):=by
  have hxl:=hx.len
  have hyl:=hy.len
  have hrx:(llRows [x,y])[0]?=some (llCells x):=rfl
  have hry:(llRows [x,y])[1]?=some (llCells y):=rfl
  refine enter_s Tryz.func32 rfl rfl (by (repeat' (first | exact trivial | constructor))) fun w=>?_
  (repeat (first | refine cj_seq ?_ | refine cjr TT rfl ?_ | refine oj_then ?_))
  refine oj_own 0 1 1 rfl (by (repeat' (first | exact trivial | refine AllLt.of ?_ | constructor))) rfl (by decide) fun gl=>?_
  refine oj_seal 0 rfl rfl rfl fun s1 hle1 hS1=>?_
  have hgl:=cell1_of hS1
  have HL:=HL.mono hle1
  have HP:=HP.mono hle1
  have hx:=hx.mono hle1
  have hy:=hy.mono hle1
  skip
  refine oj_split 15 rfl (fun h=>absurd (show decide ((2:Int)=0)=true from h) (by decide)) (fun _=>?_)
  refine oj_run TT rfl ?_
  refine oj_ldS (c:=.v (.slice lo 2 lc)) TT rfl rfl rfl rfl rfl rfl rfl rfl hgl trivial (oj_run TT rfl ?_)
  refine oj_callP rfl rfl rfl rfl rfl Tryz.call88 (by (repeat' (first | exact trivial | exact SV.lt_fn0 | constructor))) (ContainsLL_c s1 [x,y] (by show 2<=1000;omega) (by intro z hz;simp only [List.mem_cons,List.not_mem_nil,or_false] at hz;rcases hz with rfl | rfl;exact hx;exact hy) lo lc HL) fun v hv=>⟨.a .ff,trivial,hv.symm,?_⟩
  refine oj_run TT rfl ?_
  (repeat (first | refine cj_seq ?_ | refine cjr TT rfl ?_ | refine oj_then ?_ | refine cj_if_f rfl ?_ | refine cj_skip ?_ | refine nj_then ?_))
  refine oj_ldS (c:=.v (.slice lo 2 lc)) TT rfl rfl rfl rfl rfl rfl rfl rfl hgl trivial (oj_run TT rfl ?_)
  refine oj_idx TT rfl rfl rfl rfl rfl rfl rfl rfl rfl HL (by decide) hrx (oj_run TT rfl ?_)
  (repeat (first | refine oj_then ?_ | refine cj_block ?_))
  refine cj_nilarr 3 1 ?_
  skip
  refine cj_loop (fun (_:UpS)=>s1) (fun t=>[(1,.a (.v (.slice po pn pc))),(2,.a (.v (.pointer (some ⟨gl,0,none⟩)))),(6,.a (.v (.slice t.oo t.o.length t.oc))),(22,.a (.v (.int .i64 x.l.length))),(23,.a (.v (.int .i64 (t.k:Nat))))]) (fun _=>[]) (fun t=>[idE t.oo t.oc t.o]) 0
    (fun t=>t.k<=x.l.length/\t.o=upto t.k/\t.o.length<=t.oc) (fun t=>x.l.length - t.k) ⟨0,[],none,0⟩ ⟨Nat.zero_le _,rfl,Nat.le_refl _⟩ rfl (by (repeat first | exact trivial | refine ⟨rfl,?_⟩)) (by (repeat first | exact trivial | refine ⟨rfl,?_⟩)) rfl (by (repeat' (first | exact trivial | constructor))) (by (repeat' exact trivial)) fun ⟨k,o,oo,oc⟩ ⟨hk',ho,hoc⟩=>?_
  dsimp only at hk' ho hoc ⊢
  (repeat (first | refine cj_seq ?_ | refine cjr TT rfl ?_ | refine oj_then ?_))
  refine cj_if rfl (fun h=>?_) (fun h=>?_)
  · have hkl:k<x.l.length:=by have:=of_decide_eq_true h;omega
    have hol:o.length=k:=by rw [ho,upto_len]
    (repeat (first | refine cj_seq ?_ | refine cjr TT rfl ?_ | refine oj_then ?_ | refine cj_skip ?_ | refine cj_block ?_ | refine nj_then ?_))
    refine oj_append_lit TT 0 rfl rfl rfl rfl rfl rfl rfl rfl rfl rfl rfl rfl rfl rfl rfl rfl rfl rfl (by (repeat' (first | exact trivial | refine AllLt.of ?_ | constructor))) rfl (by omega) (by show (o.length+1)*8<=_;omega) fun oo' oc' hoc'=>oj_run TT rfl ?_
    (repeat (first | refine cjr TT rfl ?_ | refine oj_nil ?_ | refine nj_then ?_ | refine nj_block ?_ | (refine oj_add rfl rfl rfl rfl rfl rfl (by omega) ?_;refine oj_run TT rfl ?_)))
    have hl1:(o++[(k:Int)]).length=o.length+1:=by simp
    refine nj_again (⟨k+1,o++[(k:Int)],oo',oc'⟩:UpS) ⟨hkl,by dsimp only;rw [upto_succ,ho],by dsimp only;omega⟩ (by dsimp only;omega) rfl ?_ (by (repeat first | exact trivial | refine ⟨rfl,?_⟩)) ?_ (by (repeat' (first | exact trivial | constructor))) (by (repeat' exact trivial))
    · dsimp only
      rw [hl1]
      (repeat first | exact trivial | refine ⟨rfl,?_⟩)
    · show [_]=[_]
      dsimp only
      unfold idE idXs
      rw [hl1,List.map_append]
      rfl
  have hk0:k=x.l.length:=by have:=of_decide_eq_false h;omega
  subst hk0
  (repeat (first | refine cj_seq ?_ | refine cjr TT rfl ?_ | refine oj_then ?_ | refine cj_block ?_ | refine cj_exit ?_ | refine nj_then ?_ | refine nj_then_exit ?_ | refine nj_block_out ?_))
  refine cj_seal 0 rfl rfl fun s2 hle2 hS2=>?_
  have HN:=id_sealed hS2 hoc
  refine cj_own 0 1 1 rfl (by (repeat' (first | exact trivial | refine AllLt.of ?_ | constructor))) rfl (by decide) fun g0=>?_
  refine cj_loop2 (fun (s:Snap) (_:ChS)=>s) (fun _ t=>[(1,.a (.v (.slice po pn pc))),(2,.a (.v (.pointer (some ⟨gl,0,none⟩)))),(6,.a (.v (.slice t.no t.l.length t.nc))),(8,.a (.v (.int .i64 (t.n:Nat)))),(9,.a (.v (.pointer (some ⟨t.g,0,none⟩))))]) (fun _ _=>[]) (fun _ t=>[numE t.g t.k]) 0
    (fun s t=>s1.le s/\t.n<=x.l.length/\SlAt s t.no t.l.length t.nc 1 (idRows t.l)/\((t.k=1/\t.l=upto x.l.length/\t.n=0)\/(t.k=2/\t.l=withinI x.l y.l kid))) (fun _ t=>2 - t.k) s2 ⟨1,o,oo,oc,g0,0⟩ ⟨hle2,Nat.zero_le _,HN,.inl ⟨rfl,ho,rfl⟩⟩ rfl (by (repeat first | exact trivial | refine ⟨rfl,?_⟩)) (by (repeat first | exact trivial | refine ⟨rfl,?_⟩)) rfl (by (repeat' (first | exact trivial | constructor))) (by (repeat' exact trivial)) fun s ⟨k,l,no,nc,g,n⟩ ⟨hle,hn,HN,hst⟩=>?_
  dsimp only at hn HN hst ⊢
  have hgl:=hle.cell hgl
  have HL:=HL.mono hle
  have HP:=HP.mono hle
  have hx:=hx.mono hle
  have hy:=hy.mono hle
  rcases hst with ⟨rfl,rfl,rfl⟩ | ⟨rfl,rfl⟩
  rotate_left
  · (repeat (first | refine cj_seq ?_ | refine cjr TT rfl ?_))
    refine oj_ldA 0 (c:=.v (.int .i64 (2:Nat))) TT rfl rfl rfl rfl rfl rfl rfl rfl rfl rfl rfl trivial (oj_run TT rfl ?_)
    refine oj_ldS (c:=.v (.slice lo 2 lc)) TT rfl rfl rfl rfl rfl rfl rfl rfl hgl trivial (oj_run TT rfl ?_)
    (repeat refine oj_then ?_)
    refine cj_if rfl (fun h=>absurd (show decide ((2:Int)<2)=true from h) (by decide)) (fun _=>?_)
    (repeat (first | refine cj_seq ?_ | refine cjr TT rfl ?_ | refine oj_then ?_ | refine cj_exit ?_ | refine cj_ret ?_ | refine nj_then ?_ | refine nj_then_exit ?_ | refine nj_block_out ?_))
    refine nj_ret TT rfl fun β w' _ _=>?_
    exact ⟨no,nc,n,rfl,hn,HN⟩
  rw [upto_len] at HN ⊢
  (repeat (first | refine cj_seq ?_ | refine cjr TT rfl ?_))
  refine oj_ldA 0 (c:=.v (.int .i64 (1:Nat))) TT rfl rfl rfl rfl rfl rfl rfl rfl rfl rfl rfl trivial (oj_run TT rfl ?_)
  refine oj_ldS (c:=.v (.slice lo 2 lc)) TT rfl rfl rfl rfl rfl rfl rfl rfl hgl trivial (oj_run TT rfl ?_)
  (repeat refine oj_then ?_)
  refine cj_if rfl (fun _=>?_) (fun h=>absurd (show decide ((1:Int)<2)=false from h) (by decide))
  refine cj_skip ?_
  refine nj_then ?_
  refine cj_seq ?_
  refine cj_block ?_
  refine cj_seq ?_
  refine cjr TT rfl ?_
  refine oj_nil ?_
  refine nj_then ?_
  refine cj_seq ?_
  refine cj_cutN (fun (t:Snap×Nat)=>t.1) (fun t=>[(1,.a (.v (.slice po pn pc))),(2,.a (.v (.pointer (some ⟨gl,0,none⟩)))),(6,.a (.v (.slice no x.l.length nc))),(8,.a (.v (.int .i64 (0:Nat)))),(9,.a (.v (.pointer (some ⟨g,0,none⟩)))),(10,.a (.p 0 0)),(11,.a (.v (.pointer (some ⟨t.2,0,none⟩))))])
    (fun _=>[(0,.loc 74,[.v (.slice none 0 0)])]) (fun _=>[numE g 1]) 1 (fun t=>s.le t.1/\t.1.cell ⟨t.2,0,none⟩=some (.bool kid)) ?_ (fun ⟨s4,gk⟩ ⟨hle4,hgk⟩=>?_)
  · rcases hk with ⟨rfl,rfl⟩ | ⟨rfl,hkd⟩
    · (repeat refine cjr TT rfl ?_)
      refine oj_ldA 0 (c:=.v (.int .i64 (1:Nat))) TT rfl rfl rfl rfl rfl rfl rfl rfl rfl rfl rfl trivial (oj_run TT rfl ?_)
      refine oj_split 41 rfl (fun h=>absurd (show decide ((1:Int)<0)=true from h) (by decide)) (fun _=>?_)
      refine oj_run TT rfl ?_
      (repeat refine oj_nil ?_)
      refine nj_own 1 1 1 rfl (by (repeat' (first | exact trivial | refine AllLt.of ?_ | constructor))) rfl (by decide) fun gk=>?_
      refine nj_seal 1 rfl rfl fun s4 hle4 hS4=>?_
      refine nj_again (s4,gk) ⟨hle4,cell1_of hS4⟩ Nat.zero_lt_one rfl (by (repeat first | exact trivial | refine ⟨rfl,?_⟩)) (by (repeat first | exact trivial | refine ⟨rfl,?_⟩)) rfl (by (repeat' (first | exact trivial | exact Nat.le_of_ble_eq_true rfl | constructor))) (by (repeat' (first | exact trivial | exact Nat.le_of_ble_eq_true rfl | refine AllLt.of ?_ | constructor)))
    · (repeat refine cjr TT rfl ?_)
      refine oj_ldA 0 (c:=.v (.int .i64 (1:Nat))) TT rfl rfl rfl rfl rfl rfl rfl rfl rfl rfl rfl trivial (oj_run TT rfl ?_)
      refine oj_split 41 rfl (fun _=>?_) (fun h=>absurd (show decide ((1:Int)<2)=false from h) (by decide))
      refine oj_run TT rfl ?_
      refine oj_ldA 0 (c:=.v (.int .i64 (1:Nat))) TT rfl rfl rfl rfl rfl rfl rfl rfl rfl rfl rfl trivial (oj_run TT rfl ?_)
      refine oj_idx TT rfl rfl rfl rfl rfl rfl rfl rfl rfl HP (by decide) hkd (oj_run TT rfl ?_)
      (repeat refine oj_nil ?_)
      refine nj_own 2 1 1 rfl (by (repeat' (first | exact trivial | refine AllLt.of ?_ | constructor))) rfl (by decide) fun gk=>?_
      refine nj_seal 1 rfl rfl fun s4 hle4 hS4=>?_
      refine nj_again (s4,gk) ⟨hle4,cell1_of hS4⟩ Nat.zero_lt_one rfl (by (repeat first | exact trivial | refine ⟨rfl,?_⟩)) (by (repeat first | exact trivial | refine ⟨rfl,?_⟩)) rfl (by (repeat' (first | exact trivial | exact Nat.le_of_ble_eq_true rfl | constructor))) (by (repeat' (first | exact trivial | exact Nat.le_of_ble_eq_true rfl | refine AllLt.of ?_ | constructor)))
  dsimp only at hle4 hgk ⊢
  refine cj_seal 0 rfl rfl fun s5 hle5 hS5=>?_
  refine cj_own 0 1 1 rfl (by (repeat' (first | exact trivial | refine AllLt.of ?_ | constructor))) rfl (by decide) fun go=>?_
  refine cj_nilarr 3 1 ?_
  have hle45:=Snap.le_trans hle4 hle5
  have hgn:=cell1_of hS5
  have hgk:=hle5.cell hgk
  have hgl:=hle45.cell hgl
  have HL:=HL.mono hle45
  have HN:=HN.mono hle45
  have hx:=hx.mono hle45
  have hy:=hy.mono hle45
  have hfn:=fnLt4 91 gl g gk go
  (repeat refine cj_seq ?_)
  refine cj_draw [(0,.pure),(1,.quiet),(2,.quiet),(3,.pure),(4,.pure),(5,.quiet),(6,.pure),(8,.quiet),(9,.quiet),(10,.pure),(11,.quiet),(12,.pure),(7,.keep),(13,.sink),(14,.pure),(15,.pure)] mixed (by kernel_rfl) (oj_run TT rfl ?_)
  refine oj_ldS (c:=.v (.slice lo 2 lc)) TT rfl rfl rfl rfl rfl rfl rfl rfl hgl trivial (oj_run TT rfl ?_)
  refine oj_ldS (c:=.v (.int .i64 (1:Nat))) TT rfl rfl rfl rfl rfl rfl rfl rfl hgn trivial (oj_run TT rfl ?_)
  (repeat (refine oj_minus rfl rfl rfl rfl rfl rfl (by omega) ?_;refine oj_run TT rfl ?_))
  refine oj_set 50 (.a (.v (.int .i64 (0:Nat)))) rfl trivial (fun _=>rfl) ?_
  refine oj_idx TT rfl rfl rfl rfl rfl rfl rfl rfl rfl HL (by decide) hrx (oj_run TT rfl ?_)
  skip
  refine oj_ldS (c:=.v (.slice lo 2 lc)) TT rfl rfl rfl rfl rfl rfl rfl rfl hgl trivial (oj_run TT rfl ?_)
  refine oj_ldS (c:=.v (.int .i64 (1:Nat))) TT rfl rfl rfl rfl rfl rfl rfl rfl hgn trivial (oj_run TT rfl ?_)
  refine oj_idx TT rfl rfl rfl rfl rfl rfl rfl rfl rfl HL (by decide) hry (oj_run TT rfl ?_)
  skip
  refine oj_callS rfl rfl rfl rfl rfl Tryz.call90 ⟨trivial,trivial,trivial⟩ (kept_c s5 x.l hxl x.o x.c hx.at_ no nc HN) fun v s6 hle6 ⟨ko,kc,hv,HK⟩=>⟨.a (.v (.slice ko x.l.length kc)),trivial,hv.symm,?_⟩
  have hgn:=hle6.cell hgn
  have hgk:=hle6.cell hgk
  have hgl:=hle6.cell hgl
  have HL:=HL.mono hle6
  have hx:=hx.mono hle6
  have hy:=hy.mono hle6
  refine oj_run TT rfl ?_
  refine oj_callF [0,1] (A0:=[outE go 74 none 0 0,idE none 0 []]) (Ar:=[]) rfl rfl rfl rfl rfl rfl rfl Tryz.call85 ⟨trivial,trivial,hfn,trivial⟩
    (sweep_c s6 x.l y.l hxl hyl ko kc HK y.o y.c hy.at_ hx.lam hy.lam 91 [.val (.pointer (some ⟨gl,0,none⟩)),.val (.pointer (some ⟨g,0,none⟩)),.val (.pointer (some ⟨gk,0,none⟩)),.val (.pointer (some ⟨go,0,none⟩))] ⟨trivial,trivial,trivial,trivial,trivial⟩ Tryz.call91 hfn
      (fun st:UpS=>outE go 74 st.oo st.o.length st.oc) (fun st=>idE st.oo st.oc st.o) (fun k st=>st.o=withinK x.l y.l kid k/\st.o.length<=st.oc) ⟨0,[],none,0⟩ ⟨rfl,Nat.le_refl _⟩
      (fun σ' k i z st so sc hle hz ⟨hR1,hR2⟩ hn hoa hos=>by
        have hk:=(List.getElem?_eq_some_iff.1 hz).1
        have hlen:=withinK_len x.l y.l kid k
        have hof:=open_fits hn hx.lam (hy.lam.se z (List.mem_of_getElem? hz)) kid
        have hany:((openAt x.l i z).any fun u=>fitsI u.1 z kid)=x.l.any fun u=>fitsI u z kid:=by
          rw [any_filter,hof,<-any_filter]
          exact any_zip (fun u=>fitsI u z kid) x.l
        have hch:=Chain2_c σ' gl g gk go lo lc [x,y] (HL.mono hle) 1 y rfl (hy.mono hle) k z hz kid (hle.cell hgl) (hle.cell hgn) (hle.cell hgk) (openAt x.l i z) (by omega) (fun u hu=>by
          obtain ⟨hu1,-⟩:=List.mem_filter.1 hu
          exact hx.lv u.1 (List.mem_of_getElem? (mem_zip_take hu1).2)) so sc hos st.o (by rw [hR1];omega) st.oo st.oc hR2
        rw [hany] at hch
        refine hch.mono fun v σ2 A2 _ ⟨hv,po',pc',hpc,hA⟩=>⟨hv,⟨0,_,po',pc'⟩,⟨?_,hpc⟩,hA⟩
        show st.o++_=_
        rw [withinK_succ hz,hR1]))
    fun v s7 A7 hle7 ⟨n,hv,hn,⟨_,o7,oo7,oc7⟩,⟨hR1,hR2⟩,hA⟩=>⟨.a (.v (.int .i64 n)),trivial,hv.symm,?_⟩
  subst hA
  dsimp only at hR1 hR2 ⊢
  rw [withinK_all] at hR1
  subst hR1
  have hgn:=hle7.cell hgn
  refine oj_run TT rfl ?_
  (repeat (first | refine cjr TT rfl ?_ | refine oj_then ?_ | (refine oj_add rfl rfl rfl rfl rfl rfl (by omega) ?_;refine oj_run TT rfl ?_)))
  refine oj_ldA 0 (c:=.v (.slice oo7 (withinI x.l y.l kid).length oc7)) TT rfl rfl rfl rfl rfl rfl rfl rfl rfl rfl rfl trivial (oj_run TT rfl ?_)
  (repeat (first | refine cj_seq ?_ | refine cjr TT rfl ?_ | refine oj_nil ?_ | refine nj_then ?_ | refine nj_block ?_))
  refine oj_ldS (c:=.v (.int .i64 (1:Nat))) TT rfl rfl rfl rfl rfl rfl rfl rfl hgn trivial (oj_run TT rfl ?_)
  (repeat (first | refine cjr TT rfl ?_ | refine oj_then ?_ | refine oj_nil ?_ | (refine oj_add rfl rfl rfl rfl rfl rfl (by omega) ?_;refine oj_run TT rfl ?_)))
  refine nj_seal 1 rfl rfl fun s8 hle8 hS8=>?_
  refine nj_own 3 1 1 rfl (by (repeat' (first | exact trivial | refine AllLt.of ?_ | constructor))) rfl (by decide) fun g9=>?_
  refine nj_re [1] (A':=[numE g9 2]) rfl rfl ?_
  refine nj_set 8 (.a (.v (.int .i64 n))) rfl trivial (fun _=>congrArg (Value.int .i64) (by omega)) ?_
  refine nj_again (s8,(⟨2,withinI x.l y.l kid,oo7,oc7,g9,n⟩:ChS)) ⟨Snap.le_trans hle (Snap.le_trans hle45 (Snap.le_trans hle6 (Snap.le_trans hle7 hle8))),hn,id_sealed hS8 hR2,.inr ⟨rfl,rfl⟩⟩ (by dsimp only;omega) rfl (by (repeat first | exact trivial | refine ⟨rfl,?_⟩)) (by (repeat first | exact trivial | refine ⟨rfl,?_⟩)) rfl (by (repeat' (first | exact trivial | constructor))) (by (repeat' exact trivial))
theorem ll2_sealed {σ:Snap} {g:Nat} {x y:GLL} (hS:ArrSealed σ ⟨some ⟨g,0,none⟩,2,2,62,1,[.slice x.o x.l.length x.c,.slice y.o y.l.length y.c]⟩):SlAt σ (some ⟨g,0,none⟩) 2 2 1 (llRows [x,y]) :=
  hS.sl (by rfl) (fun r hr=>by
    obtain ⟨z,_,rfl⟩:=List.mem_map.1 hr
    exact ⟨rfl,llCells_lt 0 z⟩) rfl rfl (Nat.le_refl _)
set_option maxRecDepth 100000 in
set_option maxHeartbeats 2000000 in
theorem Within_c (σ:Snap) (x y:GLL) (hx:LLOk σ x) (hy:LLOk σ y) :
    PureS Tryz.prog 34 [.a (.v (.slice x.o x.l.length x.c)),.a (.v (.slice y.o y.l.length y.c))] σ (fun v σ'=>∃ (oo:Option Addr) (oc:Nat),v=.slice oo (withinI x.l y.l false).length oc/\SlAt σ' oo (withinI x.l y.l false).length oc 1 (idRows (withinI x.l y.l false))):=by
  refine enter_s Tryz.func34 rfl rfl (by (repeat' (first | exact trivial | constructor))) fun w=>?_
  (repeat (first | refine cj_seq ?_ | refine cjr TT rfl ?_ | refine oj_then ?_))
  refine oj_own 0 2 1 rfl (by (repeat' (first | exact trivial | refine AllLt.of ?_ | constructor))) rfl (by decide) fun g=>?_
  refine oj_seal 0 rfl rfl rfl fun s1 hle1 hS1=>?_
  have HL:=ll2_sealed hS1
  refine oj_callS rfl rfl rfl rfl rfl Tryz.call32 ⟨trivial,trivial,trivial⟩ (Chain_c s1 x y (hx.mono hle1) (hy.mono hle1) (some ⟨g,0,none⟩) 2 HL none 0 0 [] (SlAt.nil s1 none 0 1) false (.inl ⟨rfl,rfl⟩)) fun v s2 hle2 ⟨oo,oc,n,hv,_,HO⟩=>⟨.tup [.a (.v (.slice oo (withinI x.l y.l false).length oc)),.a (.v (.int .i64 n))],(by (repeat' (first | exact trivial | refine SV.lt_tup ?_ | constructor))),hv.symm,?_⟩
  refine oj_run TT rfl ?_
  (repeat (first | refine cj_seq ?_ | refine cjr TT rfl ?_ | refine oj_then ?_ | refine cj_ret ?_))
  refine nj_ret TT rfl fun β w' _ _=>?_
  exact ⟨oo,oc,rfl,HO⟩
end Go.Sy
namespace Go.Sy
open Go.Proofs
theorem cnt_apart {A:List GItem} (kk:Int) (hk:∀ x∈A,∀ y∈A,fitsI x y false=true->x.doc=y.doc) :
    (pairsG A A false).length=(pairsG (A.filter fun x=>decide (x.doc=kk)) (A.filter fun x=>decide (x.doc=kk)) false).length+(pairsG (A.filter fun x=>!decide (x.doc=kk)) (A.filter fun x=>!decide (x.doc=kk)) false).length /\
    (pairsG (A.filter fun x=>decide (x.doc=kk)) (A.filter fun x=>!decide (x.doc=kk)) false).length=0/\withinI (A.filter fun x=>!decide (x.doc=kk)) (A.filter fun x=>decide (x.doc=kk)) false=[]:=by
  refine ⟨?_,?_,?_⟩
  · rw [pairs_len,pairs_len,pairs_len]
    refine cnt2_part _ (fun x:GItem=>decide (x.doc=kk)) A fun x hx y hy hp=>?_
    rw [Bool.eq_false_iff]
    intro hf
    rw [hk x hx y hy hf] at hp
    exact hp rfl
  · rw [pairs_len]
    refine cnt2_zero fun x hx y hy=>?_
    rw [Bool.eq_false_iff]
    intro hf
    obtain ⟨hx,px⟩:=List.mem_filter.1 hx
    obtain ⟨hy,py⟩:=List.mem_filter.1 hy
    have:=hk x hx y hy hf
    simp at px py
    omega
  · unfold withinI withinG
    rw [List.map_eq_nil_iff,List.map_eq_nil_iff,List.filter_eq_nil_iff]
    rintro ⟨y,i⟩ hy hf
    rw [List.any_eq_true] at hf
    obtain ⟨x,hx,hf⟩:=hf
    have hy:y∈A.filter fun x=>decide (x.doc=kk):=by
      have:=List.mem_map_of_mem (f:=Prod.fst) hy
      rw [List.zipIdx_map_fst] at this
      exact this
    obtain ⟨hx,px⟩:=List.mem_filter.1 hx
    obtain ⟨hy,py⟩:=List.mem_filter.1 hy
    have:=hk x hx y hy hf
    simp at px py
    omega
theorem fits_doc {x y:GItem} {kid:Bool} (h:fitsI x y kid=true):x.doc=y.doc:=by
  unfold fitsI at h
  rw [Bool.and_eq_true,holdsI_iff] at h
  exact h.1.1
theorem filter_take {α:Type} {l:List α} {k:Nat} {x:α} (p:α->Bool) (h:l[k]?=some x):(l.take (k+1)).filter p=(l.take k).filter p++if p x then [x] else []:=by
  obtain ⟨hk,he⟩:=List.getElem?_eq_some_iff.1 h
  rw [List.take_succ_eq_append_getElem hk,he,List.filter_append]
  congr 1
  rw [List.filter_cons]
  split<;>rfl
theorem pairs_bd {a d:List GItem} (kid:Bool) (ha:a.length<=1800) (hd:d.length<=1800):(pairsG a d kid).length<=3240000:=by
  have h1:=pairsK_len a d kid d.length (Nat.le_refl _)
  rw [pairsK_all] at h1
  have h2:d.length*a.length<=1800*1800:=Nat.mul_le_mul hd ha
  omega
structure JaS where
  k:Nat
  o:List GItem
  oo:Option Addr
  oc:Nat
  r:List GItem
  ro:Option Addr
  rc:Nat
set_option maxRecDepth 100000 in
set_option maxHeartbeats 4000000 in
theorem JoinsApart_c (σ:Snap) (gs:List GVal) (rows:List (List AT)) (lo:Option Addr) (lc:Nat) (H:SlAt σ lo gs.length lc 8 rows) (hl:gs.length<=140737488355328) (hR:RepL σ gs rows) (id:Int) :
    PureS Tryz.prog 6 [.a (.v (.slice lo gs.length lc)),.a (.v (.int .i64 id))] σ (fun v _=>v=.bool true):=by
  refine enter_s Tryz.func6 rfl rfl (by (repeat' (first | exact trivial | constructor))) fun w=>?_
  (repeat (first | refine cj_seq ?_ | refine cjr TT rfl ?_ | refine oj_then ?_))
  refine oj_callS rfl rfl rfl rfl rfl Tryz.call27 trivial (awake20_c σ) fun v s0 hle0 hv=>⟨.a .tt,trivial,hv.symm,?_⟩
  have H:=H.mono hle0
  have hR:=hR.mono hle0
  refine oj_run TT rfl ?_
  (repeat (first | refine cj_seq ?_ | refine cjr TT rfl ?_ | refine oj_then ?_))
  refine oj_callP rfl rfl rfl rfl rfl Tryz.call28 (by (repeat' (first | exact trivial | constructor))) (small_c s0 gs rows hR hl lo lc H) fun v ⟨fb,hv,hfb⟩=>⟨.a (.b fb),trivial,hv.symm,?_⟩
  refine oj_run TT rfl ?_
  (repeat refine oj_then ?_)
  refine cj_if rfl (fun h=>?_) (fun h=>?_)
  · (repeat (first | refine cj_seq ?_ | refine cjr TT rfl ?_ | refine oj_then ?_ | refine cj_ret ?_ | refine nj_then_ret ?_))
    refine nj_ret TT rfl fun β w' _ _=>?_
    rfl
  obtain ⟨h6,hw⟩:=hfb (by simpa using h)
  (repeat (first | refine cj_seq ?_ | refine cjr TT rfl ?_ | refine cj_skip ?_ | refine nj_then ?_))
  refine oj_callS rfl rfl rfl rfl rfl Tryz.call29 ⟨trivial,trivial⟩ (made_c s0 gs rows hR h6 hw lo lc H) fun v s1 hle1 ⟨X,hv,IX,M⟩=>⟨.agg (ixCells X),ixCells_lt _ _,hv.symm,?_⟩
  refine oj_run TT rfl ?_
  (repeat (first | refine cj_seq ?_ | refine cjr TT rfl ?_ | refine oj_then ?_))
  refine oj_own 1 1 2 rfl (by (repeat' (first | exact trivial | refine AllLt.of ?_ | constructor))) rfl (by decide) fun gp=>?_
  refine oj_seal 0 rfl rfl rfl fun s2 hle2 hS2=>?_
  have P:=deep_at rfl hS2
  have IX:=IX.mono hle2
  have hdd:∀ d∈X.ds,d.ids.length=d.L.length/\d.L.length<=100000:=fun d hd=>⟨(M.idx.doc d hd).1,by obtain ⟨_,_,_,_,_,_,_,h⟩:=M.doc d hd;omega⟩
  have hxl:=M.fit.xs
  dsimp only at hxl
  have hnum:=M.num
  have hmt:=IxMatch_c s2 X IX (by omega) hdd (by omega) [deepP] (by decide) _ _ P
  rw [on_deep M.idx] at hmt
  have hall:(X.ds.flatMap fun d=>itemsD d.id d.L)=allOf X:=rfl
  rw [hall] at hmt
  refine oj_set 27 (.agg (ixCells X)) rfl (ixCells_lt _ _) (fun _=>rfl) ?_
  refine oj_callS rfl rfl rfl rfl rfl Tryz.call30 ⟨ixCells_lt 0 X,trivial,trivial⟩ hmt fun v s3 hle3 ⟨oo,oc,hv,HO⟩=>⟨.a (.v (.slice oo (allOf X).length oc)),trivial,hv.symm,?_⟩
  have hal:=allOf_len M
  have hlv:=allOf_lv M
  have hlam:=allOf_lam (by decide) M
  have hal:(allOf X).length<=1800:=by omega
  clear IX hmt
  generalize allOf X=A at *
  refine oj_run TT rfl ?_
  (repeat (first | refine cj_seq ?_ | refine cjr TT rfl ?_ | refine oj_then ?_ | refine cj_block ?_ | (refine oj_band rfl rfl rfl rfl rfl rfl ?_;refine oj_run TT rfl ?_)))
  refine cj_nilarr 71 5 ?_
  refine cj_nilarr 71 5 ?_
  generalize bAnd IntKind.i64 id 7=kk at *
  refine cj_loop (fun (_:JaS)=>s3) (fun t=>[(5,.a .tt),(7,.a (.v (.slice oo A.length oc))),(8,.a (.v (.int .i64 kk))),(9,.a (.v (.slice t.oo t.o.length t.oc))),(10,.a (.v (.slice t.ro t.r.length t.rc))),(11,.a (.v (.int .i64 (t.k:Nat))))]) (fun _=>[]) (fun t=>[itE t.oo t.oc t.o,itE t.ro t.rc t.r]) 0
    (fun t=>t.k<=A.length/\t.o=(A.take t.k).filter (fun x=>decide (x.doc=kk))/\t.r=(A.take t.k).filter (fun x=>!decide (x.doc=kk))/\t.o.length<=t.oc/\t.r.length<=t.rc) (fun t=>A.length - t.k) ⟨0,[],none,0,[],none,0⟩ ⟨Nat.zero_le _,rfl,rfl,Nat.le_refl _,Nat.le_refl _⟩ rfl (by (repeat first | exact trivial | refine ⟨rfl,?_⟩)) (by (repeat first | exact trivial | refine ⟨rfl,?_⟩)) rfl (by (repeat' (first | exact trivial | constructor))) (by (repeat' exact trivial)) fun ⟨k,o,ao,ac,r,ro,rc⟩ ⟨hk,ho,hr,hoc,hrc⟩=>?_
  dsimp only at hk ho hr hoc hrc ⊢
  have hol:o.length<=k:=by rw [ho];refine Nat.le_trans (List.length_filter_le _ _) ?_;rw [List.length_take];omega
  have hrl:r.length<=k:=by rw [hr];refine Nat.le_trans (List.length_filter_le _ _) ?_;rw [List.length_take];omega
  (repeat (first | refine cj_seq ?_ | refine cjr TT rfl ?_ | refine oj_then ?_))
  refine cj_if rfl (fun h=>?_) (fun h=>?_)
  · have hkl:k<A.length:=by have:=of_decide_eq_true h;omega
    have hxk:=List.getElem?_eq_getElem hkl
    have hrow:=itRows_get hxk
    have e1:=filter_take (fun x:GItem=>decide (x.doc=kk)) hxk
    have e2:=filter_take (fun x:GItem=>!decide (x.doc=kk)) hxk
    rw [<-ho] at e1
    rw [<-hr] at e2
    generalize A[k]=x at *
    (repeat (first | refine cj_seq ?_ | refine cjr TT rfl ?_ | refine cj_skip ?_ | refine cj_block ?_ | refine nj_then ?_))
    refine oj_idx TT rfl rfl rfl rfl rfl rfl rfl rfl rfl HO (by omega) hrow (oj_run TT rfl ?_)
    (repeat refine oj_then ?_)
    refine cj_if rfl (fun h=>?_) (fun h=>?_)
    · have h:decide (x.doc=kk)=true:=h
      rw [h,if_pos rfl] at e1
      rw [h,if_neg (by decide),List.append_nil] at e2
      (repeat refine cjr TT rfl ?_)
      refine oj_idx TT rfl rfl rfl rfl rfl rfl rfl rfl rfl HO (by omega) hrow (oj_run TT rfl ?_)
      skip
      refine oj_append_lit TT 0 rfl rfl rfl rfl rfl rfl rfl rfl rfl rfl rfl rfl rfl rfl rfl rfl rfl rfl (itCells_lt 0 _) rfl (by omega) (by show (o.length+1)*40<=_;omega) fun oo' oc' hoc'=>oj_run TT rfl ?_
      (repeat (first | refine cjr TT rfl ?_ | refine oj_nil ?_ | refine nj_then ?_ | refine nj_block ?_ | (refine oj_add rfl rfl rfl rfl rfl rfl (by omega) ?_;refine oj_run TT rfl ?_)))
      have hl1:(o++[x]).length=o.length+1:=by simp
      refine nj_again (⟨k+1,o++[x],oo',oc',r,ro,rc⟩:JaS) ⟨hkl,e1.symm,e2.symm,by dsimp only;omega,hrc⟩ (by dsimp only;omega) rfl ?_ (by (repeat first | exact trivial | refine ⟨rfl,?_⟩)) ?_ (by (repeat' (first | exact trivial | constructor))) (by (repeat' exact trivial))
      · dsimp only
        rw [hl1]
        (repeat first | exact trivial | refine ⟨rfl,?_⟩)
      · show [_,_]=[_,_]
        dsimp only
        unfold itE
        rw [hl1,<-itXs_push]
        rfl
    · have h:decide (x.doc=kk)=false:=h
      rw [h,if_neg (by decide),List.append_nil] at e1
      rw [h,if_pos (show (!false)=true from rfl)] at e2
      (repeat refine cjr TT rfl ?_)
      refine oj_idx TT rfl rfl rfl rfl rfl rfl rfl rfl rfl HO (by omega) hrow (oj_run TT rfl ?_)
      skip
      refine oj_append_lit TT 1 rfl rfl rfl rfl rfl rfl rfl rfl rfl rfl rfl rfl rfl rfl rfl rfl rfl rfl (itCells_lt 0 _) rfl (by omega) (by show (r.length+1)*40<=_;omega) fun oo' oc' hoc'=>oj_run TT rfl ?_
      (repeat (first | refine cjr TT rfl ?_ | refine oj_nil ?_ | refine nj_then ?_ | refine nj_block ?_ | (refine oj_add rfl rfl rfl rfl rfl rfl (by omega) ?_;refine oj_run TT rfl ?_)))
      have hl1:(r++[x]).length=r.length+1:=by simp
      refine nj_again (⟨k+1,o,ao,ac,r++[x],oo',oc'⟩:JaS) ⟨hkl,e1.symm,e2.symm,hoc,by dsimp only;omega⟩ (by dsimp only;omega) rfl ?_ (by (repeat first | exact trivial | refine ⟨rfl,?_⟩)) ?_ (by (repeat' (first | exact trivial | constructor))) (by (repeat' exact trivial))
      · dsimp only
        rw [hl1]
        (repeat first | exact trivial | refine ⟨rfl,?_⟩)
      · show [_,_]=[_,_]
        dsimp only
        unfold itE
        rw [hl1,<-itXs_push]
        rfl
  have hk0:k=A.length:=by have:=of_decide_eq_false h;omega
  rw [hk0,List.take_length] at ho hr
  obtain ⟨c1,c2,c3⟩:=cnt_apart (A:=A) kk fun x _ y _ hf=>fits_doc hf
  have hso:o.Sublist A:=ho▸List.filter_sublist
  have hsr:r.Sublist A:=hr▸List.filter_sublist
  rw [<-ho,<-hr] at c1 c2 c3
  clear ho hr
  have ol:=hso.length_le
  have rl:=hsr.length_le
  (repeat (first | refine cj_seq ?_ | refine cjr TT rfl ?_ | refine cj_exit ?_ | refine nj_then ?_ | refine nj_then_exit ?_ | refine nj_block_out ?_))
  refine oj_seal 0 rfl rfl rfl fun s4 hle4 hS4=>?_
  have HA:=it_sealed hS4 hoc
  refine oj_seal 0 rfl rfl rfl fun s5 hle5 hS5=>?_
  have HR:=it_sealed hS5 hrc
  have HA:=HA.mono hle5
  have HO:=HO.mono (Snap.le_trans hle4 hle5)
  have lo_:=hlam.sub hso
  have lr_:=hlam.sub hsr
  refine oj_callS rfl rfl rfl rfl rfl Tryz.call31 ⟨trivial,trivial,trivial,trivial⟩ (show PureS Tryz.prog 31 [.a (.v (.slice oo A.length oc)),.a (.v (.slice oo A.length oc)),.a .ff] s5 _ from Pairs_c s5 A A (by omega) (by omega) oo oc HO oo oc HO hlam hlam (fun z hz=>by have:=hlv z ((List.Sublist.refl A).subset hz);omega) false)
    fun v s6 hle6 ⟨p1,q1,n1,hv,_,_⟩=>⟨.tup [.a (.v (.slice p1 (pairsG A A false).length q1)),.a (.v (.int .i64 n1))],(by (repeat' (first | exact trivial | refine SV.lt_tup ?_ | constructor))),hv.symm,?_⟩
  have HA:=HA.mono hle6
  have HR:=HR.mono hle6
  have HO:=HO.mono hle6
  refine oj_run TT rfl ?_
  (repeat (first | refine cj_seq ?_ | refine cjr TT rfl ?_ | refine oj_then ?_))
  refine oj_callS rfl rfl rfl rfl rfl Tryz.call31 ⟨trivial,trivial,trivial,trivial⟩ (show PureS Tryz.prog 31 [.a (.v (.slice ao o.length ac)),.a (.v (.slice ao o.length ac)),.a .ff] s6 _ from Pairs_c s6 o o (by omega) (by omega) ao ac HA ao ac HA lo_ lo_ (fun z hz=>by have:=hlv z ((hso).subset hz);omega) false)
    fun v s7 hle7 ⟨p2,q2,n2,hv,_,_⟩=>⟨.tup [.a (.v (.slice p2 (pairsG o o false).length q2)),.a (.v (.int .i64 n2))],(by (repeat' (first | exact trivial | refine SV.lt_tup ?_ | constructor))),hv.symm,?_⟩
  have HA:=HA.mono hle7
  have HR:=HR.mono hle7
  have HO:=HO.mono hle7
  refine oj_run TT rfl ?_
  (repeat (first | refine cj_seq ?_ | refine cjr TT rfl ?_ | refine oj_then ?_))
  refine oj_callS rfl rfl rfl rfl rfl Tryz.call31 ⟨trivial,trivial,trivial,trivial⟩ (show PureS Tryz.prog 31 [.a (.v (.slice ro r.length rc)),.a (.v (.slice ro r.length rc)),.a .ff] s7 _ from Pairs_c s7 r r (by omega) (by omega) ro rc HR ro rc HR lr_ lr_ (fun z hz=>by have:=hlv z ((hsr).subset hz);omega) false)
    fun v s8 hle8 ⟨p3,q3,n3,hv,_,_⟩=>⟨.tup [.a (.v (.slice p3 (pairsG r r false).length q3)),.a (.v (.int .i64 n3))],(by (repeat' (first | exact trivial | refine SV.lt_tup ?_ | constructor))),hv.symm,?_⟩
  have HA:=HA.mono hle8
  have HR:=HR.mono hle8
  have HO:=HO.mono hle8
  refine oj_run TT rfl ?_
  (repeat (first | refine cj_seq ?_ | refine cjr TT rfl ?_ | refine oj_then ?_))
  refine oj_callS rfl rfl rfl rfl rfl Tryz.call31 ⟨trivial,trivial,trivial,trivial⟩ (show PureS Tryz.prog 31 [.a (.v (.slice ao o.length ac)),.a (.v (.slice ro r.length rc)),.a .ff] s8 _ from Pairs_c s8 o r (by omega) (by omega) ao ac HA ro rc HR lo_ lr_ (fun z hz=>by have:=hlv z ((hso).subset hz);omega) false)
    fun v s9 hle9 ⟨p4,q4,n4,hv,_,_⟩=>⟨.tup [.a (.v (.slice p4 (pairsG o r false).length q4)),.a (.v (.int .i64 n4))],(by (repeat' (first | exact trivial | refine SV.lt_tup ?_ | constructor))),hv.symm,?_⟩
  have HA:=HA.mono hle9
  have HR:=HR.mono hle9
  have HO:=HO.mono hle9
  refine oj_run TT rfl ?_
  (repeat (first | refine cj_seq ?_ | refine cjr TT rfl ?_ | refine oj_then ?_))
  have b1:=pairs_bd (a:=A) (d:=A) false hal hal
  have b2:=pairs_bd (a:=o) (d:=o) false (by omega) (by omega)
  have b3:=pairs_bd (a:=r) (d:=r) false (by omega) (by omega)
  have hw1:=Within_c s9 ⟨ro,rc,r⟩ ⟨ao,ac,o⟩ ⟨HR,by dsimp only;omega,lr_,fun z hz=>by have:=hlv z (hsr.subset hz);omega⟩ ⟨HA,by dsimp only;omega,lo_,fun z hz=>by have:=hlv z (hso.subset hz);omega⟩
  dsimp only at hw1
  rw [c3] at hw1
  generalize (pairsG A A false).length=m1 at *
  generalize (pairsG o o false).length=m2 at *
  generalize (pairsG r r false).length=m3 at *
  rw [c2]
  refine oj_add rfl rfl rfl rfl rfl rfl (by omega) (oj_run TT rfl ?_)
  refine oj_split 95 rfl (fun _=>?_) (fun h=>absurd (of_decide_eq_false (show decide ((m1:Int)=m2+m3)=false from h)) (by omega))
  refine oj_run TT rfl ?_
  refine oj_split 100 rfl (fun _=>?_) (fun h=>absurd (show decide ((0:Int)=0)=false from h) (by decide))
  refine oj_run TT rfl ?_
  refine oj_callS rfl rfl rfl rfl rfl Tryz.call34 ⟨trivial,trivial,trivial⟩ hw1 fun v s10 hle10 ⟨wo,wc,hv,_⟩=>⟨.a (.v (.slice wo 0 wc)),trivial,hv.symm,?_⟩
  have HA:=HA.mono hle10
  have HR:=HR.mono hle10
  refine oj_run TT rfl ?_
  refine oj_split 107 rfl (fun _=>?_) (fun h=>absurd (show decide ((0:Int)=0)=false from h) (by decide))
  refine oj_run TT rfl ?_
  refine oj_callP rfl rfl rfl rfl rfl Tryz.call33 (by (repeat' (first | exact trivial | constructor))) (Sound20_c s10 o (by omega) ao ac HA) fun v hv=>⟨.a .tt,trivial,by rw [hv,lam_sound lo_];rfl,?_⟩
  refine oj_run TT rfl ?_
  refine oj_callP rfl rfl rfl rfl rfl Tryz.call33 (by (repeat' (first | exact trivial | constructor))) (Sound20_c s10 r (by omega) ro rc HR) fun v hv=>⟨.a .tt,trivial,by rw [hv,lam_sound lr_];rfl,?_⟩
  refine oj_run TT rfl ?_
  (repeat (first | refine oj_then ?_ | refine cj_ret ?_))
  refine nj_ret TT rfl fun β w' _ _=>?_
  rfl
end Go.Sy
