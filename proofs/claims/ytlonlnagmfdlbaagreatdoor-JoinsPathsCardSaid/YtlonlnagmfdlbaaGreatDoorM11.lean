/- Parts of the proof of CJoinsPaths: H11, H13, XCl, XRow, CFacts, Cv. No conditions. -/
import Derived.Test.YtlonlnagmfdlbaaGreatDoorM10
import Derived.Carry
import Derived.RowKit
import Derived.ChangeStays
import Derived.ChangeSame
import Derived.ReadAgain
import Derived.SizedLaws
import Derived.Deep.DeepHandedRow
import Derived.ProofKit
import Derived.OpenShut
import Derived.Lay
import Derived.SevenTiedAt
import Derived.Stop.Joined
import Derived.Test.YtlonlnagmfdlbaaGreatDoorCards
import Derived.Test.YtlonlnagmfdlbaaGreatDoorTie
namespace Go.Sy
open Go.Proofs
def withinI (a d:List GItem) (kid:Bool):List Int:=(withinG a d kid).map Int.ofNat
def withinK (a d:List GItem) (kid:Bool) (k:Nat):List Int:=((d.zipIdx.take k).filter fun x=>a.any fun z=>fitsI z x.1 kid).map fun x=>(x.2:Int)
theorem withinK_all (a d:List GItem) (kid:Bool):withinK a d kid d.length=withinI a d kid:=by
  unfold withinK withinI withinG
  rw [List.take_of_length_le (by rw [List.length_zipIdx];exact Nat.le_refl _),List.map_map]
  rfl
theorem withinK_succ {a d:List GItem} {kid:Bool} {k:Nat} {x:GItem} (h:d[k]?=some x):withinK a d kid (k+1)=withinK a d kid k++if a.any (fun z=>fitsI z x kid) then [(k:Int)] else []:=by
  have hk:=(List.getElem?_eq_some_iff.1 h).1
  unfold withinK
  rw [List.take_succ_eq_append_getElem (by rw [List.length_zipIdx];exact hk),List.filter_append,List.map_append]
  have h2:=zip_get h
  rw [List.getElem?_eq_getElem (by rw [List.length_zipIdx];exact hk)] at h2
  rw [Option.some.inj h2]
  congr 1
  rw [List.filter_cons]
  dsimp only
  split<;>rfl
theorem withinK_len (a d:List GItem) (kid:Bool) (k:Nat):(withinK a d kid k).length<=k:=by
  unfold withinK
  rw [List.length_map]
  refine Nat.le_trans (List.length_filter_le _ _) ?_
  rw [List.length_take]
  omega
theorem any_filter {α:Type} (p:α->Bool) (l:List α):l.any p=!(l.filter p).isEmpty:=by
  induction l with
  | nil=>rfl
  | cons x l ih =>
    rw [List.any_cons,List.filter_cons]
    cases p x
    · rw [if_neg (by decide),<-ih];rfl
    · rfl
theorem any_zip {α:Type} (p:α->Bool) (l:List α):(l.zipIdx.any fun z=>p z.1)=l.any p:=by
  conv=>rhs;rw [<-List.zipIdx_map_fst 0 l]
  rw [List.any_map]
  rfl
structure UpS where
  k:Nat
  o:List Int
  oo:Option Addr
  oc:Nat
def numE (g k:Nat):AE:=⟨some ⟨g,0,none⟩,1,1,3,1,[.int .i64 k]⟩
structure ChS where
  k:Nat
  l:List Int
  no:Option Addr
  nc:Nat
  g:Nat
  n:Nat
set_option maxRecDepth 100000 in
set_option maxHeartbeats 4000000 in
theorem Chain_c (σ:Snap) (x y:GLL) (hx:LLOk σ x) (hy:LLOk σ y) (lo:Option Addr) (lc:Nat) (HL:SlAt σ lo 2 lc 1 (llRows [x,y])) (po:Option Addr) (pn pc:Nat) (prows:List (List AT)) (HP:SlAt σ po pn pc 1 prows) (kid:Bool) (hk:(pn=0/\kid=false)\/(pn=2/\prows[1]?=some [.b kid])) :
    PureS Tryz.prog 32 [.a (.v (.slice lo 2 lc)),.a (.v (.slice po pn pc))] σ (fun v σ'=>∃ (oo:Option Addr) (oc n:Nat),v=.tuple #[.slice oo (withinI x.l y.l kid).length oc,.int .i64 n]/\n<=x.l.length/\SlAt σ' oo (withinI x.l y.l kid).length oc 1 (idRows (withinI x.l y.l kid))):=by
  have hxl:=hx.len
  have hyl:=hy.len
  have hrx:(llRows [x,y])[0]?=some (llCells x):=rfl
  have hry:(llRows [x,y])[1]?=some (llCells y):=rfl
  refine enter_s Tryz.func32 rfl rfl (by (repeat' (first | exact trivial | constructor))) fun w=>?_
  (repeat (first | refine cj_seq ?_ | refine cjr TT rfl ?_ | refine oj_then ?_))
  refine oj_own 0 1 1 rfl (by (repeat' (first | exact trivial | refine AllLt.of ?_ | constructor))) rfl (by decide) fun gl=>?_
  refine oj_seal 0 rfl rfl rfl fun s1 hle1 hS1=>?_
  have hgl:=cell1_of hS1
  have HL:=HL.mono hle1
  have HP:=HP.mono hle1
  have hx:=hx.mono hle1
  have hy:=hy.mono hle1
  skip
  refine oj_split 15 rfl (fun h=>absurd (show decide ((2:Int)=0)=true from h) (by decide)) (fun _=>?_)
  refine oj_run TT rfl ?_
  refine oj_ldS (c:=.v (.slice lo 2 lc)) TT rfl rfl rfl rfl rfl rfl rfl rfl hgl trivial (oj_run TT rfl ?_)
  refine oj_callP rfl rfl rfl rfl rfl Tryz.call88 (by (repeat' (first | exact trivial | exact SV.lt_fn0 | constructor))) (ContainsLL_c s1 [x,y] (by show 2<=1000;omega) (by intro z hz;simp only [List.mem_cons,List.not_mem_nil,or_false] at hz;rcases hz with rfl | rfl;exact hx;exact hy) lo lc HL) fun v hv=>⟨.a .ff,trivial,hv.symm,?_⟩
  refine oj_run TT rfl ?_
  (repeat (first | refine cj_seq ?_ | refine cjr TT rfl ?_ | refine oj_then ?_ | refine cj_if_f rfl ?_ | refine cj_skip ?_ | refine nj_then ?_))
  refine oj_ldS (c:=.v (.slice lo 2 lc)) TT rfl rfl rfl rfl rfl rfl rfl rfl hgl trivial (oj_run TT rfl ?_)
  refine oj_idx TT rfl rfl rfl rfl rfl rfl rfl rfl rfl HL (by decide) hrx (oj_run TT rfl ?_)
  (repeat (first | refine oj_then ?_ | refine cj_block ?_))
  refine cj_nilarr 3 1 ?_
  skip
  refine cj_loop (fun (_:UpS)=>s1) (fun t=>[(1,.a (.v (.slice po pn pc))),(2,.a (.v (.pointer (some ⟨gl,0,none⟩)))),(6,.a (.v (.slice t.oo t.o.length t.oc))),(22,.a (.v (.int .i64 x.l.length))),(23,.a (.v (.int .i64 (t.k:Nat))))]) (fun _=>[]) (fun t=>[idE t.oo t.oc t.o]) 0
    (fun t=>t.k<=x.l.length/\t.o=upto t.k/\t.o.length<=t.oc) (fun t=>x.l.length - t.k) ⟨0,[],none,0⟩ ⟨Nat.zero_le _,rfl,Nat.le_refl _⟩ rfl (by (repeat first | exact trivial | refine ⟨rfl,?_⟩)) (by (repeat first | exact trivial | refine ⟨rfl,?_⟩)) rfl (by (repeat' (first | exact trivial | constructor))) (by (repeat' exact trivial)) fun ⟨k,o,oo,oc⟩ ⟨hk',ho,hoc⟩=>?_
  dsimp only at hk' ho hoc ⊢
  (repeat (first | refine cj_seq ?_ | refine cjr TT rfl ?_ | refine oj_then ?_))
  refine cj_if rfl (fun h=>?_) (fun h=>?_)
  · have hkl:k<x.l.length:=by have:=of_decide_eq_true h;omega
    have hol:o.length=k:=by rw [ho,upto_len]
    (repeat (first | refine cj_seq ?_ | refine cjr TT rfl ?_ | refine oj_then ?_ | refine cj_skip ?_ | refine cj_block ?_ | refine nj_then ?_))
    refine oj_append_lit TT 0 rfl rfl rfl rfl rfl rfl rfl rfl rfl rfl rfl rfl rfl rfl rfl rfl rfl rfl (by (repeat' (first | exact trivial | refine AllLt.of ?_ | constructor))) rfl (by omega) (by show (o.length+1)*8<=_;omega) fun oo' oc' hoc'=>oj_run TT rfl ?_
    (repeat (first | refine cjr TT rfl ?_ | refine oj_nil ?_ | refine nj_then ?_ | refine nj_block ?_ | (refine oj_add rfl rfl rfl rfl rfl rfl (by omega) ?_;refine oj_run TT rfl ?_)))
    have hl1:(o++[(k:Int)]).length=o.length+1:=by simp
    refine nj_again (⟨k+1,o++[(k:Int)],oo',oc'⟩:UpS) ⟨hkl,by dsimp only;rw [upto_succ,ho],by dsimp only;omega⟩ (by dsimp only;omega) rfl ?_ (by (repeat first | exact trivial | refine ⟨rfl,?_⟩)) ?_ (by (repeat' (first | exact trivial | constructor))) (by (repeat' exact trivial))
    · dsimp only
      rw [hl1]
      (repeat first | exact trivial | refine ⟨rfl,?_⟩)
    · show [_]=[_]
      dsimp only
      unfold idE idXs
      rw [hl1,List.map_append]
      rfl
  have hk0:k=x.l.length:=by have:=of_decide_eq_false h;omega
  subst hk0
  (repeat (first | refine cj_seq ?_ | refine cjr TT rfl ?_ | refine oj_then ?_ | refine cj_block ?_ | refine cj_exit ?_ | refine nj_then ?_ | refine nj_then_exit ?_ | refine nj_block_out ?_))
  refine cj_seal 0 rfl rfl fun s2 hle2 hS2=>?_
  have HN:=id_sealed hS2 hoc
  refine cj_own 0 1 1 rfl (by (repeat' (first | exact trivial | refine AllLt.of ?_ | constructor))) rfl (by decide) fun g0=>?_
  refine cj_loop2 (fun (s:Snap) (_:ChS)=>s) (fun _ t=>[(1,.a (.v (.slice po pn pc))),(2,.a (.v (.pointer (some ⟨gl,0,none⟩)))),(6,.a (.v (.slice t.no t.l.length t.nc))),(8,.a (.v (.int .i64 (t.n:Nat)))),(9,.a (.v (.pointer (some ⟨t.g,0,none⟩))))]) (fun _ _=>[]) (fun _ t=>[numE t.g t.k]) 0
    (fun s t=>s1.le s/\t.n<=x.l.length/\SlAt s t.no t.l.length t.nc 1 (idRows t.l)/\((t.k=1/\t.l=upto x.l.length/\t.n=0)\/(t.k=2/\t.l=withinI x.l y.l kid))) (fun _ t=>2 - t.k) s2 ⟨1,o,oo,oc,g0,0⟩ ⟨hle2,Nat.zero_le _,HN,.inl ⟨rfl,ho,rfl⟩⟩ rfl (by (repeat first | exact trivial | refine ⟨rfl,?_⟩)) (by (repeat first | exact trivial | refine ⟨rfl,?_⟩)) rfl (by (repeat' (first | exact trivial | constructor))) (by (repeat' exact trivial)) fun s ⟨k,l,no,nc,g,n⟩ ⟨hle,hn,HN,hst⟩=>?_
  dsimp only at hn HN hst ⊢
  have hgl:=hle.cell hgl
  have HL:=HL.mono hle
  have HP:=HP.mono hle
  have hx:=hx.mono hle
  have hy:=hy.mono hle
  rcases hst with ⟨rfl,rfl,rfl⟩ | ⟨rfl,rfl⟩
  rotate_left
  · (repeat (first | refine cj_seq ?_ | refine cjr TT rfl ?_))
    refine oj_ldA 0 (c:=.v (.int .i64 (2:Nat))) TT rfl rfl rfl rfl rfl rfl rfl rfl rfl rfl rfl trivial (oj_run TT rfl ?_)
    refine oj_ldS (c:=.v (.slice lo 2 lc)) TT rfl rfl rfl rfl rfl rfl rfl rfl hgl trivial (oj_run TT rfl ?_)
    (repeat refine oj_then ?_)
    refine cj_if rfl (fun h=>absurd (show decide ((2:Int)<2)=true from h) (by decide)) (fun _=>?_)
    (repeat (first | refine cj_seq ?_ | refine cjr TT rfl ?_ | refine oj_then ?_ | refine cj_exit ?_ | refine cj_ret ?_ | refine nj_then ?_ | refine nj_then_exit ?_ | refine nj_block_out ?_))
    refine nj_ret TT rfl fun β w' _ _=>?_
    exact ⟨no,nc,n,rfl,hn,HN⟩
  rw [upto_len] at HN ⊢
  (repeat (first | refine cj_seq ?_ | refine cjr TT rfl ?_))
  refine oj_ldA 0 (c:=.v (.int .i64 (1:Nat))) TT rfl rfl rfl rfl rfl rfl rfl rfl rfl rfl rfl trivial (oj_run TT rfl ?_)
  refine oj_ldS (c:=.v (.slice lo 2 lc)) TT rfl rfl rfl rfl rfl rfl rfl rfl hgl trivial (oj_run TT rfl ?_)
  (repeat refine oj_then ?_)
  refine cj_if rfl (fun _=>?_) (fun h=>absurd (show decide ((1:Int)<2)=false from h) (by decide))
  refine cj_skip ?_
  refine nj_then ?_
  refine cj_seq ?_
  refine cj_block ?_
  refine cj_seq ?_
  refine cjr TT rfl ?_
  refine oj_nil ?_
  refine nj_then ?_
  refine cj_seq ?_
  refine cj_cutN (fun (t:Snap×Nat)=>t.1) (fun t=>[(1,.a (.v (.slice po pn pc))),(2,.a (.v (.pointer (some ⟨gl,0,none⟩)))),(6,.a (.v (.slice no x.l.length nc))),(8,.a (.v (.int .i64 (0:Nat)))),(9,.a (.v (.pointer (some ⟨g,0,none⟩)))),(10,.a (.p 0 0)),(11,.a (.v (.pointer (some ⟨t.2,0,none⟩))))])
    (fun _=>[(0,.loc 74,[.v (.slice none 0 0)])]) (fun _=>[numE g 1]) 1 (fun t=>s.le t.1/\t.1.cell ⟨t.2,0,none⟩=some (.bool kid)) ?_ (fun ⟨s4,gk⟩ ⟨hle4,hgk⟩=>?_)
  · rcases hk with ⟨rfl,rfl⟩ | ⟨rfl,hkd⟩
    · (repeat refine cjr TT rfl ?_)
      refine oj_ldA 0 (c:=.v (.int .i64 (1:Nat))) TT rfl rfl rfl rfl rfl rfl rfl rfl rfl rfl rfl trivial (oj_run TT rfl ?_)
      refine oj_split 41 rfl (fun h=>absurd (show decide ((1:Int)<0)=true from h) (by decide)) (fun _=>?_)
      refine oj_run TT rfl ?_
      (repeat refine oj_nil ?_)
      refine nj_own 1 1 1 rfl (by (repeat' (first | exact trivial | refine AllLt.of ?_ | constructor))) rfl (by decide) fun gk=>?_
      refine nj_seal 1 rfl rfl fun s4 hle4 hS4=>?_
      refine nj_again (s4,gk) ⟨hle4,cell1_of hS4⟩ Nat.zero_lt_one rfl (by (repeat first | exact trivial | refine ⟨rfl,?_⟩)) (by (repeat first | exact trivial | refine ⟨rfl,?_⟩)) rfl (by (repeat' (first | exact trivial | exact Nat.le_of_ble_eq_true rfl | constructor))) (by (repeat' (first | exact trivial | exact Nat.le_of_ble_eq_true rfl | refine AllLt.of ?_ | constructor)))
    · (repeat refine cjr TT rfl ?_)
      refine oj_ldA 0 (c:=.v (.int .i64 (1:Nat))) TT rfl rfl rfl rfl rfl rfl rfl rfl rfl rfl rfl trivial (oj_run TT rfl ?_)
      refine oj_split 41 rfl (fun _=>?_) (fun h=>absurd (show decide ((1:Int)<2)=false from h) (by decide))
      refine oj_run TT rfl ?_
      refine oj_ldA 0 (c:=.v (.int .i64 (1:Nat))) TT rfl rfl rfl rfl rfl rfl rfl rfl rfl rfl rfl trivial (oj_run TT rfl ?_)
      refine oj_idx TT rfl rfl rfl rfl rfl rfl rfl rfl rfl HP (by decide) hkd (oj_run TT rfl ?_)
      (repeat refine oj_nil ?_)
      refine nj_own 2 1 1 rfl (by (repeat' (first | exact trivial | refine AllLt.of ?_ | constructor))) rfl (by decide) fun gk=>?_
      refine nj_seal 1 rfl rfl fun s4 hle4 hS4=>?_
      refine nj_again (s4,gk) ⟨hle4,cell1_of hS4⟩ Nat.zero_lt_one rfl (by (repeat first | exact trivial | refine ⟨rfl,?_⟩)) (by (repeat first | exact trivial | refine ⟨rfl,?_⟩)) rfl (by (repeat' (first | exact trivial | exact Nat.le_of_ble_eq_true rfl | constructor))) (by (repeat' (first | exact trivial | exact Nat.le_of_ble_eq_true rfl | refine AllLt.of ?_ | constructor)))
  dsimp only at hle4 hgk ⊢
  refine cj_seal 0 rfl rfl fun s5 hle5 hS5=>?_
  refine cj_own 0 1 1 rfl (by (repeat' (first | exact trivial | refine AllLt.of ?_ | constructor))) rfl (by decide) fun go=>?_
  refine cj_nilarr 3 1 ?_
  have hle45:=Snap.le_trans hle4 hle5
  have hgn:=cell1_of hS5
  have hgk:=hle5.cell hgk
  have hgl:=hle45.cell hgl
  have HL:=HL.mono hle45
  have HN:=HN.mono hle45
  have hx:=hx.mono hle45
  have hy:=hy.mono hle45
  have hfn:=fnLt4 91 gl g gk go
  (repeat refine cj_seq ?_)
  refine cj_draw [(0,.pure),(1,.quiet),(2,.quiet),(3,.pure),(4,.pure),(5,.quiet),(6,.pure),(8,.quiet),(9,.quiet),(10,.pure),(11,.quiet),(12,.pure),(7,.keep),(13,.sink),(14,.pure),(15,.pure)] mixed (by kernel_rfl) (oj_run TT rfl ?_)
  refine oj_ldS (c:=.v (.slice lo 2 lc)) TT rfl rfl rfl rfl rfl rfl rfl rfl hgl trivial (oj_run TT rfl ?_)
  refine oj_ldS (c:=.v (.int .i64 (1:Nat))) TT rfl rfl rfl rfl rfl rfl rfl rfl hgn trivial (oj_run TT rfl ?_)
  (repeat (refine oj_minus rfl rfl rfl rfl rfl rfl (by omega) ?_;refine oj_run TT rfl ?_))
  refine oj_set 50 (.a (.v (.int .i64 (0:Nat)))) rfl trivial (fun _=>rfl) ?_
  refine oj_idx TT rfl rfl rfl rfl rfl rfl rfl rfl rfl HL (by decide) hrx (oj_run TT rfl ?_)
  skip
  refine oj_ldS (c:=.v (.slice lo 2 lc)) TT rfl rfl rfl rfl rfl rfl rfl rfl hgl trivial (oj_run TT rfl ?_)
  refine oj_ldS (c:=.v (.int .i64 (1:Nat))) TT rfl rfl rfl rfl rfl rfl rfl rfl hgn trivial (oj_run TT rfl ?_)
  refine oj_idx TT rfl rfl rfl rfl rfl rfl rfl rfl rfl HL (by decide) hry (oj_run TT rfl ?_)
  skip
  refine oj_callS rfl rfl rfl rfl rfl Tryz.call90 ⟨trivial,trivial,trivial⟩ (kept_c s5 x.l hxl x.o x.c hx.at_ no nc HN) fun v s6 hle6 ⟨ko,kc,hv,HK⟩=>⟨.a (.v (.slice ko x.l.length kc)),trivial,hv.symm,?_⟩
  have hgn:=hle6.cell hgn
  have hgk:=hle6.cell hgk
  have hgl:=hle6.cell hgl
  have HL:=HL.mono hle6
  have hx:=hx.mono hle6
  have hy:=hy.mono hle6
  refine oj_run TT rfl ?_
  refine oj_callF [0,1] (A0:=[outE go 74 none 0 0,idE none 0 []]) (Ar:=[]) rfl rfl rfl rfl rfl rfl rfl Tryz.call85 ⟨trivial,trivial,hfn,trivial⟩
    (sweep_c s6 x.l y.l hxl hyl ko kc HK y.o y.c hy.at_ hx.lam hy.lam 91 [.val (.pointer (some ⟨gl,0,none⟩)),.val (.pointer (some ⟨g,0,none⟩)),.val (.pointer (some ⟨gk,0,none⟩)),.val (.pointer (some ⟨go,0,none⟩))] ⟨trivial,trivial,trivial,trivial,trivial⟩ Tryz.call91 hfn
      (fun st:UpS=>outE go 74 st.oo st.o.length st.oc) (fun st=>idE st.oo st.oc st.o) (fun k st=>st.o=withinK x.l y.l kid k/\st.o.length<=st.oc) ⟨0,[],none,0⟩ ⟨rfl,Nat.le_refl _⟩
      (fun σ' k i z st so sc hle hz ⟨hR1,hR2⟩ hn hoa hos=>by
        have hk:=(List.getElem?_eq_some_iff.1 hz).1
        have hlen:=withinK_len x.l y.l kid k
        have hof:=open_fits hn hx.lam (hy.lam.se z (List.mem_of_getElem? hz)) kid
        have hany:((openAt x.l i z).any fun u=>fitsI u.1 z kid)=x.l.any fun u=>fitsI u z kid:=by
          rw [any_filter,hof,<-any_filter]
          exact any_zip (fun u=>fitsI u z kid) x.l
        have hch:=Chain2_c σ' gl g gk go lo lc [x,y] (HL.mono hle) 1 y rfl (hy.mono hle) k z hz kid (hle.cell hgl) (hle.cell hgn) (hle.cell hgk) (openAt x.l i z) (by omega) (fun u hu=>by
          obtain ⟨hu1,-⟩:=List.mem_filter.1 hu
          exact hx.lv u.1 (List.mem_of_getElem? (mem_zip_take hu1).2)) so sc hos st.o (by rw [hR1];omega) st.oo st.oc hR2
        rw [hany] at hch
        refine hch.mono fun v σ2 A2 _ ⟨hv,po',pc',hpc,hA⟩=>⟨hv,⟨0,_,po',pc'⟩,⟨?_,hpc⟩,hA⟩
        show st.o++_=_
        rw [withinK_succ hz,hR1]))
    fun v s7 A7 hle7 ⟨n,hv,hn,⟨_,o7,oo7,oc7⟩,⟨hR1,hR2⟩,hA⟩=>⟨.a (.v (.int .i64 n)),trivial,hv.symm,?_⟩
  subst hA
  dsimp only at hR1 hR2 ⊢
  rw [withinK_all] at hR1
  subst hR1
  have hgn:=hle7.cell hgn
  refine oj_run TT rfl ?_
  (repeat (first | refine cjr TT rfl ?_ | refine oj_then ?_ | (refine oj_add rfl rfl rfl rfl rfl rfl (by omega) ?_;refine oj_run TT rfl ?_)))
  refine oj_ldA 0 (c:=.v (.slice oo7 (withinI x.l y.l kid).length oc7)) TT rfl rfl rfl rfl rfl rfl rfl rfl rfl rfl rfl trivial (oj_run TT rfl ?_)
  (repeat (first | refine cj_seq ?_ | refine cjr TT rfl ?_ | refine oj_nil ?_ | refine nj_then ?_ | refine nj_block ?_))
  refine oj_ldS (c:=.v (.int .i64 (1:Nat))) TT rfl rfl rfl rfl rfl rfl rfl rfl hgn trivial (oj_run TT rfl ?_)
  (repeat (first | refine cjr TT rfl ?_ | refine oj_then ?_ | refine oj_nil ?_ | (refine oj_add rfl rfl rfl rfl rfl rfl (by omega) ?_;refine oj_run TT rfl ?_)))
  refine nj_seal 1 rfl rfl fun s8 hle8 hS8=>?_
  refine nj_own 3 1 1 rfl (by (repeat' (first | exact trivial | refine AllLt.of ?_ | constructor))) rfl (by decide) fun g9=>?_
  refine nj_re [1] (A':=[numE g9 2]) rfl rfl ?_
  refine nj_set 8 (.a (.v (.int .i64 n))) rfl trivial (fun _=>congrArg (Value.int .i64) (by omega)) ?_
  refine nj_again (s8,(⟨2,withinI x.l y.l kid,oo7,oc7,g9,n⟩:ChS)) ⟨Snap.le_trans hle (Snap.le_trans hle45 (Snap.le_trans hle6 (Snap.le_trans hle7 hle8))),hn,id_sealed hS8 hR2,.inr ⟨rfl,rfl⟩⟩ (by dsimp only;omega) rfl (by (repeat first | exact trivial | refine ⟨rfl,?_⟩)) (by (repeat first | exact trivial | refine ⟨rfl,?_⟩)) rfl (by (repeat' (first | exact trivial | constructor))) (by (repeat' exact trivial))
theorem ll2_sealed {σ:Snap} {g:Nat} {x y:GLL} (hS:ArrSealed σ ⟨some ⟨g,0,none⟩,2,2,62,1,[.slice x.o x.l.length x.c,.slice y.o y.l.length y.c]⟩):SlAt σ (some ⟨g,0,none⟩) 2 2 1 (llRows [x,y]) :=
  hS.sl (by rfl) (fun r hr=>by
    obtain ⟨z,_,rfl⟩:=List.mem_map.1 hr
    exact ⟨rfl,llCells_lt 0 z⟩) rfl rfl (Nat.le_refl _)
end Go.Sy
namespace Go.Sy
open Go.Proofs
def itVals (x:GItem):Array Value:=#[.int .i64 x.doc,.int .i64 x.at_,.int .i64 x.st,.int .i64 x.en,.int .i64 x.lv]
theorem und71:Tryz.prog.underlying 71=some (.struct (Tryz.prog.fieldsOf 71)):=by kernel_rfl
theorem eqItem_ok (m:Nat) (a b:GItem) (w:World):(Op.equalIn (m+1+1) 71 (.agg (itVals a)) (.agg (itVals b))).run Tryz.prog w=.ok (decide (a=b)) w:=by
  rw [run_equalIn_agg w (m+1) 71 _ _ und71 (by kernel_rfl)]
  have h:fieldsAre (Tryz.prog.fieldsOf 71).toList [(3,0),(3,1),(3,2),(3,3),(3,4)]=true:=by kernel_rfl
  generalize (Tryz.prog.fieldsOf 71).toList=fl at h
  obtain ⟨f0,fl,rfl,n0,t0,o0,h⟩:=fieldsAre_cons h
  obtain ⟨f1,fl,rfl,n1,t1,o1,h⟩:=fieldsAre_cons h
  obtain ⟨f2,fl,rfl,n2,t2,o2,h⟩:=fieldsAre_cons h
  obtain ⟨f3,fl,rfl,n3,t3,o3,h⟩:=fieldsAre_cons h
  obtain ⟨f4,fl,rfl,n4,t4,o4,h⟩:=fieldsAre_cons h
  cases fl with
  | cons _ _=>cases h
  | nil =>
    have ii:∀ (f:Field) (o:Nat) (r:GItem) (x:Int),f.type=3->f.offset=o->(itVals r)[o]?=some (.int .i64 x)->(part f.type (itVals r) f.offset).run Tryz.prog w=.ok (.int .i64 x) w:=fun f o r x ht ho hx=>run_part1 (by rw [ht];exact und3) rfl (by rw [ho];exact hx)
    rw [eqFields_cons (r:=a.doc == b.doc) n0 (ii f0 0 a _ t0 o0 rfl) (ii f0 0 b _ t0 o0 rfl) (run_equalIn_int w m f0.type .i64 .i64 a.doc b.doc (by rw [t0];exact und3))]
    rw [eqFields_cons (r:=a.at_ == b.at_) n1 (ii f1 1 a _ t1 o1 rfl) (ii f1 1 b _ t1 o1 rfl) (run_equalIn_int w m f1.type .i64 .i64 a.at_ b.at_ (by rw [t1];exact und3))]
    rw [eqFields_cons (r:=a.st == b.st) n2 (ii f2 2 a _ t2 o2 rfl) (ii f2 2 b _ t2 o2 rfl) (run_equalIn_int w m f2.type .i64 .i64 a.st b.st (by rw [t2];exact und3))]
    rw [eqFields_cons (r:=a.en == b.en) n3 (ii f3 3 a _ t3 o3 rfl) (ii f3 3 b _ t3 o3 rfl) (run_equalIn_int w m f3.type .i64 .i64 a.en b.en (by rw [t3];exact und3))]
    rw [eqFields_cons (r:=a.lv == b.lv) n4 (ii f4 4 a _ t4 o4 rfl) (ii f4 4 b _ t4 o4 rfl) (run_equalIn_int w m f4.type .i64 .i64 a.lv b.lv (by rw [t4];exact und3))]
    simp only [Op.eqFields,Sem.run_pure]
    have:(decide (a=b))=(a.doc == b.doc&&(a.at_ == b.at_&&(a.st == b.st&&(a.en == b.en&&(a.lv == b.lv))))):=by
      rw [Bool.eq_iff_iff]
      cases a;cases b
      simp
    rw [this]
    cases (a.doc == b.doc)<;>cases (a.at_ == b.at_)<;>cases (a.st == b.st)<;>cases (a.en == b.en)<;>cases (a.lv == b.lv)<;>rfl
section
variable {cf:Cf} {Q:Exit->Act->World->Prop} {σ:Snap} {env:Env} {hp:HP} {A:List AE} {nh:Nat} {it:Item} {rest:List Item}
theorem oj_neItem {d:Nat} {x y:Operand} {yt:TypeId} (a b:GItem) (hP:cf.P=Tryz.prog)
    (hop:it.o.op=.binOp .neq 71 x y yt) (hd:it.o.dst=some d) (hg:guardVal it.guard env=some true) (hN:Nat.blt d cf.N=true) (hx:evalO env x=some (.agg (itCells a))) (hy:evalO env y=some (.agg (itCells b)))
    (hk:OJ cf rest Q σ ((d,.a (.b (!decide (a=b))))::env) hp A nh):OJ cf (it::rest) Q σ env hp A nh:=by
  refine oj_val (.a (.b (!decide (a=b)))) hd hg hN trivial (fun _ ac β ha w=>?_) hk
  have h1:ac.eval x=.agg (itVals a):=evalO_eval ha hx
  have h2:ac.eval y=.agg (itVals b):=evalO_eval ha hy
  rw [hP]
  have hG:(eqGuard .neq 71 x y (.agg (itVals a)) (.agg (itVals b))).run Tryz.prog w=.ok () w:=run_eqGuard_agg w _ _ _ _ _ _ (by kernel_rfl)
  have hE:(Op.equalIn 10000 71 (.agg (itVals a)) (.agg (itVals b))).run Tryz.prog w=.ok (decide (a=b)) w:=eqItem_ok 9998 a b w
  have hB:(binOp .neq 71 (.agg (itVals a)) (.agg (itVals b))).run Tryz.prog w=.ok (.bool (!decide (a=b))) w:=by
    rw [run_neq_struct,hE]
    rfl
  simp only [execOp,hop,h1,h2,Sem.run_bind,hG,hB,Result.andThen_ok,Sem.run_pure]
  rfl
end
theorem pts_sealed {σ:Snap} {g c:Nat} {xs:List Value} (ps:List GPat) (hx:xs=(ptRows ps).flatten.map AT.val) (hn:ps.length<=c) (hS:ArrSealed σ ⟨some ⟨g,0,none⟩,ps.length,c,65,2,xs⟩):SlAt σ (some ⟨g,0,none⟩) ps.length c 2 (ptRows ps) :=
  hS.sl hx (fun r hr=>by
    obtain ⟨p,_,rfl⟩:=List.mem_map.1 hr
    exact ⟨rfl,by simp [ptCells,AT.lt]⟩) (by simp [ptRows]) rfl hn
def askI (X:GIx) (ps:List GPat):List GItem:=((X.ds.flatMap pItems).filter fun x=>matchG x.2 ps).map Prod.fst
theorem ask_sub (X:GIx) (ps:List GPat):(askI X ps).Sublist (allOf X):=by
  unfold askI allOf
  rw [<-flat_fst]
  exact List.filter_sublist.map _
theorem zip_filter {α:Type} (p:α->Bool):∀ (l:List α) (k:Nat),((l.zipIdx k).filter fun x=>p x.1).map Prod.fst=l.filter p
  | [],_=>rfl
  | x::l,k=>by
    rw [List.zipIdx_cons,List.filter_cons,List.filter_cons]
    split
    · rw [List.map_cons,zip_filter p l]
    · exact zip_filter p l _
theorem within_len (a d:List GItem) (kid:Bool):(withinI a d kid).length=(d.filter fun y=>a.any fun z=>fitsI z y kid).length:=by
  unfold withinI withinG
  rw [List.length_map,List.length_map,<-zip_filter (fun y=>a.any fun z=>fitsI z y kid) d 0,List.length_map]
theorem within_get {a d:List GItem} {kid:Bool} {i:Nat} (h:i<(withinI a d kid).length):∃ (k:Nat) (x:GItem),(withinI a d kid)[i]?=some (k:Int)/\d[k]?=some x/\(d.filter fun y=>a.any fun z=>fitsI z y kid)[i]?=some x:=by
  have hl:i<((d.zipIdx.filter fun x=>a.any fun z=>fitsI z x.1 kid)).length:=by
    unfold withinI withinG at h
    rw [List.length_map,List.length_map] at h
    exact h
  have hm:=List.getElem_mem hl
  have hg:=List.getElem?_eq_getElem hl
  generalize (d.zipIdx.filter fun x=>a.any fun z=>fitsI z x.1 kid)[i]=y at *
  obtain ⟨hm,-⟩:=List.mem_filter.1 hm
  refine ⟨y.2,y.1,?_,?_,?_⟩
  · unfold withinI withinG
    rw [List.getElem?_map,List.getElem?_map,hg]
    rfl
  · obtain ⟨k,hk,rfl⟩:=List.mem_iff_getElem.1 hm
    rw [List.length_zipIdx] at hk
    rw [List.getElem_zipIdx]
    show d[0+k]?=some d[k]
    rw [Nat.zero_add]
    exact List.getElem?_eq_getElem hk
  · rw [<-zip_filter (fun y=>a.any fun z=>fitsI z y kid) d 0,List.getElem?_map,hg]
    rfl
theorem bools_sealed {σ:Snap} {g:Nat} {kid:Bool} (hS:ArrSealed σ ⟨some ⟨g,0,none⟩,2,2,4,1,[.bool false,.bool kid]⟩):SlAt σ (some ⟨g,0,none⟩) 2 2 1 [[.ff],[.b kid]] :=
  hS.sl (by rfl) (fun r hr=>by
    simp only [List.mem_cons,List.not_mem_nil,or_false] at hr
    rcases hr with rfl | rfl
    · exact ⟨rfl,fun c hc=>by rw [List.mem_singleton] at hc;subst hc;trivial⟩
    · exact ⟨rfl,fun c hc=>by rw [List.mem_singleton] at hc;subst hc;trivial⟩) rfl rfl (Nat.le_refl _)
set_option maxRecDepth 100000 in
set_option maxHeartbeats 4000000 in
theorem JoinsPaths_c (σ:Snap) (gs:List GVal) (rows:List (List AT)) (lo:Option Addr) (lc:Nat) (H:SlAt σ lo gs.length lc 8 rows) (hl:gs.length<=140737488355328) (hR:RepL σ gs rows) (a b:ByteArray) (kid:Bool) :
    PureS Tryz.prog 5 [.a (.v (.slice lo gs.length lc)),.a (.v (.string a)),.a (.v (.string b)),.a (.b kid)] σ (fun v _=>v=.bool true):=by
  refine enter_s Tryz.func5 rfl rfl (by (repeat' (first | exact trivial | constructor))) fun w=>?_
  (repeat (first | refine cj_seq ?_ | refine cjr TT rfl ?_ | refine oj_then ?_))
  refine oj_callS rfl rfl rfl rfl rfl Tryz.call27 trivial (awake20_c σ) fun v s0 hle0 hv=>⟨.a .tt,trivial,hv.symm,?_⟩
  have H:=H.mono hle0
  have hR:=hR.mono hle0
  refine oj_run TT rfl ?_
  (repeat (first | refine cj_seq ?_ | refine cjr TT rfl ?_ | refine oj_then ?_))
  refine oj_callP rfl rfl rfl rfl rfl Tryz.call28 (by (repeat' (first | exact trivial | constructor))) (small_c s0 gs rows hR hl lo lc H) fun v ⟨fb,hv,hfb⟩=>⟨.a (.b fb),trivial,hv.symm,?_⟩
  refine oj_run TT rfl ?_
  skip
  refine oj_split 22 rfl (fun h=>?_) (fun h=>?_)
  · refine oj_run TT rfl ?_
    (repeat (first | refine cj_seq ?_ | refine cjr TT rfl ?_ | refine oj_then ?_ | refine cj_if_t rfl ?_ | refine cj_ret ?_ | refine nj_then_ret ?_))
    refine nj_ret TT rfl fun β w' _ _=>?_
    rfl
  obtain ⟨h6,hw⟩:=hfb (by simpa using h)
  refine oj_run TT rfl ?_
  refine oj_arith (IntKind.i64.wrap ((a.size:Int)+b.size)) rfl rfl rfl rfl rfl rfl (run_add rfl) (oj_run TT rfl ?_)
  (repeat refine oj_then ?_)
  refine cj_if rfl (fun h=>?_) (fun _=>?_)
  · (repeat (first | refine cj_seq ?_ | refine cjr TT rfl ?_ | refine oj_then ?_ | refine cj_ret ?_ | refine nj_then_ret ?_))
    refine nj_ret TT rfl fun β w' _ _=>?_
    rfl
  (repeat (first | refine cj_seq ?_ | refine cjr TT rfl ?_ | refine cj_skip ?_ | refine nj_then ?_))
  refine oj_callS rfl rfl rfl rfl rfl Tryz.call29 ⟨trivial,trivial⟩ (made_c s0 gs rows hR h6 hw lo lc H) fun v s1 hle1 ⟨X,hv,IX,M⟩=>⟨.agg (ixCells X),ixCells_lt _ _,hv.symm,?_⟩
  have hdd:∀ d∈X.ds,d.ids.length=d.L.length/\d.L.length<=100000:=fun d hd=>⟨(M.idx.doc d hd).1,by obtain ⟨_,_,_,_,_,_,_,h⟩:=M.doc d hd;omega⟩
  have hxl:=M.fit.xs
  dsimp only at hxl
  have hnum:=M.num
  have hal:=allOf_len M
  have hal:(allOf X).length<=1800:=by omega
  have hlv:=allOf_lv M
  have hlam:=allOf_lam (by decide) M
  have hjoin:=join_paths M.idx.ord (M.shr (by decide)) a b kid
  have hmat:∀ (s:Snap) (ps:List GPat) (po:Option Addr) (pc:Nat),IxAt s X->ps.length<=4->SlAt s po ps.length pc 2 (ptRows ps)->PureS Tryz.prog 30 [.agg (ixCells X),.a (.v (.slice po ps.length pc))] s (fun v σ'=>∃ oo oc,v=.slice oo (askI X ps).length oc/\SlAt σ' oo (askI X ps).length oc 5 (itRows (askI X ps))):=by
    intro s ps po pc IX hps P
    have:=IxMatch_c s X IX (by omega) hdd (by omega) ps (by omega) po pc P
    rw [on_match M.idx] at this
    exact this
  have e1:((X.ds.flatMap pItems).filter fun x=>matchG x.2 [deepP,nameP a]).map Prod.fst=askI X [deepP,nameP a]:=rfl
  have e2:((X.ds.flatMap pItems).filter fun x=>matchG x.2 [deepP,nameP b]).map Prod.fst=askI X [deepP,nameP b]:=rfl
  have e3:((X.ds.flatMap pItems).filter fun x=>matchG x.2 (if kid then [deepP,nameP a,nameP b] else [deepP,nameP a,deepP,nameP b])).map Prod.fst=askI X (if kid then [deepP,nameP a,nameP b] else [deepP,nameP a,deepP,nameP b]):=rfl
  rw [e1,e2,e3] at hjoin
  clear e1 e2 e3
  have su:=ask_sub X [deepP,nameP a]
  have sv:=ask_sub X [deepP,nameP b]
  have sw:=ask_sub X (if kid then [deepP,nameP a,nameP b] else [deepP,nameP a,deepP,nameP b])
  have hma:=hmat
  refine oj_run TT rfl ?_
  (repeat (first | refine cj_seq ?_ | refine cjr TT rfl ?_ | refine oj_then ?_))
  refine oj_own 1 2 2 rfl (by (repeat' (first | exact trivial | refine AllLt.of ?_ | constructor))) rfl (by decide) fun gp=>?_
  refine oj_seal 0 rfl rfl rfl fun s2 hle2 hS2=>?_
  have P:=pts_sealed [deepP,nameP a] rfl (Nat.le_refl _) hS2
  have IX:=IX.mono hle2
  refine oj_set 33 (.agg (ixCells X)) rfl (ixCells_lt _ _) (fun _=>rfl) ?_
  refine oj_callS rfl rfl rfl rfl rfl Tryz.call30 ⟨ixCells_lt 0 X,trivial,trivial⟩ (hmat s2 [deepP,nameP a] _ _ IX (by show 2<=4;omega) P) fun v s3 hle3 ⟨uo,uc,hv,HU⟩=>⟨.a (.v (.slice uo (askI X [deepP,nameP a]).length uc)),trivial,hv.symm,?_⟩
  have IX:=IX.mono hle3
  refine oj_run TT rfl ?_
  (repeat (first | refine cj_seq ?_ | refine cjr TT rfl ?_ | refine oj_then ?_))
  refine oj_own 2 2 2 rfl (by (repeat' (first | exact trivial | refine AllLt.of ?_ | constructor))) rfl (by decide) fun gp=>?_
  refine oj_seal 0 rfl rfl rfl fun s4 hle4 hS4=>?_
  have P:=pts_sealed [deepP,nameP b] rfl (Nat.le_refl _) hS4
  have IX:=IX.mono hle4
  have HU:=HU.mono hle4
  refine oj_set 39 (.agg (ixCells X)) rfl (ixCells_lt _ _) (fun _=>rfl) ?_
  refine oj_callS rfl rfl rfl rfl rfl Tryz.call30 ⟨ixCells_lt 0 X,trivial,trivial⟩ (hmat s4 [deepP,nameP b] _ _ IX (by show 2<=4;omega) P) fun v s5 hle5 ⟨vo,vc,hv,HV⟩=>⟨.a (.v (.slice vo (askI X [deepP,nameP b]).length vc)),trivial,hv.symm,?_⟩
  have IX:=IX.mono hle5
  have HU:=HU.mono hle5
  have ul:=su.length_le
  have vl:=sv.length_le
  have ulv:∀ z∈askI X [deepP,nameP a],0<=z.lv/\z.lv<=300:=fun z hz=>hlv z (su.subset hz)
  have vlv:∀ z∈askI X [deepP,nameP b],0<=z.lv/\z.lv<=300:=fun z hz=>hlv z (sv.subset hz)
  have ulam:=hlam.sub su
  have vlam:=hlam.sub sv
  have mw:=hmat
  clear hmat
  generalize askI X [deepP,nameP a]=U at *
  generalize askI X [deepP,nameP b]=V at *
  refine oj_run TT rfl ?_
  (repeat (first | refine cj_seq ?_ | refine cjr TT rfl ?_ | refine oj_then ?_))
  refine cj_own 3 4 2 rfl (by (repeat' (first | exact trivial | refine AllLt.of ?_ | constructor))) rfl (by decide) fun g4=>?_
  refine cj_seal 0 rfl rfl fun s6 hle6 hS6=>?_
  have P4:=pts_sealed [deepP,nameP a,deepP,nameP b] rfl (Nat.le_refl _) hS6
  refine cj_cutN (fun (t:Snap×Option Addr×Nat)=>t.1) (fun t=>[(2,.a (.v (.string b))),(3,.a (.b kid)),(9,.a .tt),(10,.a (.p 0 0)),(11,.a (.v (.slice uo U.length uc))),(12,.a (.v (.slice vo V.length vc))),(13,.a (.v (.slice t.2.1 (if kid then [deepP,nameP a,nameP b] else [deepP,nameP a,deepP,nameP b]).length t.2.2)))])
    (fun _=>[(0,.loc 60,ixCells X)]) (fun _=>[]) 1 (fun t=>s5.le t.1/\SlAt t.1 t.2.1 (if kid then [deepP,nameP a,nameP b] else [deepP,nameP a,deepP,nameP b]).length t.2.2 2 (ptRows (if kid then [deepP,nameP a,nameP b] else [deepP,nameP a,deepP,nameP b]))) ?_ (fun ⟨s7,wpo,wpc⟩ ⟨hle7,PW⟩=>?_)
  · refine cj_if rfl (fun h=>?_) (fun h=>?_)
    · have h:kid=true:=h
      subst h
      (repeat (first | refine cjr TT rfl ?_ | refine oj_nil ?_))
      refine nj_own 4 3 2 rfl (by (repeat' (first | exact trivial | refine AllLt.of ?_ | constructor))) rfl (by decide) fun g3=>?_
      refine nj_seal 0 rfl rfl fun s7 hle7 hS7=>?_
      refine nj_again (s7,some ⟨g3,0,none⟩,3) ⟨Snap.le_trans hle6 hle7,pts_sealed [deepP,nameP a,nameP b] rfl (Nat.le_refl _) hS7⟩ Nat.zero_lt_one rfl (by (repeat first | exact trivial | refine ⟨rfl,?_⟩)) (by (repeat first | exact trivial | refine ⟨rfl,?_⟩)) rfl (by (repeat' (first | exact trivial | exact Nat.le_of_ble_eq_true rfl | constructor))) (by (repeat' (first | exact trivial | exact Nat.le_of_ble_eq_true rfl | refine AllLt.of ?_ | constructor)))
    · have h:kid=false:=h
      subst h
      (repeat refine cj_skip ?_)
      refine nj_again (s6,some ⟨g4,0,none⟩,4) ⟨hle6,P4⟩ Nat.zero_lt_one rfl (by (repeat first | exact trivial | refine ⟨rfl,?_⟩)) (by (repeat first | exact trivial | refine ⟨rfl,?_⟩)) rfl (by (repeat' (first | exact trivial | exact Nat.le_of_ble_eq_true rfl | constructor))) (by (repeat' (first | exact trivial | exact Nat.le_of_ble_eq_true rfl | refine AllLt.of ?_ | constructor)))
  have hjl:(withinI U V kid).length=(askI X (if kid then [deepP,nameP a,nameP b] else [deepP,nameP a,deepP,nameP b])).length:=by rw [within_len,hjoin]
  have IX:=IX.mono hle7
  have HU:=HU.mono hle7
  have HV:=HV.mono hle7
  have wl:=sw.length_le
  have mwk:=mw s7 _ wpo wpc IX (by cases kid;exact Nat.le_refl 4;exact Nat.le_succ 3) PW
  clear mw hma PW P4 sw
  generalize askI X (if kid then [deepP,nameP a,nameP b] else [deepP,nameP a,deepP,nameP b])=Wt at *
  (repeat (first | refine cj_seq ?_ | refine cjr TT rfl ?_))
  refine oj_set 59 (.agg (ixCells X)) rfl (ixCells_lt _ _) (fun _=>rfl) ?_
  refine oj_callS rfl rfl rfl rfl rfl Tryz.call30 ⟨ixCells_lt 0 X,trivial,trivial⟩ mwk fun v s8 hle8 ⟨wo,wc,hv,HW⟩=>⟨.a (.v (.slice wo Wt.length wc)),trivial,hv.symm,?_⟩
  have HU:=HU.mono hle8
  have HV:=HV.mono hle8
  refine oj_run TT rfl ?_
  (repeat (first | refine cj_seq ?_ | refine cjr TT rfl ?_ | refine oj_then ?_))
  refine oj_own 1 2 1 rfl (by (repeat' (first | exact trivial | refine AllLt.of ?_ | constructor))) rfl (by decide) fun gl=>?_
  refine oj_seal 0 rfl rfl rfl fun s9 hle9 hS9=>?_
  have HL:=ll2_sealed (x:=⟨uo,uc,U⟩) (y:=⟨vo,vc,V⟩) hS9
  refine oj_run TT rfl ?_
  refine oj_own 2 2 1 rfl (by (repeat' (first | exact trivial | refine AllLt.of ?_ | constructor))) rfl (by decide) fun gb=>?_
  refine oj_seal 0 rfl rfl rfl fun s10 hle10 hS10=>?_
  have HB:=bools_sealed hS10
  have HL:=HL.mono hle10
  have HU:=HU.mono (Snap.le_trans hle9 hle10)
  have HV:=HV.mono (Snap.le_trans hle9 hle10)
  have HW:=HW.mono (Snap.le_trans hle9 hle10)
  refine oj_callS rfl rfl rfl rfl rfl Tryz.call32 ⟨trivial,trivial,trivial⟩ (Chain_c s10 ⟨uo,uc,U⟩ ⟨vo,vc,V⟩ ⟨HU,by dsimp only;omega,ulam,fun z hz=>by have:=ulv z hz;omega⟩ ⟨HV,by dsimp only;omega,vlam,fun z hz=>by have:=vlv z hz;omega⟩ (some ⟨gl,0,none⟩) 2 HL (some ⟨gb,0,none⟩) 2 2 _ HB kid (.inr ⟨rfl,rfl⟩))
    fun v s11 hle11 ⟨oo,oc,n,hv,hn,HO⟩=>⟨.tup [.a (.v (.slice oo (withinI U V kid).length oc)),.a (.v (.int .i64 n))],(by (repeat' (first | exact trivial | refine SV.lt_tup ?_ | constructor))),hv.symm,?_⟩
  dsimp only at hn HO
  have hget:=fun i (h:i<Wt.length)=>within_get (a:=U) (d:=V) (kid:=kid) (i:=i) (by rw [hjl];exact h)
  rw [hjoin] at hget
  rw [hjl] at HO ⊢
  have HU:=HU.mono hle11
  have HV:=HV.mono hle11
  have HW:=HW.mono hle11
  generalize withinI U V kid=M at *
  refine oj_run TT rfl ?_
  (repeat (first | refine cj_seq ?_ | refine cjr TT rfl ?_ | refine oj_then ?_))
  refine oj_split 76 rfl (fun h=>absurd h (by simp)) (fun _=>?_)
  refine oj_run TT rfl ?_
  refine oj_add rfl rfl rfl rfl rfl rfl (by omega) (oj_run TT rfl ?_)
  refine oj_split 85 rfl (fun h=>absurd (of_decide_eq_true (show decide ((U.length:Int)+V.length<n)=true from h)) (by omega)) (fun _=>?_)
  refine oj_run TT rfl ?_
  refine oj_callP rfl rfl rfl rfl rfl Tryz.call33 (by (repeat' (first | exact trivial | constructor))) (Sound20_c s11 U (by omega) uo uc HU) fun v hv=>⟨.a .tt,trivial,by rw [hv,lam_sound ulam];rfl,?_⟩
  refine oj_run TT rfl ?_
  refine oj_callP rfl rfl rfl rfl rfl Tryz.call33 (by (repeat' (first | exact trivial | constructor))) (Sound20_c s11 V (by omega) vo vc HV) fun v hv=>⟨.a .tt,trivial,by rw [hv,lam_sound vlam];rfl,?_⟩
  refine oj_run TT rfl ?_
  (repeat (first | refine cj_seq ?_ | refine cjr TT rfl ?_ | refine oj_then ?_ | refine cj_if_f rfl ?_ | refine cj_skip ?_ | refine cj_block ?_ | refine nj_then ?_))
  refine cj_loop (fun (_:Nat)=>s11) (fun k=>[(9,.a .tt),(12,.a (.v (.slice vo V.length vc))),(14,.a (.v (.slice wo Wt.length wc))),(15,.a (.v (.slice oo Wt.length oc))),(17,.a (.v (.int .i64 k)))]) (fun _=>[]) (fun _=>[]) 0
    (fun k=>k<=Wt.length) (fun k=>Wt.length - k) 0 (Nat.zero_le _) rfl (by (repeat first | exact trivial | refine ⟨rfl,?_⟩)) (by (repeat first | exact trivial | refine ⟨rfl,?_⟩)) rfl (by (repeat' (first | exact trivial | constructor))) (by (repeat' exact trivial)) fun k hk=>?_
  (repeat (first | refine cj_seq ?_ | refine cjr TT rfl ?_ | refine oj_then ?_))
  refine cj_if rfl (fun h=>?_) (fun h=>?_)
  rotate_left
  · (repeat (first | refine cj_seq ?_ | refine cjr TT rfl ?_ | refine oj_then ?_ | refine cj_exit ?_ | refine cj_ret ?_ | refine nj_then ?_ | refine nj_then_exit ?_ | refine nj_block_out ?_))
    refine nj_ret TT rfl fun β w' _ _=>?_
    rfl
  have hkl:k<Wt.length:=by have:=of_decide_eq_true h;omega
  obtain ⟨j,x,e1,e2,e3⟩:=hget k hkl
  have r1:=idRows_get e1
  have r2:=itRows_get e2
  have r3:=itRows_get e3
  have hjv:=(List.getElem?_eq_some_iff.1 e2).1
  (repeat (first | refine cj_seq ?_ | refine cj_skip ?_ | refine cj_block ?_ | refine nj_then ?_))
  refine cj_draw [(0,.pure),(1,.pure),(2,.pure),(3,.pure),(4,.quiet),(5,.pure),(6,.quiet),(7,.pure),(8,.pure),(9,.pure),(10,.quiet),(11,.pure)] mixed (by kernel_rfl) (oj_run TT rfl ?_)
  refine oj_idx TT rfl rfl rfl rfl rfl rfl rfl rfl rfl HO (by omega) r1 (oj_run TT rfl ?_)
  refine oj_idx TT rfl rfl rfl rfl rfl rfl rfl rfl rfl HV (by omega) r2 (oj_run TT rfl ?_)
  refine oj_idx TT rfl rfl rfl rfl rfl rfl rfl rfl rfl HW (by omega) r3 (oj_run TT rfl ?_)
  refine oj_neItem x x rfl rfl rfl rfl rfl rfl rfl ?_
  refine oj_run TT rfl ?_
  (repeat refine oj_then ?_)
  refine cj_if rfl (fun h=>absurd h (by simp)) (fun _=>?_)
  (repeat (first | refine cjr TT rfl ?_ | refine oj_nil ?_ | refine cj_skip ?_ | refine nj_then ?_ | refine nj_block ?_ | (refine oj_add rfl rfl rfl rfl rfl rfl (by omega) ?_;refine oj_run TT rfl ?_)))
  refine nj_again (k+1) hkl (by omega) rfl (by (repeat first | exact trivial | refine ⟨rfl,?_⟩)) (by (repeat first | exact trivial | refine ⟨rfl,?_⟩)) rfl (by (repeat' (first | exact trivial | constructor))) (by (repeat' exact trivial))
end Go.Sy
/- From a row's data to what the walks ask: a value that is read in the world is a tree that lies in memory, all of it sealed. -/
namespace Go.Sy
open Go.ChangeShapes Go.RowKit
def snapOf (W:World):Snap:=fun b=>W.heap[b]?
theorem snapOf_sealed (W:World):Sealed (snapOf W) W:=fun _ _ h=>h
theorem snapOf_cell (W:World) (a:Addr):(snapOf W).cell a=W.cell? a:=rfl
structure VT (P:Program) (tV tL tM tE tD tS tI tB:TypeId):Prop where
  v:∃ fs:Array Field,P.underlying tV=some (.struct fs)/\fs.toList.map (fun f=>(f.type,f.offset))=[(tI,0),(tB,1),(tD,2),(tS,5),(tL,6),(tM,7)]
  l:P.underlying tL=some (.slice tV)
  m:P.underlying tM=some (.slice tE)
  e:∃ fs:Array Field,P.underlying tE=some (.struct fs)/\fs.toList.map (fun f=>(f.type,f.offset))=[(tS,0),(tV,1)]
  d:∃ fs:Array Field,P.underlying tD=some (.struct fs)/\fs.toList.map (fun f=>(f.type,f.offset))=[(tB,0),(tS,1),(tI,2)]
  s:P.underlying tS=some .string
  i:P.underlying tI=some (.int .i64)
  b:P.underlying tB=some .bool
  cV:P.cellsOf tV=8
  cE:P.cellsOf tE=9
  cD:P.cellsOf tD=3
  cS:P.cellsOf tS=1
  cI:P.cellsOf tI=1
  cB:P.cellsOf tB=1
  cL:P.cellsOf tL=1
  cM:P.cellsOf tM=1
  bV:0<P.bytesOf tV
  bE:0<P.bytesOf tE
section
variable {H:Type} {enc:TypeId×Value->H} {P:Program} {w:World} {sp:Nat->Bool} {held:Bool}
theorem field_at {fs:Array Field} {l:List (TypeId×Nat)} (h:fs.toList.map (fun f=>(f.type,f.offset))=l) {i:Nat} {t:TypeId} {o:Nat} (hi:l[i]?=some (t,o)) :
    ∃ f,fs[i]?=some f/\f.type=t/\f.offset=o:=by
  subst h
  rw [List.getElem?_map] at hi
  simp only [Option.map_eq_some_iff,Prod.mk.injEq] at hi
  obtain ⟨f,h1,h2,h3⟩:=hi
  exact ⟨f,by simpa using h1,h2,h3⟩
theorem open_struct {t:TypeId} {fs:Array Field} {l:List (TypeId×Nat)} {n:Nat} {cs:List Value} {x:DataW H×List MemPlace} (hu:P.underlying t=some (.struct fs)) (hl:fs.toList.map (fun f=>(f.type,f.offset))=l)
    (h:DataW.trod enc P w 0 sp held n t cs=some x) :
    ∃ m,m<n/\cs.length=P.cellsOf t/\∀ (i:Nat) (u:TypeId) (o:Nat),l[i]?=some (u,o)->∃ y:DataW H×List MemPlace,DataW.trod enc P w 0 sp held m u ((cs.drop o).take (P.cellsOf u))=some y/\∀ k∈y.1.weights P u,k∈x.1.weights P t:=by
  obtain ⟨xs,m,rfl,rfl,h1,h2,h3⟩:=DataW.trod_struct hu h
  refine ⟨m,by omega,h1,fun i u o hi=>?_⟩
  obtain ⟨f,hf,rfl,rfl⟩:=field_at hl hi
  have hi':i<xs.length:=by
    rw [h2]
    have:=(List.getElem?_eq_some_iff.1 (show fs.toList[i]?=some f by simpa using hf)).1
    simpa using this
  refine ⟨xs[i],by rw [h3 i f hf,List.getElem?_eq_getElem hi'],fun k hk=>?_⟩
  rw [DataW.weights.eq_def]
  simp only [hu]
  exact DataW.weights_mem_each (j:=i) (t:=f.type) (d:=xs[i].1) (by simp;exact ⟨f,by simpa using hf,rfl⟩) (by simp [List.getElem?_eq_getElem hi']) k hk
theorem weightsAll_mem {e:TypeId}:∀ {ds:List (DataW H)} {d:DataW H},d∈ds->∀ k∈d.weights P e,k∈DataW.weightsAll P e ds
  | _::_,_,.head _,k,hk=>by rw [DataW.weightsAll];exact List.mem_append_left _ hk
  | _::_,_,.tail _ h,k,hk=>by rw [DataW.weightsAll];exact List.mem_append_right _ (weightsAll_mem h k hk)
theorem open_sl {t e:TypeId} {n sz:Nat} {c:Value} {x:DataW H×List MemPlace} (hu:P.underlying t=some (.slice e)) (hc:P.cellsOf e=sz) (hb:0<P.bytesOf e) (h:DataW.trod enc P w 0 sp held n t [c]=some x)
    (hw:∀ k∈x.1.weights P t,k<=reachBytes) :
    ∃ (ao:Option Addr) (len cap m:Nat),c=.slice ao len cap/\m<n/\len<=cap/\len<=reachBytes /\
      (len=0\/∃ a,ao=some a/\∀ i,i<len->∃ (cs:List Value) (y:DataW H×List MemPlace),cs.length=sz/\(∀ j v,cs[j]?=some v->w.cell? (a.add (i*sz+j))=some v) /\
        DataW.trod enc P w 0 sp held m e cs=some y/\∀ k∈y.1.weights P e,k∈x.1.weights P t):=by
  rcases DataW.trod_slice hu h with ⟨h1,rfl⟩ | ⟨a,len,cap,elems,rest,m,rfl,h1,rfl,_,h3,h4,h5,h6,_,_⟩
  · injection h1 with h1
    subst h1
    refine ⟨none,0,0,0,rfl,?_,Nat.le_refl _,by decide,.inl rfl⟩
    cases n with
    | zero=>simp [DataW.trod] at h
    | succ n=>omega
  · injection h1 with h1
    subst h1
    have hwt:(DataW.slice (elems.map (·.1)) (rest.map (·.1)):DataW H).weights P t=((elems.map (·.1)).length+(rest.map (·.1)).length)*P.bytesOf e::(DataW.weightsAll P e (elems.map (·.1))++DataW.weightsAll P e (rest.map (·.1))):=by
      rw [DataW.weights.eq_def]
      simp only [hu]
    refine ⟨some a,len,cap,m,rfl,by omega,h3,?_,.inr ⟨a,rfl,fun i hi=>?_⟩⟩
    · have:=hw _ (by rw [hwt];exact List.mem_cons_self)
      simp only [List.length_map] at this
      have h7:elems.length<=(elems.length+rest.length)*P.bytesOf e:=Nat.le_trans (Nat.le_add_right _ _) (Nat.le_mul_of_pos_right _ hb)
      omega
    · have hi':i<elems.length:=by omega
      have h8:=h6 i hi
      rw [List.getElem?_eq_getElem hi',hc] at h8
      obtain ⟨cs,h9,h10⟩:=Option.bind_eq_some_iff.1 h8
      obtain ⟨_,h11,h12⟩:=World.cells?_some h9
      refine ⟨cs,elems[i],h11,fun j v hj=>?_,h10,fun k hk=>?_⟩
      · have hj':j<sz:=by rw [<-h11];exact (List.getElem?_eq_some_iff.1 hj).1
        have:=h12 j hj'
        rw [hj] at this
        rw [<-this]
        congr 1
        exact (Addr.add_add _ _ _).symm
      · rw [hwt]
        exact List.mem_cons_of_mem _ (List.mem_append_left _ (weightsAll_mem (List.mem_map.2 ⟨elems[i],List.getElem_mem hi',rfl⟩) k hk))
theorem RepL.range {σ:Snap} {G:Nat->GVal} {R:Nat->List AT}:∀ l:List Nat,(∀ i∈l,RepV σ (G i) (R i))->RepL σ (l.map G) (l.map R)
  | [],_=>by simp [RepL]
  | a::l,h=>by
    simp only [List.map_cons,RepL]
    exact ⟨R a,l.map R,rfl,h a List.mem_cons_self,RepL.range l fun i hi=>h i (List.mem_cons_of_mem _ hi)⟩
theorem keyRows_range (K:Nat->ByteArray) (R:Nat->List AT):∀ l:List Nat,keyRows (l.map K) (l.map R)=l.map fun i=>keyRow (K i) (R i)
  | []=>rfl
  | a::l=>by simp [keyRows,keyRows_range K R l]
theorem slAt_range {ao:Option Addr} {len cap sz:Nat} {R:Nat->List AT} (h1:len<=cap) (h2:∀ i,i<len->(R i).length=sz/\∀ c∈R i,c.lt 0)
    (h3:len=0\/∃ a,ao=some a/\∀ i,i<len->∀ j v,((R i).map (AT.den β0))[j]?=some v->w.cell? (a.add (i*sz+j))=some v):SlAt (snapOf w) ao len cap sz ((List.range len).map R):=by
  refine ⟨by simp,h1,fun r hr=>?_,?_⟩
  · obtain ⟨i,hi,rfl⟩:=List.mem_map.1 hr
    exact h2 i (List.mem_range.1 hi)
  · rcases h3 with h3 | ⟨a,h3,h4⟩
    · exact .inl h3
    · refine .inr ⟨a,h3,fun i r j c hr hc=>?_⟩
      rw [List.getElem?_map] at hr
      obtain ⟨i',h5,rfl⟩:=Option.map_eq_some_iff.1 hr
      obtain ⟨h6,h7⟩:=List.getElem?_eq_some_iff.1 h5
      have h8:i<len:=by simpa using h6
      have h9:i'=i:=by simpa using h7.symm
      subst h9
      rw [snapOf_cell]
      exact h4 i' h8 j _ (by rw [List.getElem?_map,hc];rfl)
variable {tV tL tM tE tD tS tI tB:TypeId}
theorem open_str {n:Nat} {t:TypeId} {c:Value} {x:DataW H×List MemPlace} (hu:P.underlying t=some .string) (h:DataW.trod enc P w 0 sp held n t [c]=some x) (hw:∀ k∈x.1.weights P t,k<=reachBytes) :
    ∃ s:ByteArray,c=.string s/\s.size<=mostLen:=by
  obtain ⟨s,h1,rfl,_⟩:=DataW.trod_string hu h
  injection h1 with h1
  subst h1
  refine ⟨s,rfl,?_⟩
  have:=hw s.data.toList.length (by rw [DataW.weights.eq_def];exact List.mem_cons_self)
  have h2:s.data.toList.length=s.size:=rfl
  rw [h2] at this
  exact this
theorem open_val (T:VT P tV tL tM tE tD tS tI tB):∀ (n:Nat) (cs:List Value) (x:DataW H×List MemPlace),DataW.trod enc P w 0 sp held n tV cs=some x->(∀ k∈x.1.weights P tV,k<=reachBytes) ->
    ∃ (g:GVal) (r:List AT),cs=r.map (AT.den β0)/\RepV (snapOf w) g r:=by
  intro n
  induction n using Nat.strongRecOn with
  | _ n ih=>?_
  intro cs x h hw
  obtain ⟨fs,hu,hl⟩:=T.v
  obtain ⟨m,hm,hlen,hf⟩:=open_struct hu hl h
  rw [T.cV] at hlen
  match cs,hlen with
  | [c0,c1,c2,c3,c4,c5,c6,c7],_ =>
  obtain ⟨y0,h0,_⟩:=hf 0 tI 0 rfl
  obtain ⟨y1,h1,_⟩:=hf 1 tB 1 rfl
  obtain ⟨y2,h2,w2⟩:=hf 2 tD 2 rfl
  obtain ⟨y3,h3,w3⟩:=hf 3 tS 5 rfl
  obtain ⟨y4,h4,w4⟩:=hf 4 tL 6 rfl
  obtain ⟨y5,h5,w5⟩:=hf 5 tM 7 rfl
  rw [T.cI] at h0
  rw [T.cB] at h1
  rw [T.cD] at h2
  rw [T.cS] at h3
  rw [T.cL] at h4
  rw [T.cM] at h5
  simp only [List.drop_zero,List.drop_succ_cons,List.take_succ_cons,List.take_zero] at h0 h1 h2 h3 h4 h5
  obtain ⟨k,e0,-,-⟩:=DataW.trod_int T.i h0
  obtain ⟨b,e1,-⟩:=DataW.trod_bool T.b h1
  obtain ⟨s,e5,hs⟩:=open_str T.s h3 fun k hk=>hw k (w3 k hk)
  obtain ⟨fd,hud,hld⟩:=T.d
  obtain ⟨md,hmd,-,hfd⟩:=open_struct hud hld h2
  obtain ⟨z0,g0,_⟩:=hfd 0 tB 0 rfl
  obtain ⟨z1,g1,v1⟩:=hfd 1 tS 1 rfl
  obtain ⟨z2,g2,_⟩:=hfd 2 tI 2 rfl
  rw [T.cB] at g0
  rw [T.cS] at g1
  rw [T.cI] at g2
  simp only [List.drop_zero,List.drop_succ_cons,List.take_succ_cons,List.take_zero] at g0 g1 g2
  obtain ⟨ng,e2,-⟩:=DataW.trod_bool T.b g0
  obtain ⟨dg,e3,hdg⟩:=open_str T.s g1 fun k hk=>hw k (w2 k (v1 k hk))
  obtain ⟨ex,e4,-,-⟩:=DataW.trod_int T.i g2
  injection e0 with e0
  injection e1 with e1
  injection e2 with e2
  injection e4 with e4
  subst e0 e1 e2 e3 e4 e5
  obtain ⟨la,ll,lc,ml,rfl,hml,hll,hlr,hle⟩:=open_sl T.l T.cV T.bV h4 fun k hk=>hw k (w4 k hk)
  obtain ⟨ma,lm,mc,mm,rfl,hmm,hlm,hmr,hme⟩:=open_sl T.m T.cE T.bE h5 fun k hk=>hw k (w5 k hk)
  have HL:∀ i,∃ gr:GVal×List AT,i<ll->RepV (snapOf w) gr.1 gr.2/\∀ a,la=some a->∀ j v,(gr.2.map (AT.den β0))[j]?=some v->w.cell? (a.add (i*8+j))=some v:=by
    intro i
    by_cases hi:i<ll
    · rcases hle with h0 | ⟨a,rfl,hle⟩
      · omega
      · obtain ⟨cs,y,_,q2,q3,q4⟩:=hle i hi
        obtain ⟨g,r,rfl,hr⟩:=ih ml (by omega) cs y q3 fun k hk=>hw k (w4 k (q4 k hk))
        exact ⟨(g,r),fun _=>⟨hr,fun a' ha=>by injection ha with ha;subst ha;exact q2⟩⟩
    · exact ⟨(.mk 0 false ⟨false,⟨#[]⟩,0⟩ ⟨#[]⟩ [] [] [],[]),fun h=>absurd h hi⟩
  have HM:∀ i,∃ gr:ByteArray×GVal×List AT,i<lm->gr.1.size<=mostLen/\RepV (snapOf w) gr.2.1 gr.2.2/\∀ a,ma=some a->∀ j v,((keyRow gr.1 gr.2.2).map (AT.den β0))[j]?=some v->w.cell? (a.add (i*9+j))=some v:=by
    intro i
    by_cases hi:i<lm
    · rcases hme with h0 | ⟨a,rfl,hme⟩
      · omega
      · obtain ⟨cs,y,q1,q2,q3,q4⟩:=hme i hi
        obtain ⟨fe,hue,hle'⟩:=T.e
        obtain ⟨me,hme',-,hfe⟩:=open_struct hue hle' q3
        obtain ⟨u0,p0,x0⟩:=hfe 0 tS 0 rfl
        obtain ⟨u1,p1,x1⟩:=hfe 1 tV 1 rfl
        rw [T.cS] at p0
        rw [T.cV] at p1
        match cs,q1 with
        | c::cs',q1 =>
          simp only [List.drop_zero,List.drop_succ_cons,List.take_succ_cons,List.take_zero] at p0 p1
          rw [List.take_of_length_le (by simp at q1;omega)] at p1
          obtain ⟨key,rfl,hk⟩:=open_str T.s p0 fun k hk=>hw k (w5 k (q4 k (x0 k hk)))
          obtain ⟨g,r,rfl,hr⟩:=ih me (by omega) cs' u1 p1 fun k hk=>hw k (w5 k (q4 k (x1 k hk)))
          exact ⟨(key,g,r),fun _=>⟨hk,hr,fun a' ha=>by injection ha with ha;subst ha;exact q2⟩⟩
    · exact ⟨(⟨#[]⟩,.mk 0 false ⟨false,⟨#[]⟩,0⟩ ⟨#[]⟩ [] [] [],[]),fun h=>absurd h hi⟩
  obtain ⟨FL,HL⟩:=Classical.axiomOfChoice HL
  obtain ⟨FM,HM⟩:=Classical.axiomOfChoice HM
  refine ⟨.mk k b ⟨ng,dg,ex⟩ s ((List.range ll).map fun i=>(FL i).1) ((List.range lm).map fun i=>(FM i).1) ((List.range lm).map fun i=>(FM i).2.1),
    [.v (.int .i64 k),.b b,.b ng,.v (.string dg),.v (.int .i64 ex),.v (.string s),.v (.slice la ll lc),.v (.slice ma lm mc)],rfl,?_⟩
  simp only [RepV]
  refine ⟨la,lc,(List.range ll).map fun i=>(FL i).2,ma,mc,(List.range lm).map fun i=>(FM i).2.2,by simp,?_,RepL.range _ fun i hi=>(HL i (List.mem_range.1 hi)).1,by simp,?_,RepL.range _ fun i hi=>(HM i (List.mem_range.1 hi)).2.1,hdg,hs,by simpa [mostLen,reachBytes] using hlr,by simpa [mostLen,reachBytes] using hmr,?_⟩
  · simp only [List.length_map,List.length_range]
    refine slAt_range hll (fun i hi=>⟨(HL i hi).1.len,(HL i hi).1.clo⟩) ?_
    rcases hle with h0 | ⟨a,rfl,_⟩
    · exact .inl h0
    · exact .inr ⟨a,rfl,fun i hi=>(HL i hi).2 a rfl⟩
  · rw [keyRows_range]
    simp only [List.length_map,List.length_range]
    refine slAt_range hlm (fun i hi=>⟨by simp [keyRow,(HM i hi).2.1.len],fun c hc=>?_⟩) ?_
    · cases hc with
      | head=>trivial
      | tail _ hc=>exact (HM i hi).2.1.clo c hc
    · rcases hme with h0 | ⟨a,rfl,_⟩
      · exact .inl h0
      · exact .inr ⟨a,rfl,fun i hi=>(HM i hi).2.2 a rfl⟩
  · intro key hk
    obtain ⟨i,hi,rfl⟩:=List.mem_map.1 hk
    exact (HM i (List.mem_range.1 hi)).1
end
end Go.Sy
/- The closing of a law's row, alike from law to law. -/
namespace Go.Sy
open Go.ChangeShapes Go.RowKit
section
variable {H:Type} {enc:TypeId×Value->H} {P:Program} {W W':World} {sp:Nat->Bool}
theorem trodAll_stays {T:TypeId->Prop} (K:_root_.Go.Kids P T) (hz:∀ t e,T t->P.underlying t=some (.slice e)->0<P.cellsOf e) :
    ∀ {ts:List TypeId} {vs:List Value} {ds:List (DataW H)} {ps:List MemPlace},(∀ t∈ts,T t)->DataW.TrodAll enc P W 0 (fun _=>true) true ts vs ds ps ->
      (∀ p∈ps,W.sameAt W' p)->(∀ p∈ps,sp p.block=true)->DataW.TrodAll enc P W' 0 sp true ts vs ds ps
  | [],[],[],_,_,h,_,_=>h
  | _::_,_::_,_::_,_,hT,⟨p,q,⟨n,h1⟩,h2,e⟩,hs,hb =>
    ⟨p,q,⟨n,DataW.trod_stays K (fun ht hu=>hz _ _ ht hu) (fun h=>by cases h) (hT _ List.mem_cons_self) h1 (fun x hx=>hs x (by rw [e];exact List.mem_append_left _ hx)) (fun x hx=>hb x (by rw [e];exact List.mem_append_left _ hx))⟩,
      trodAll_stays K hz (fun t ht=>hT t (List.mem_cons_of_mem _ ht)) h2 (fun x hx=>hs x (by rw [e];exact List.mem_append_right _ hx)) (fun x hx=>hb x (by rw [e];exact List.mem_append_right _ hx)),e⟩
theorem below_of_fr {M:Nat->Prop} {w w':World} (h:Fr M w w') (hM:∀ b,¬ M b):Below w.heap.size w w':=⟨h.os,h.tape,h.output,h.size,fun k hk=>h.block k hk (hM k)⟩
theorem post_of_law {f:Func} {s:ChangeSpec} {apart fresh handsOn again:Bool} {args:Array Value} {ds gs:List (DataW H)} {before:List MemPlace} {tB:TypeId}
    (hl:laidOutB P=true) (hm:mapsRowed P=true) (hz:∀ t e,t<P.types.size->P.underlying t=some (.slice e)->0<P.cellsOf e)
    (hts:∀ t∈f.params.toList,t<P.types.size) (hr:f.resultTypes=#[tB]) (hB:P.underlying tB=some .bool) (hv:s.vars=[])
    (hres:(s.fn H (ds++gs)).results=[.lit (.bool true)]) (hargs:(s.fn H (ds++gs)).args=ds) (hvars:(s.fn H (ds++gs)).vars=[])
    (hW:DataW.Whole enc P f.params.toList s.vars apart W args.toList ds gs before) (hb:Below W.heap.size W W') :
    s.post enc P f apart fresh handsOn again W args (.bool true) W':=by
  have hW':=hW
  obtain ⟨p,q,hA,hV,rfl,hfz,hnd⟩:=hW
  rw [hv] at hV
  obtain ⟨rfl,rfl⟩:=trodVars_none hV
  have hlt:∀ x∈p++([]:List MemPlace),x.block<W.heap.size:=fun x hx=>hW'.lt x hx
  have h1:∀ (b:Nat) (sp:Nat->Bool) (hd:Bool),DataW.TrodAll enc P W' b sp hd f.resultTypes.toList ((Value.bool true).resultList f.resultTypes.size) (s.fn H (ds++[])).results []:=by
    intro b sp hd
    rw [hr,hres]
    exact trodAll_mk1 (shut_bool hB true)
  have h2:∀ sp:Nat->Bool,(∀ x∈p++([]:List MemPlace),sp x.block=true)->DataW.TrodAll enc P W' 0 sp true f.params.toList args.toList (s.fn H (ds++[])).args p:=by
    intro sp hs
    rw [hargs]
    exact trodAll_stays (T:=(·<P.types.size)) (kids_rows hl hm) hz hts hA (fun x hx=>hb.same (hlt x (List.mem_append_left _ hx))) (fun x hx=>hs x (List.mem_append_left _ hx))
  have h3:∀ sp:Nat->Bool,DataW.TrodVars enc P W' sp s.vars (s.fn H (ds++[])).vars []:=by
    intro sp
    rw [hv,hvars]
    rfl
  have hold:∀ x∈p++([]:List MemPlace),(fun b=>decide (b<W.heap.size)) x.block=true:=fun x hx=>by simpa using hlt x hx
  refine ⟨ds,[],_,[],p,[],hW',h1 _ _ _,h2 _ hold,h3 _,hb.frame _,fun _=>⟨ok_one hr rfl (okWide_bool_mk hB _),_,_,([]++p)++[],⟨[]++p,[],trodAll_append (h2 _ (fun _ _=>rfl)) (h1 _ _ _),h3 _,rfl,?_,?_⟩,?_⟩⟩
  · intro b off hp
    have hp':MemPlace.cell b off∈p++([]:List MemPlace):=by simpa using hp
    rw [hb.frozen (p:=⟨b,off,none⟩) (hlt _ hp')]
    exact hfz b off hp'
  · intro ha
    have:=hnd ha
    simpa using this
  · intro x hp _
    simpa using hp
theorem okWide_agg {tV tL tM tE tD tS tI tB:TypeId} (T:VT P tV tL tM tE tD tS tI tB) {r:Reach} {base:Nat} {v:Value} (h:Value.okWide P W r base tV v):∃ cs:Array Value,v=.agg cs/\cs.size=P.cellsOf tV:=by
  obtain ⟨fs,hu,_⟩:=T.v
  unfold Value.okWide at h
  rw [hu] at h
  obtain ⟨cs,h1,h2,_⟩:=h
  exact ⟨cs,h1,h2⟩
theorem okWide_str {t:TypeId} (T:∃ fs,P.underlying t=some (.struct fs)) {r:Reach} {base:Nat} {v:Value} (h:Value.okWide P W r base t v):∃ (fs:Array Field) (_:P.underlying t=some (.struct fs)) (cs:Array Value),v=.agg cs/\cs.size=P.cellsOf t:=by
  obtain ⟨fs,hu⟩:=T
  unfold Value.okWide at h
  rw [hu] at h
  obtain ⟨cs,h1,h2,_⟩:=h
  exact ⟨fs,hu,cs,h1,h2⟩
theorem weights_le {ts:List TypeId} {ds:List (DataW H)} (h:(DataW.weightsEach P ts ds).all (·<=reachBytes)=true) {j:Nat} {t:TypeId} {d:DataW H} (ht:ts[j]?=some t) (hd:ds[j]?=some d):∀ k∈d.weights P t,k<=reachBytes:=by
  intro k hk
  have:=List.all_eq_true.1 h k (DataW.weights_mem_each ht hd k hk)
  simpa using this
end
end Go.Sy
/- Closed facts of the program that every row's closing asks. -/
namespace Go.Proofs.YtlonlnagmfdlbaaGreatDoor.Row
open Go Go.Proofs Go.Sy Go.ChangeShapes Go.WideShapes Go.ChangeAt Go.RowKit
set_option maxRecDepth 100000
theorem own:ownKnob Tryz.prog.godebug=none:=by kernel_rfl
theorem laidOut:laidOutB Tryz.prog=true:=by kernel_rfl
theorem rowed:mapsRowed Tryz.prog=true:=by kernel_rfl
theorem full:∀ t e,t<Tryz.prog.types.size->Tryz.prog.underlying t=some (.slice e)->0<Tryz.prog.cellsOf e:=slices_full_of Tryz.prog (by kernel_rfl)
theorem vt:VT Tryz.prog 28 25 26 184 24 9 3 4 where
  v:=⟨_,Tryz.underlying28,rfl⟩
  l:=by kernel_rfl
  m:=by kernel_rfl
  e:=⟨_,Tryz.underlying184,rfl⟩
  d:=⟨_,Tryz.underlying24,rfl⟩
  s:=by kernel_rfl
  i:=by kernel_rfl
  b:=by kernel_rfl
  cV:=by kernel_rfl
  cE:=by kernel_rfl
  cD:=by kernel_rfl
  cS:=by kernel_rfl
  cI:=by kernel_rfl
  cB:=by kernel_rfl
  cL:=by kernel_rfl
  cM:=by kernel_rfl
  bV:=of_decide_eq_true (by kernel_rfl)
  bE:=of_decide_eq_true (by kernel_rfl)
end Go.Proofs.YtlonlnagmfdlbaaGreatDoor.Row
/- More of what rows hand in: lists of values. No program in sight. -/
namespace Go.Sy
open Go.ChangeShapes Go.RowKit
section
variable {H:Type} {enc:TypeId×Value->H} {P:Program} {w:World} {sp:Nat->Bool} {held:Bool} {tV tL tM tE tD tS tI tB:TypeId}
theorem open_valL (T:VT P tV tL tM tE tD tS tI tB) {n:Nat} {c:Value} {x:DataW H×List MemPlace} (h:DataW.trod enc P w 0 sp held n tL [c]=some x) (hw:∀ k∈x.1.weights P tL,k<=reachBytes) :
    ∃ (ao:Option Addr) (cap:Nat) (gs:List GVal) (rows:List (List AT)),c=.slice ao gs.length cap/\SlAt (snapOf w) ao gs.length cap 8 rows/\gs.length<=140737488355328/\RepL (snapOf w) gs rows:=by
  obtain ⟨la,ll,lc,ml,rfl,hml,hll,hlr,hle⟩:=open_sl T.l T.cV T.bV h hw
  have HL:∀ i,∃ gr:GVal×List AT,i<ll->RepV (snapOf w) gr.1 gr.2/\∀ a,la=some a->∀ j v,(gr.2.map (AT.den β0))[j]?=some v->w.cell? (a.add (i*8+j))=some v:=by
    intro i
    by_cases hi:i<ll
    · rcases hle with h0 | ⟨a,rfl,hle⟩
      · omega
      · obtain ⟨cs,y,_,q2,q3,q4⟩:=hle i hi
        obtain ⟨g,r,rfl,hr⟩:=open_val T ml cs y q3 fun k hk=>hw k (q4 k hk)
        exact ⟨(g,r),fun _=>⟨hr,fun a' ha=>by injection ha with ha;subst ha;exact q2⟩⟩
    · exact ⟨(.mk 0 false ⟨false,⟨#[]⟩,0⟩ ⟨#[]⟩ [] [] [],[]),fun h=>absurd h hi⟩
  obtain ⟨FL,HL⟩:=Classical.axiomOfChoice HL
  refine ⟨la,lc,(List.range ll).map fun i=>(FL i).1,(List.range ll).map fun i=>(FL i).2,by simp,?_,?_,RepL.range _ fun i hi=>(HL i (List.mem_range.1 hi)).1⟩
  · simp only [List.length_map,List.length_range]
    refine slAt_range hll (fun i hi=>⟨(HL i hi).1.len,(HL i hi).1.clo⟩) ?_
    rcases hle with h0 | ⟨a,rfl,_⟩
    · exact .inl h0
    · exact .inr ⟨a,rfl,fun i hi=>(HL i hi).2 a rfl⟩
  · simp only [List.length_map,List.length_range]
    simp only [reachBytes] at hlr
    omega
end
end Go.Sy
