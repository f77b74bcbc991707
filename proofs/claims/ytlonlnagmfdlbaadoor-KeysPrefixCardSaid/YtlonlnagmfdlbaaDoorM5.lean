/- Parts of the proof of CKeysPrefix: K4, K5, K6, K7, K8, K9, K10, XCl, XRow, KFacts, Ck, KC. No conditions. -/
import Derived.Test.YtlonlnagmfdlbaaDoorM4
import Derived.Carry
import Derived.RowKit
import Derived.ChangeStays
import Derived.ChangeSame
import Derived.ReadAgain
import Derived.SizedLaws
import Derived.Deep.DeepHandedRow
import Derived.ProofKit
import Derived.OpenShut
import Derived.Lay
import Derived.SevenTiedAt
import Derived.Stop.Joined
import Derived.Shelf.Vars
import Derived.Test.YtlonlnagmfdlbaaDoorCards
import Derived.Test.YtlonlnagmfdlbaaDoorTie
import Derived.WideShapes
namespace Go.Sy
open Go.Proofs
theorem u8E_app {ao:Option Addr} {cap:Nat} {a b:List UInt8} {n:Nat} (hn:n=(a++b).length):(⟨ao,n,cap,5,1,u8Xs a++u8Xs b⟩:AE)=u8E ao cap (a++b):=by
  subst hn
  unfold u8E
  rw [u8Xs_append]
theorem u8Xs_flat (l:List UInt8):(u8Rows l).flatten.map AT.val=u8Xs l:=(u8Xs_rows l).symm
theorem esc_len:∀ (l:List UInt8),(escG l).length<=2*l.length
  | []=>Nat.le_refl _
  | c::l=>by
    have:=esc_len l
    unfold escG
    split<;>simp only [List.length_cons]<;>omega
theorem size_le {d:GDec} (h:decSane d=true) (h0:d.dg.size≠0):(sizeG d).length<=43:=by
  rw [size_len]
  obtain ⟨ng,dg,ex⟩:=d
  obtain ⟨l,rfl⟩:=mkB_ex dg
  have hsz:=mkB_size l
  dsimp only at h0 ⊢
  rw [hsz] at h0 ⊢
  rw [decSane_mk _ _ _ h0] at h
  simp only [Bool.and_eq_true,decide_eq_true_eq] at h
  have:=h.1.1.1.1.1.1.1
  omega
theorem shrA (i:Int):bShr .i64 i 24=i / 16777216:=by
  show i.fdiv 16777216=_
  rw [Int.fdiv_eq_ediv_of_nonneg _ (by decide)]
theorem shrB (i:Int):bShr .i64 i 16=i / 65536:=by
  show i.fdiv 65536=_
  rw [Int.fdiv_eq_ediv_of_nonneg _ (by decide)]
set_option maxRecDepth 100000 in
set_option maxHeartbeats 4000000 in
theorem put_c (σ:Snap) (m:Int) (hm:σ.cell ⟨0,0,none⟩=some (.int .i64 m)) (p:GPart) (hp:Rt p) (hps:p.s.size<=1000000) (o:List UInt8) (ho:o.length<=100000000) (oo:Option Addr) (oc:Nat) (hoc:o.length<=oc) :
    FnS Tryd.prog 26 [.a (.v (.slice oo o.length oc)),.agg (paCells p)] σ [u8E oo oc o] (fun v _ A'=>∃ oo' oc',v=.slice oo' (o++putG p).length oc'/\(o++putG p).length<=oc'/\A'=[u8E oo' oc' (o++putG p)]):=by
  obtain ⟨kd,b,n,s,i⟩:=p
  dsimp only at hps
  have hnum:kd=2->decSane n=true:=fun h=>by
    have hr:=(right_iff _).2 hp
    subst h
    have:(decide ((⟨0,b,dec0,s,i⟩:GPart)=part0)&&decSane n)=true:=hr
    rw [Bool.and_eq_true] at this
    exact this.2
  have hfin:∀ (l:List UInt8) (e:putG ⟨kd,b,n,s,i⟩=l) {k:Nat} (hk:k=l.length) (oo':Option Addr) (oc':Nat),o.length+k<=oc'->∃ ao ac,Value.slice oo' (o.length+k) oc'=.slice ao (o++putG ⟨kd,b,n,s,i⟩).length ac/\(o++putG ⟨kd,b,n,s,i⟩).length<=ac/\[(⟨oo',o.length+k,oc',5,1,u8Xs o++u8Xs l⟩:AE)]=[u8E ao ac (o++putG ⟨kd,b,n,s,i⟩)]:=by
    intro l e k hk oo' oc' h
    have hl:o.length+k=(o++l).length:=by rw [List.length_append,hk]
    rw [e]
    rw [hl] at h ⊢
    exact ⟨oo',oc',rfl,h,congrArg (fun x=>[x]) (u8E_app rfl)⟩
  refine enter_f Tryd.func26 rfl rfl ⟨trivial,paCells_lt 0 _,trivial⟩ fun w=>?_
  (repeat (first | refine cj_seq ?_ | refine cjr TT rfl ?_ | refine oj_then ?_ | refine cj_block ?_))
  refine cj_if rfl (fun h=>?_) (fun h0=>?_)
  · have h:=of_decide_eq_true (show decide (kd=0)=true from h)
    (repeat (first | refine cj_seq ?_ | refine cjr TT rfl ?_))
    refine oj_append_lit TT 0 rfl rfl rfl rfl rfl rfl rfl rfl rfl rfl rfl rfl rfl rfl rfl rfl rfl rfl (by (repeat' (first | exact trivial | refine AllLt.of ?_ | constructor))) rfl (by omega) (by show (o.length+1)*1<=_;omega) fun oo' oc' hoc'=>oj_run TT rfl ?_
    (repeat (first | refine oj_then ?_ | refine cj_ret ?_ | refine nj_then_ret ?_ | refine nj_block_ret ?_))
    refine nj_fret TT rfl fun β w' _ _=>?_
    have e:putG ⟨kd,b,n,s,i⟩=[16]:=by unfold putG;dsimp only;rw [if_pos h]
    exact hfin _ e rfl oo' oc' hoc'
  have h0:=of_decide_eq_false (show decide (kd=0)=false from h0)
  (repeat (first | refine cj_seq ?_ | refine cjr TT rfl ?_))
  refine oj_split 16 rfl (fun h1=>?_) (fun h1=>?_)
  · have h1:=of_decide_eq_true (show decide (kd=1)=true from h1)
    refine oj_run TT rfl ?_
    (repeat refine oj_then ?_)
    refine cj_if rfl (fun hb=>?_) (fun hb=>?_)
    · have hb:b=true:=hb
      (repeat (first | refine cj_seq ?_ | refine cjr TT rfl ?_))
      refine oj_append_lit TT 0 rfl rfl rfl rfl rfl rfl rfl rfl rfl rfl rfl rfl rfl rfl rfl rfl rfl rfl (by (repeat' (first | exact trivial | refine AllLt.of ?_ | constructor))) rfl (by omega) (by show (o.length+1)*1<=_;omega) fun oo' oc' hoc'=>oj_run TT rfl ?_
      (repeat (first | refine oj_then ?_ | refine cj_ret ?_ | refine nj_then_ret ?_ | refine nj_block_ret ?_))
      refine nj_fret TT rfl fun β w' _ _=>?_
      have e:putG ⟨kd,b,n,s,i⟩=[33]:=by unfold putG;dsimp only;rw [if_neg h0,if_pos h1,hb];rfl
      exact hfin _ e rfl oo' oc' hoc'
    · have hb:b=false:=hb
      (repeat (first | refine cj_seq ?_ | refine cjr TT rfl ?_ | refine oj_then ?_))
      refine cj_if rfl (fun _=>?_) (fun h=>absurd h1 (of_decide_eq_false (show decide (kd=1)=false from h)))
      (repeat (first | refine cj_seq ?_ | refine cjr TT rfl ?_))
      refine oj_append_lit TT 0 rfl rfl rfl rfl rfl rfl rfl rfl rfl rfl rfl rfl rfl rfl rfl rfl rfl rfl (by (repeat' (first | exact trivial | refine AllLt.of ?_ | constructor))) rfl (by omega) (by show (o.length+1)*1<=_;omega) fun oo' oc' hoc'=>oj_run TT rfl ?_
      (repeat (first | refine oj_then ?_ | refine cj_ret ?_ | refine nj_then_ret ?_ | refine nj_block_ret ?_))
      refine nj_fret TT rfl fun β w' _ _=>?_
      have e:putG ⟨kd,b,n,s,i⟩=[32]:=by unfold putG;dsimp only;rw [if_neg h0,if_pos h1,hb];rfl
      exact hfin _ e rfl oo' oc' hoc'
  have h1:=of_decide_eq_false (show decide (kd=1)=false from h1)
  refine oj_run TT rfl ?_
  (repeat (first | refine cj_seq ?_ | refine cjr TT rfl ?_ | refine oj_then ?_ | refine cj_if_f rfl ?_))
  refine cj_if rfl (fun h=>absurd (of_decide_eq_true (show decide (kd=1)=true from h)) h1) (fun _=>?_)
  (repeat (first | refine cj_seq ?_ | refine cjr TT rfl ?_))
  refine oj_split 34 rfl (fun h2=>?_) (fun h2=>?_)
  · have h2:=of_decide_eq_true (show decide (kd=2)=true from h2)
    have hs:=hnum h2
    refine oj_run TT rfl ?_
    (repeat refine oj_then ?_)
    refine cj_if rfl (fun hz=>?_) (fun hz=>?_)
    · have hz:n.dg.size=0:=by have:=of_decide_eq_true hz;rw [this];rfl
      (repeat (first | refine cj_seq ?_ | refine cjr TT rfl ?_))
      refine oj_append_lit TT 0 rfl rfl rfl rfl rfl rfl rfl rfl rfl rfl rfl rfl rfl rfl rfl rfl rfl rfl (by (repeat' (first | exact trivial | refine AllLt.of ?_ | constructor))) rfl (by omega) (by show (o.length+1)*1<=_;omega) fun oo' oc' hoc'=>oj_run TT rfl ?_
      (repeat (first | refine oj_then ?_ | refine cj_ret ?_ | refine nj_then_ret ?_ | refine nj_block_ret ?_))
      refine nj_fret TT rfl fun β w' _ _=>?_
      have e:putG ⟨kd,b,n,s,i⟩=[49]:=by unfold putG;dsimp only;rw [if_neg h0,if_neg h1,if_pos h2,if_pos hz]
      exact hfin _ e rfl oo' oc' hoc'
    have hz:n.dg.size≠0:=fun h=>by
      refine absurd ?_ (of_decide_eq_false hz)
      obtain ⟨l,hl⟩:=mkB_ex n.dg
      show n.dg=_
      rw [hl,mkB_size] at h
      rw [hl,List.eq_nil_of_length_eq_zero h]
      rfl
    have hsl:=size_le hs hz
    (repeat (first | refine cj_seq ?_ | refine cjr TT rfl ?_))
    refine oj_split 47 rfl (fun _=>?_) (fun h=>absurd h2 (of_decide_eq_false (show decide (kd=2)=false from h)))
    refine oj_run TT rfl ?_
    (repeat refine oj_then ?_)
    refine cj_if rfl (fun hn=>?_) (fun hn=>?_)
    · have hn:n.neg=true:=hn
      (repeat refine cj_seq ?_)
      refine cj_drawB 9 [0,3,8] [(0,.loc 49,paCells ⟨kd,b,n,s,i⟩)] mixed (by kernel_rfl) rfl (subH_of (by (repeat first | exact trivial | refine ⟨rfl,?_⟩))) ?_
      refine gb_val (i:=0) TT rfl (by kernel_rfl) (by kernel_rfl) rfl rfl rfl rfl rfl ?_
      refine gb_val (i:=3) TT rfl (by kernel_rfl) (by kernel_rfl) rfl rfl rfl rfl rfl ?_
      refine gb_val (i:=4) TT rfl (by kernel_rfl) (by kernel_rfl) rfl rfl rfl rfl rfl ?_
      refine gb_one (i:=1) (by kernel_rfl) ?_
      refine gb_new TT rfl rfl rfl rfl rfl ?_
      refine gb_one (i:=2) (by kernel_rfl) ?_
      refine gb_append_lit TT 0 rfl rfl rfl rfl rfl rfl rfl rfl rfl rfl rfl rfl rfl rfl rfl rfl rfl rfl (by (repeat' (first | exact trivial | refine AllLt.of ?_ | constructor))) rfl (by omega) (by show (o.length+1)*1<=_;omega) fun o1 c1 hc1=>?_
      refine gb_order [(5,.keep),(6,.keep),(7,.sink),(8,.pure)] rfl rfl (by kernel_rfl) ?_
      refine oj_run TT rfl ?_
      refine oj_callS rfl rfl rfl rfl rfl Tryd.call36 ⟨decCells_lt 0 n,trivial⟩ (size_c σ n hs hz) fun v s1 hle1 ⟨ao,ac,hv,HS⟩=>⟨.a (.v (.slice ao (sizeG n).length ac)),trivial,hv.symm,?_⟩
      refine oj_run TT rfl ?_
      refine oj_callS rfl rfl rfl rfl rfl Tryd.call35 ⟨trivial,trivial⟩ (turned_c s1 (sizeG n) (by omega) ao ac HS) fun v s2 hle2 ⟨bo,bc,hv,HT⟩=>⟨.a (.v (.slice bo (sizeG n).length bc)),trivial,hv.symm,?_⟩
      refine oj_run TT rfl ?_
      refine oj_append_sl TT 0 rfl rfl rfl rfl rfl rfl rfl HT rfl rfl rfl rfl rfl rfl rfl rfl rfl (fun r hr=>(u8Rows_all _ r hr).2.2) (by omega) (by show (o.length+1+(sizeG n).length)*1<=_;omega) fun o2 c2 hc2=>oj_run TT rfl ?_
      (repeat (first | refine oj_then ?_ | refine cj_ret ?_ | refine nj_then_ret ?_ | refine nj_block_ret ?_))
      refine nj_fret TT rfl fun β w' _ _=>?_
      have e:putG ⟨kd,b,n,s,i⟩=48::turnG (sizeG n):=by unfold putG;dsimp only;rw [if_neg h0,if_neg h1,if_pos h2,if_neg hz,if_pos hn]
      have hx:(u8Xs o++[.int .u8 48])++(u8Rows (turnG (sizeG n))).flatten.map AT.val=u8Xs o++u8Xs (48::turnG (sizeG n)):=by rw [u8Xs_flat,List.append_assoc];rfl
      have hf:=hfin _ e (k:=1+(sizeG n).length) (by rw [List.length_cons,turnG_len];omega) o2 c2 (by omega)
      rw [<-hx,<-Nat.add_assoc] at hf
      exact hf
    · have hn:n.neg=false:=hn
      (repeat (first | refine cj_seq ?_ | refine cjr TT rfl ?_ | refine oj_then ?_))
      refine cj_if rfl (fun _=>?_) (fun h=>absurd h2 (of_decide_eq_false (show decide (kd=2)=false from h)))
      (repeat refine cj_seq ?_)
      refine cj_drawB 8 [0,3,7] [(0,.loc 49,paCells ⟨kd,b,n,s,i⟩)] mixed (by kernel_rfl) rfl (subH_of (by (repeat first | exact trivial | refine ⟨rfl,?_⟩))) ?_
      refine gb_val (i:=0) TT rfl (by kernel_rfl) (by kernel_rfl) rfl rfl rfl rfl rfl ?_
      refine gb_val (i:=3) TT rfl (by kernel_rfl) (by kernel_rfl) rfl rfl rfl rfl rfl ?_
      refine gb_val (i:=4) TT rfl (by kernel_rfl) (by kernel_rfl) rfl rfl rfl rfl rfl ?_
      refine gb_one (i:=1) (by kernel_rfl) ?_
      refine gb_new TT rfl rfl rfl rfl rfl ?_
      refine gb_one (i:=2) (by kernel_rfl) ?_
      refine gb_append_lit TT 0 rfl rfl rfl rfl rfl rfl rfl rfl rfl rfl rfl rfl rfl rfl rfl rfl rfl rfl (by (repeat' (first | exact trivial | refine AllLt.of ?_ | constructor))) rfl (by omega) (by show (o.length+1)*1<=_;omega) fun o1 c1 hc1=>?_
      refine gb_order [(5,.keep),(6,.sink),(7,.pure)] rfl rfl (by kernel_rfl) ?_
      refine oj_run TT rfl ?_
      refine oj_callS rfl rfl rfl rfl rfl Tryd.call36 ⟨decCells_lt 0 n,trivial⟩ (size_c σ n hs hz) fun v s1 hle1 ⟨ao,ac,hv,HS⟩=>⟨.a (.v (.slice ao (sizeG n).length ac)),trivial,hv.symm,?_⟩
      refine oj_run TT rfl ?_
      refine oj_append_sl TT 0 rfl rfl rfl rfl rfl rfl rfl HS rfl rfl rfl rfl rfl rfl rfl rfl rfl (fun r hr=>(u8Rows_all _ r hr).2.2) (by omega) (by show (o.length+1+(sizeG n).length)*1<=_;omega) fun o2 c2 hc2=>oj_run TT rfl ?_
      (repeat (first | refine oj_then ?_ | refine cj_ret ?_ | refine nj_then_ret ?_ | refine nj_block_ret ?_))
      refine nj_fret TT rfl fun β w' _ _=>?_
      have e:putG ⟨kd,b,n,s,i⟩=50::sizeG n:=by unfold putG;dsimp only;rw [if_neg h0,if_neg h1,if_pos h2,if_neg hz,if_neg (by rw [hn];decide)]
      have hx:(u8Xs o++[.int .u8 50])++(u8Rows (sizeG n)).flatten.map AT.val=u8Xs o++u8Xs (50::sizeG n):=by rw [u8Xs_flat,List.append_assoc];rfl
      have hf:=hfin _ e (k:=1+(sizeG n).length) (by rw [List.length_cons];omega) o2 c2 (by omega)
      rw [<-hx,<-Nat.add_assoc] at hf
      exact hf
  have h2:=of_decide_eq_false (show decide (kd=2)=false from h2)
  refine oj_run TT rfl ?_
  (repeat (first | refine cj_seq ?_ | refine cjr TT rfl ?_ | refine oj_then ?_ | refine cj_if_f rfl ?_))
  refine oj_split 47 rfl (fun h=>absurd (of_decide_eq_true (show decide (kd=2)=true from h)) h2) (fun _=>?_)
  refine oj_run TT rfl ?_
  (repeat (first | refine cj_seq ?_ | refine cjr TT rfl ?_ | refine oj_then ?_ | refine cj_if_f rfl ?_))
  refine cj_if rfl (fun h=>absurd (of_decide_eq_true (show decide (kd=2)=true from h)) h2) (fun _=>?_)
  (repeat (first | refine cj_seq ?_ | refine cjr TT rfl ?_ | refine oj_then ?_))
  refine cj_if rfl (fun h3=>?_) (fun h3=>?_)
  · have h3:=of_decide_eq_true (show decide (kd=3)=true from h3)
    (repeat (first | refine cj_seq ?_ | refine cjr TT rfl ?_))
    have hel:=esc_len s.data.toList
    have hsl:s.data.toList.length=s.size:=Array.length_toList
    rw [hsl] at hel
    refine oj_append_lit TT 0 rfl rfl rfl rfl rfl rfl rfl rfl rfl rfl rfl rfl rfl rfl rfl rfl rfl rfl (by (repeat' (first | exact trivial | refine AllLt.of ?_ | constructor))) rfl (by omega) (by show (o.length+1)*1<=_;omega) fun o1 c1 hc1=>oj_run TT rfl ?_
    (repeat (first | refine cj_seq ?_ | refine cjr TT rfl ?_ | refine oj_then ?_))
    refine oj_callP rfl rfl rfl rfl rfl Tryd.call37 (by (repeat' (first | exact trivial | constructor))) (ReplaceAll_c σ m hm s hps) fun v hv=>⟨.a (.v (.string (mkB (escG s.data.toList)))),trivial,hv.symm,?_⟩
    have e:putG ⟨kd,b,n,s,i⟩=64::(escG s.data.toList++[0,0]):=by unfold putG;dsimp only;rw [if_neg h0,if_neg h1,if_neg h2,if_pos h3]
    generalize escG s.data.toList=E at *
    have hE:=mkB_size E
    refine oj_run TT rfl ?_
    refine oj_append_str TT 0 rfl rfl rfl rfl rfl rfl rfl rfl rfl rfl rfl rfl rfl rfl rfl rfl rfl (by rw [hE];omega) (by rw [hE];show (o.length+1+E.length)*1<=_;omega) fun o2 c2 hc2=>?_
    rw [hE] at hc2 ⊢
    refine oj_run TT rfl ?_
    (repeat (first | refine cj_seq ?_ | refine cjr TT rfl ?_ | refine oj_then ?_))
    refine oj_append_lit TT 0 rfl rfl rfl rfl rfl rfl rfl rfl rfl rfl rfl rfl rfl rfl rfl rfl rfl rfl (by (repeat' (first | exact trivial | refine AllLt.of ?_ | constructor))) rfl (by omega) (by show (o.length+1+E.length+2)*1<=_;omega) fun o3 c3 hc3=>oj_run TT rfl ?_
    (repeat (first | refine oj_then ?_ | refine cj_ret ?_ | refine nj_then_ret ?_ | refine nj_block_ret ?_))
    refine nj_fret TT rfl fun β w' _ _=>?_
    have hx:(u8Xs o++[.int .u8 64])++u8Xs (mkB E).data.toList++[.int .u8 0,.int .u8 0]=u8Xs o++u8Xs (64::(E++[0,0])):=by
      rw [mkB_list,show (64:UInt8)::(E++[0,0])=[64]++E++[0,0] by simp,u8Xs_append,u8Xs_append,List.append_assoc,List.append_assoc,List.append_assoc]
      rfl
    have hf:=hfin _ e (k:=1+E.length+2) (by rw [List.length_cons,List.length_append];show _=E.length+2+1;omega) o3 c3 (by omega)
    rw [<-hx,<-Nat.add_assoc,<-Nat.add_assoc] at hf
    exact hf
  have h3:=of_decide_eq_false (show decide (kd=3)=false from h3)
  (repeat (first | refine cj_seq ?_ | refine cjr TT rfl ?_ | refine cj_skip ?_ | refine nj_then ?_ | refine nj_block ?_ | (refine oj_conv TT _ rfl rfl rfl rfl rfl rfl rfl rfl rfl ?_;refine oj_run TT rfl ?_) | (refine oj_bshr rfl rfl rfl rfl rfl rfl (by decide) ?_;refine oj_run TT rfl ?_)))
  have e1:IntKind.u8.wrap (bShr .i64 i 24)=((byteOf (i / 16777216)).toNat:Int):=by rw [wrap8,shrA]
  have e2:IntKind.u8.wrap (bShr .i64 i 16)=((byteOf (i / 65536)).toNat:Int):=by rw [wrap8,shrB]
  have e3:IntKind.u8.wrap (bShr .i64 i 8)=((byteOf (i / 256)).toNat:Int):=by rw [wrap8,shr8]
  have e4:IntKind.u8.wrap i=((byteOf i).toNat:Int):=wrap8 i
  dsimp only
  rw [e1,e2,e3,e4]
  refine oj_append_lit TT 0 rfl rfl rfl rfl rfl rfl rfl rfl rfl rfl rfl rfl rfl rfl rfl rfl rfl rfl (by (repeat' (first | exact trivial | refine AllLt.of ?_ | constructor))) rfl (by omega) (by show (o.length+5)*1<=_;omega) fun o1 c1 hc1=>oj_run TT rfl ?_
  (repeat (first | refine oj_then ?_ | refine cj_ret ?_))
  refine nj_fret TT rfl fun β w' _ _=>?_
  have e:putG ⟨kd,b,n,s,i⟩=[80,byteOf (i / 16777216),byteOf (i / 65536),byteOf (i / 256),byteOf i]:=by unfold putG;dsimp only;rw [if_neg h0,if_neg h1,if_neg h2,if_neg h3]
  exact hfin _ e rfl o1 c1 hc1
end Go.Sy
namespace Go.Sy
open Go.Proofs
def paE (t:Nat) (ao:Option Addr) (cap:Nat) (l:List GPart):AE:=⟨ao,l.length,cap,t,7,paXs l⟩
theorem pa_sealed {t:Nat} {σ:Snap} {ao:Option Addr} {cap:Nat} {l:List GPart} (hS:ArrSealed σ (paE t ao cap l)) (hc:l.length<=cap):SlAt σ ao l.length cap 7 (paRows l) :=
  hS.sl (E:=paE t ao cap l) rfl (fun r hr=>⟨(paRows_all l r hr).1,(paRows_all l r hr).2.1⟩) (by simp [paRows]) rfl hc
structure PaS where
  k:Nat
  oo:Option Addr
  oc:Nat
set_option maxRecDepth 100000 in
set_option maxHeartbeats 1000000 in
theorem ours_c (σ:Snap) (xs:List GPart) (hl:xs.length<=1000000) (ao:Option Addr) (cap:Nat) (H:SlAt σ ao xs.length cap 7 (paRows xs)) :
    PureS Tryd.prog 13 [.a (.v (.slice ao xs.length cap))] σ (fun v σ'=>∃ bo bc,v=.slice bo xs.length bc/\SlAt σ' bo xs.length bc 7 (paRows xs)):=by
  refine enter_s Tryd.func13 rfl rfl (by (repeat' (first | exact trivial | constructor))) fun w=>?_
  (repeat (first | refine cj_seq ?_ | refine cjr TT rfl ?_ | refine oj_then ?_ | refine cj_block ?_))
  refine cj_nilarr 49 7 ?_
  refine cj_loop (fun (_:PaS)=>σ) (fun t=>[(0,.a (.v (.slice ao xs.length cap))),(3,.a (.v (.slice t.oo (xs.take t.k).length t.oc))),(4,.a (.v (.int .i64 (t.k:Nat))))]) (fun _=>[]) (fun t=>[paE 49 t.oo t.oc (xs.take t.k)]) 0
    (fun t=>t.k<=xs.length/\t.k<=t.oc) (fun t=>xs.length - t.k) ⟨0,none,0⟩ ⟨Nat.zero_le _,Nat.le_refl _⟩ rfl (by (repeat first | exact trivial | refine ⟨rfl,?_⟩)) (by (repeat first | exact trivial | refine ⟨rfl,?_⟩)) rfl (by (repeat' (first | exact trivial | constructor))) (by (repeat' exact trivial)) fun ⟨k,bo,bc⟩ ⟨hk,hbc⟩=>?_
  dsimp only at hk hbc ⊢
  (repeat (first | refine cj_seq ?_ | refine cjr TT rfl ?_ | refine oj_then ?_))
  refine cj_if rfl (fun h=>?_) (fun h=>?_)
  rotate_left
  · have hk0:k=xs.length:=by have:=of_decide_eq_false h;omega
    subst hk0
    rw [List.take_length]
    (repeat (first | refine cj_seq ?_ | refine cjr TT rfl ?_ | refine oj_then ?_ | refine cj_exit ?_ | refine cj_ret ?_ | refine nj_then ?_ | refine nj_then_exit ?_ | refine nj_block_out ?_))
    refine nj_seal 0 rfl rfl fun s2 hle2 hS=>?_
    refine nj_ret TT rfl fun β w' _ _=>?_
    exact ⟨bo,bc,rfl,pa_sealed hS hbc⟩
  have hkl:k<xs.length:=by have:=of_decide_eq_true h;omega
  have hra:=paRows_get (List.getElem?_eq_getElem hkl)
  have htk:xs.take (k+1)=xs.take k++[xs[k]]:=List.take_succ_eq_append_getElem hkl
  have hlk:(xs.take k).length=k:=by rw [List.length_take];omega
  generalize xs[k]=x at *
  have hlk1:(xs.take (k+1)).length=k+1:=by rw [List.length_take];omega
  have hE0:paE 49 bo bc (xs.take k)=⟨bo,k,bc,49,7,paXs (xs.take k)⟩:=by unfold paE;rw [hlk]
  rw [hlk,hE0]
  (repeat (first | refine cj_seq ?_ | refine cj_skip ?_ | refine cj_block ?_ | refine nj_then ?_))
  refine cj_draw [(0,.pure),(1,.pure),(2,.pure),(3,.pure),(4,.pure),(5,.quiet),(6,.pure),(7,.pure),(8,.pure),(9,.pure),(10,.quiet),(11,.pure),(12,.pure),(13,.pure),(14,.pure),(15,.quiet),(16,.pure),(17,.pure),(18,.pure),(19,.pure),(20,.quiet),(21,.pure),(22,.pure),(23,.pure),(24,.pure),(25,.quiet),(26,.pure),(27,.keep),(28,.sink),(29,.pure)] mixed (by kernel_rfl) (oj_run TT rfl ?_)
  refine oj_idx TT rfl rfl rfl rfl rfl rfl rfl rfl rfl H (by omega) hra (oj_run TT rfl ?_)
  refine oj_idx TT rfl rfl rfl rfl rfl rfl rfl rfl rfl H (by omega) hra (oj_run TT rfl ?_)
  refine oj_idx TT rfl rfl rfl rfl rfl rfl rfl rfl rfl H (by omega) hra (oj_run TT rfl ?_)
  refine oj_idx TT rfl rfl rfl rfl rfl rfl rfl rfl rfl H (by omega) hra (oj_run TT rfl ?_)
  refine oj_idx TT rfl rfl rfl rfl rfl rfl rfl rfl rfl H (by omega) hra (oj_run TT rfl ?_)
  refine oj_append_lit TT 0 rfl rfl rfl rfl rfl rfl rfl rfl rfl rfl rfl rfl rfl rfl rfl rfl rfl rfl (by (repeat' (first | exact trivial | refine AllLt.of ?_ | constructor))) rfl (by omega) (by show (k+1)*72<=_;omega) fun ao' cap' hcap'=>oj_run TT rfl ?_
  (repeat (first | refine cjr TT rfl ?_ | refine oj_nil ?_ | refine nj_then ?_ | refine nj_block ?_ | (refine oj_add rfl rfl rfl rfl rfl rfl (by omega) ?_;refine oj_run TT rfl ?_)))
  refine nj_again (⟨k+1,ao',cap'⟩:PaS) ⟨hkl,hcap'⟩ (by dsimp only;omega) rfl ?_ (by (repeat first | exact trivial | refine ⟨rfl,?_⟩)) ?_ (by (repeat' (first | exact trivial | constructor))) (by (repeat' exact trivial))
  · dsimp only
    rw [hlk1]
    (repeat first | exact trivial | refine ⟨rfl,?_⟩)
  · show [_]=[_]
    dsimp only
    unfold paE
    rw [hlk1,htk,paXs_append]
    rfl
def fewG (l:List GPart):Bool:=decide (l.length<=40)&&l.all fun p=>decide (p.s.size<=300)&&decide (p.n.dg.size<=200)
theorem few_iff {l:List GPart}:fewG l=true↔l.length<=40/\∀ p∈l,p.s.size<=300/\p.n.dg.size<=200:=by simp [fewG]
set_option maxRecDepth 100000 in
set_option maxHeartbeats 1000000 in
theorem Few_c (σ:Snap) (l:List GPart) (hl:l.length<=140737488355328) (ao:Option Addr) (cap:Nat) (H:SlAt σ ao l.length cap 7 (paRows l)) :
    PlainS Tryd.prog 11 [.a (.v (.slice ao l.length cap))] σ (fun v=>v=.bool (fewG l)):=by
  refine enter_p Tryd.func11 rfl rfl (by (repeat' (first | exact trivial | constructor))) fun w=>?_
  (repeat (first | refine cj_seq ?_ | refine cjr TT rfl ?_ | refine oj_then ?_))
  refine cj_if rfl (fun h=>?_) (fun h=>?_)
  · have h:=of_decide_eq_true h
    (repeat (first | refine cj_seq ?_ | refine cjr TT rfl ?_ | refine oj_then ?_ | refine cj_ret ?_ | refine nj_then_ret ?_))
    refine nj_ret TT rfl fun β w' _ _=>?_
    show Value.bool false=.bool (decide (l.length<=40)&&_)
    rw [decide_eq_false (by omega),Bool.false_and]
  have h40:l.length<=40:=by have:=of_decide_eq_false h;omega
  (repeat (first | refine cj_seq ?_ | refine cjr TT rfl ?_ | refine oj_then ?_ | refine cj_skip ?_ | refine cj_block ?_ | refine nj_then ?_))
  refine cj_loop (fun (_:Nat)=>σ) (fun k=>[(0,.a (.v (.slice ao l.length cap))),(3,.a (.v (.int .i64 k)))]) (fun _=>[]) (fun _=>[]) 0 (fun k=>k<=l.length/\∀ p∈l.take k,p.s.size<=300/\p.n.dg.size<=200) (fun k=>l.length - k) 0 ⟨Nat.zero_le _,fun p h=>(by cases h)⟩ rfl (by (repeat first | exact trivial | refine ⟨rfl,?_⟩)) (by (repeat first | exact trivial | refine ⟨rfl,?_⟩)) rfl (by (repeat' (first | exact trivial | constructor))) (by (repeat' exact trivial)) fun k ⟨hk,hw⟩=>?_
  (repeat (first | refine cj_seq ?_ | refine cjr TT rfl ?_ | refine oj_then ?_))
  refine cj_if rfl (fun h=>?_) (fun h=>?_)
  rotate_left
  · have hk0:k=l.length:=by have:=of_decide_eq_false h;omega
    rw [hk0,List.take_length] at hw
    (repeat (first | refine cj_seq ?_ | refine cjr TT rfl ?_ | refine oj_then ?_ | refine cj_exit ?_ | refine cj_ret ?_ | refine nj_then ?_ | refine nj_then_exit ?_ | refine nj_block_out ?_))
    refine nj_ret TT rfl fun β w' _ _=>?_
    rw [few_iff.2 ⟨h40,hw⟩]
    rfl
  have hkl:k<l.length:=by have:=of_decide_eq_true h;omega
  have hrow:=paRows_get (List.getElem?_eq_getElem hkl)
  have hmem:=List.getElem_mem hkl
  have htk:l.take (k+1)=l.take k++[l[k]]:=List.take_succ_eq_append_getElem hkl
  generalize l[k]=p at *
  have hbad:¬(p.s.size<=300/\p.n.dg.size<=200)->fewG l=false:=fun hn=>by
    rw [Bool.eq_false_iff]
    intro h
    exact hn ((few_iff.1 h).2 p hmem)
  (repeat (first | refine cj_seq ?_ | refine cjr TT rfl ?_ | refine cj_skip ?_ | refine cj_block ?_ | refine nj_then ?_))
  refine oj_idx TT rfl rfl rfl rfl rfl rfl rfl rfl rfl H (by omega) hrow (oj_run TT rfl ?_)
  refine oj_split 20 rfl (fun h1=>?_) (fun h1=>?_)
  · have h1:=of_decide_eq_true (show decide ((300:Int)<p.s.size)=true from h1)
    refine oj_run TT rfl ?_
    (repeat (first | refine cj_seq ?_ | refine cjr TT rfl ?_ | refine oj_then ?_ | refine cj_if_t rfl ?_ | refine cj_ret ?_ | refine nj_then_ret ?_ | refine nj_block_ret ?_))
    refine nj_ret TT rfl fun β w' _ _=>?_
    rw [hbad (by omega)]
    rfl
  have h1:=of_decide_eq_false (show decide ((300:Int)<p.s.size)=false from h1)
  refine oj_run TT rfl ?_
  refine oj_idx TT rfl rfl rfl rfl rfl rfl rfl rfl rfl H (by omega) hrow (oj_run TT rfl ?_)
  (repeat refine oj_then ?_)
  refine cj_if rfl (fun h2=>?_) (fun h2=>?_)
  · have h2:=of_decide_eq_true (show decide ((200:Int)<p.n.dg.size)=true from h2)
    (repeat (first | refine cj_seq ?_ | refine cjr TT rfl ?_ | refine oj_then ?_ | refine cj_ret ?_ | refine nj_then_ret ?_ | refine nj_block_ret ?_))
    refine nj_ret TT rfl fun β w' _ _=>?_
    rw [hbad (by omega)]
    rfl
  have h2:=of_decide_eq_false (show decide ((200:Int)<p.n.dg.size)=false from h2)
  (repeat (first | refine cjr TT rfl ?_ | refine oj_nil ?_ | refine cj_skip ?_ | refine nj_then ?_ | refine nj_block ?_ | (refine oj_add rfl rfl rfl rfl rfl rfl (by omega) ?_;refine oj_run TT rfl ?_)))
  refine nj_again (k+1) ⟨hkl,fun x hx=>?_⟩ (by omega) rfl (by (repeat first | exact trivial | refine ⟨rfl,?_⟩)) (by (repeat first | exact trivial | refine ⟨rfl,?_⟩)) rfl (by (repeat' (first | exact trivial | constructor))) (by (repeat' exact trivial))
  rw [htk] at hx
  rcases List.mem_append.1 hx with hx | hx
  · exact hw x hx
  · rw [List.mem_singleton] at hx
    subst hx
    omega
theorem partT52:PartT 52:=⟨by kernel_rfl,by kernel_rfl,by kernel_rfl,by kernel_rfl⟩
set_option maxRecDepth 100000 in
set_option maxHeartbeats 1000000 in
theorem Same_c (σ:Snap) (a b:List GPart) (hl:a.length<=140737488355328) (ao:Option Addr) (ac:Nat) (HA:SlAt σ ao a.length ac 7 (paRows a)) (bo:Option Addr) (bc:Nat) (HB:SlAt σ bo b.length bc 7 (paRows b)) :
    PlainS Tryd.prog 14 [.a (.v (.slice ao a.length ac)),.a (.v (.slice bo b.length bc))] σ (fun v=>v=.bool (decide (a=b))):=by
  refine enter_p Tryd.func14 rfl rfl (by (repeat' (first | exact trivial | constructor))) fun w=>?_
  (repeat (first | refine cj_seq ?_ | refine cjr TT rfl ?_ | refine oj_then ?_))
  refine cj_if rfl (fun h=>?_) (fun h=>?_)
  · have h:(!decide ((a.length:Int)=b.length))=true:=h
    have hne:a≠b:=fun e=>by rw [e] at h;simp at h
    (repeat (first | refine cj_seq ?_ | refine cjr TT rfl ?_ | refine oj_then ?_ | refine cj_ret ?_ | refine nj_then_ret ?_))
    refine nj_ret TT rfl fun β w' _ _=>?_
    rw [decide_eq_false hne]
    rfl
  have hlen:a.length=b.length:=by
    have h:(!decide ((a.length:Int)=b.length))=false:=h
    simp at h
    omega
  (repeat (first | refine cj_seq ?_ | refine cjr TT rfl ?_ | refine oj_then ?_ | refine cj_skip ?_ | refine cj_block ?_ | refine nj_then ?_))
  refine cj_loop (fun (_:Nat)=>σ) (fun k=>[(0,.a (.v (.slice ao a.length ac))),(1,.a (.v (.slice bo b.length bc))),(5,.a (.v (.int .i64 k)))]) (fun _=>[]) (fun _=>[]) 0 (fun k=>k<=a.length/\a.take k=b.take k) (fun k=>a.length - k) 0 ⟨Nat.zero_le _,rfl⟩ rfl (by (repeat first | exact trivial | refine ⟨rfl,?_⟩)) (by (repeat first | exact trivial | refine ⟨rfl,?_⟩)) rfl (by (repeat' (first | exact trivial | constructor))) (by (repeat' exact trivial)) fun k ⟨hk,hw⟩=>?_
  (repeat (first | refine cj_seq ?_ | refine cjr TT rfl ?_ | refine oj_then ?_))
  refine cj_if rfl (fun h=>?_) (fun h=>?_)
  rotate_left
  · have hk0:k=a.length:=by have:=of_decide_eq_false h;omega
    rw [hk0,List.take_length,hlen,List.take_length] at hw
    (repeat (first | refine cj_seq ?_ | refine cjr TT rfl ?_ | refine oj_then ?_ | refine cj_exit ?_ | refine cj_ret ?_ | refine nj_then ?_ | refine nj_then_exit ?_ | refine nj_block_out ?_))
    refine nj_ret TT rfl fun β w' _ _=>?_
    rw [decide_eq_true hw]
    rfl
  have hkl:k<a.length:=by have:=of_decide_eq_true h;omega
  have hkb:k<b.length:=by omega
  have hra:=paRows_get (List.getElem?_eq_getElem hkl)
  have hrb:=paRows_get (List.getElem?_eq_getElem hkb)
  have hta:a.take (k+1)=a.take k++[a[k]]:=List.take_succ_eq_append_getElem hkl
  have htb:b.take (k+1)=b.take k++[b[k]]:=List.take_succ_eq_append_getElem hkb
  have hab:a=b->a[k]=b[k]:=fun e=>by subst e;rfl
  generalize a[k]=x at *
  generalize b[k]=y at *
  (repeat (first | refine cj_seq ?_ | refine cj_skip ?_ | refine cj_block ?_ | refine nj_then ?_))
  refine cj_draw [(0,.pure),(1,.pure),(2,.pure),(3,.quiet),(4,.pure),(5,.pure),(6,.pure),(7,.quiet),(8,.pure)] mixed (by kernel_rfl) (oj_run TT rfl ?_)
  refine oj_idx TT rfl rfl rfl rfl rfl rfl rfl rfl rfl HA (by omega) hra (oj_run TT rfl ?_)
  refine oj_idx TT rfl rfl rfl rfl rfl rfl rfl rfl rfl HB (by omega) hrb (oj_run TT rfl ?_)
  refine oj_nePart partT52 x y rfl rfl rfl rfl rfl rfl rfl (fun _=>rfl) (fun _=>rfl) (oj_run TT rfl ?_)
  (repeat refine oj_then ?_)
  refine cj_if rfl (fun h=>?_) (fun h=>?_)
  · have h:(!decide (x=y))=true:=h
    have hne:a≠b:=fun e=>by rw [hab e] at h;simp at h
    (repeat (first | refine cj_seq ?_ | refine cjr TT rfl ?_ | refine oj_then ?_ | refine cj_ret ?_ | refine nj_then_ret ?_ | refine nj_block_ret ?_))
    refine nj_ret TT rfl fun β w' _ _=>?_
    rw [decide_eq_false hne]
    rfl
  have hxy:x=y:=by
    have h:(!decide (x=y))=false:=h
    simpa using h
  (repeat (first | refine cjr TT rfl ?_ | refine oj_nil ?_ | refine cj_skip ?_ | refine nj_then ?_ | refine nj_block ?_ | (refine oj_add rfl rfl rfl rfl rfl rfl (by omega) ?_;refine oj_run TT rfl ?_)))
  refine nj_again (k+1) ⟨hkl,by rw [hta,htb,hw,hxy]⟩ (by omega) rfl (by (repeat first | exact trivial | refine ⟨rfl,?_⟩)) (by (repeat first | exact trivial | refine ⟨rfl,?_⟩)) rfl (by (repeat' (first | exact trivial | constructor))) (by (repeat' exact trivial))
end Go.Sy
namespace Go.Sy
open Go.Proofs
theorem put_len {p:GPart} (h:Rt p):(putG p).length<=2*p.s.size+60:=by
  cases h with
  | null=>show 1<=_;omega
  | bool b=>show 1<=_;omega
  | num n h =>
    unfold putG
    dsimp only
    rw [if_neg (by decide),if_neg (by decide),if_pos rfl]
    by_cases h0:n.dg.size=0
    · rw [if_pos h0];show 1<=_;omega
    have:=size_le h h0
    rw [if_neg h0]
    split<;>rw [List.length_cons]
    · rw [turnG_len];omega
    · omega
  | str s =>
    have:=esc_len s.data.toList
    have hs:s.data.toList.length=s.size:=Array.length_toList
    show (64::(escG s.data.toList++[0,0])).length<=_
    rw [List.length_cons,List.length_append]
    show (escG s.data.toList).length+2+1<=2*s.size+60
    omega
  | whole i h1 h2=>show 5<=_;omega
def enK (l:List GPart) (k:Nat):List UInt8:=(l.take k).flatMap putG
theorem enK_succ {l:List GPart} {k:Nat} {p:GPart} (h:l[k]?=some p):enK l (k+1)=enK l k++putG p:=by
  obtain ⟨hk,he⟩:=List.getElem?_eq_some_iff.1 h
  unfold enK
  rw [List.take_succ_eq_append_getElem hk,he,List.flatMap_append]
  simp
theorem putF_len {l:List GPart} (h:∀ p∈l,Rt p/\p.s.size<=1000000):(l.flatMap putG).length<=l.length*2000060:=by
  induction l with
  | nil=>exact Nat.le_refl _
  | cons p l ih =>
    have h1:=ih fun q hq=>h q (List.mem_cons_of_mem p hq)
    obtain ⟨h2,h3⟩:=h p List.mem_cons_self
    have h4:=put_len h2
    rw [List.flatMap_cons,List.length_append,List.length_cons,Nat.succ_mul]
    omega
structure EnS where
  k:Nat
  oo:Option Addr
  oc:Nat
set_option maxRecDepth 100000 in
set_option maxHeartbeats 4000000 in
theorem Encode_c (σ:Snap) (m:Int) (hm:σ.cell ⟨0,0,none⟩=some (.int .i64 m)) (l:List GPart) (hl:l.length<=140737488355328) (hb:∀ p∈l,p.n.dg.size<=mostLen/\p.s.size<=1000000) (lo:Option Addr) (lc:Nat) (H:SlAt σ lo l.length lc 7 (paRows l)) :
    PureS Tryd.prog 12 [.a (.v (.slice lo l.length lc))] σ (fun v σ'=>∃ bo bc,v=.tuple #[.slice bo (encG l).1.length bc,.int .i64 (encG l).2]/\SlAt σ' bo (encG l).1.length bc 1 (u8Rows (encG l).1)):=by
  refine enter_s Tryd.func12 rfl rfl (by (repeat' (first | exact trivial | constructor))) fun w=>?_
  (repeat (first | refine cj_seq ?_ | refine cjr TT rfl ?_ | refine oj_then ?_))
  refine cj_if rfl (fun h=>?_) (fun h=>?_)
  · have h:=of_decide_eq_true (show decide ((16:Int)<l.length)=true from h)
    have e:encG l=([],4):=by unfold encG;rw [if_pos (by omega)]
    rw [e]
    (repeat (first | refine cj_seq ?_ | refine cjr TT rfl ?_ | refine oj_then ?_ | refine cj_ret ?_ | refine nj_then_ret ?_))
    refine nj_ret TT rfl fun β w' _ _=>?_
    exact ⟨none,0,rfl,SlAt.nil _ none 0 1⟩
  have h16:l.length<=16:=by have:=of_decide_eq_false (show decide ((16:Int)<l.length)=false from h);omega
  (repeat (first | refine cj_seq ?_ | refine cjr TT rfl ?_ | refine oj_then ?_ | refine cj_skip ?_ | refine cj_block ?_ | refine nj_then ?_))
  refine cj_nilarr 5 1 ?_
  refine cj_loop2 (fun (s:Snap) (_:EnS)=>s) (fun _ t=>[(4,.a (.v (.slice t.oo (enK l t.k).length t.oc))),(10,.a (.v (.slice lo l.length lc))),(11,.a (.v (.int .i64 l.length))),(12,.a (.v (.int .i64 (t.k:Nat))))]) (fun _ _=>[]) (fun _ t=>[u8E t.oo t.oc (enK l t.k)]) 0
    (fun s t=>σ.le s/\t.k<=l.length/\(enK l t.k).length<=t.oc/\∀ p∈l.take t.k,Rt p) (fun _ t=>l.length - t.k) σ ⟨0,none,0⟩ ⟨Snap.le_refl _,Nat.zero_le _,Nat.le_refl _,fun _ h=>(by cases h)⟩ rfl (by (repeat first | exact trivial | refine ⟨rfl,?_⟩)) (by (repeat first | exact trivial | refine ⟨rfl,?_⟩)) rfl (by (repeat' (first | exact trivial | constructor))) (by (repeat' exact trivial)) fun s ⟨k,oo,oc⟩ ⟨hle,hk,hoc,hr⟩=>?_
  dsimp only at hk hoc hr ⊢
  have H:=H.mono hle
  have hm:=hle.cell hm
  (repeat (first | refine cj_seq ?_ | refine cjr TT rfl ?_ | refine oj_then ?_))
  refine cj_if rfl (fun h=>?_) (fun h=>?_)
  rotate_left
  · have hk0:k=l.length:=by have:=of_decide_eq_false h;omega
    rw [hk0,List.take_length] at hr
    have e:encG l=(enK l k,0):=by
      unfold encG enK
      rw [if_neg (by omega),if_pos (all_rt.2 hr),hk0,List.take_length]
    rw [e]
    (repeat (first | refine cj_seq ?_ | refine cjr TT rfl ?_ | refine oj_then ?_ | refine cj_exit ?_ | refine cj_ret ?_ | refine nj_then ?_ | refine nj_then_exit ?_ | refine nj_block_out ?_))
    refine nj_seal 0 rfl rfl fun s1 hle1 hS=>?_
    refine nj_ret TT rfl fun β w' _ _=>?_
    exact ⟨oo,oc,rfl,u8_sealed hS hoc⟩
  have hkl:k<l.length:=by have:=of_decide_eq_true h;omega
  have hx:=List.getElem?_eq_getElem hkl
  have hmem:=List.getElem_mem hkl
  have hrow:=paRows_get hx
  have hs1:=enK_succ hx
  have htk:l.take (k+1)=l.take k++[l[k]]:=List.take_succ_eq_append_getElem hkl
  have hbk:(enK l k).length<=16*2000060:=by
    have h1:=putF_len (l:=l.take k) fun p hp=>⟨hr p hp,(hb p (List.mem_of_mem_take hp)).2⟩
    have h2:(l.take k).length<=16:=by rw [List.length_take];omega
    exact Nat.le_trans h1 (Nat.mul_le_mul_right _ h2)
  obtain ⟨hb1,hb2⟩:=hb l[k] hmem
  generalize l[k]=p at *
  (repeat (first | refine cj_seq ?_ | refine cjr TT rfl ?_ | refine cj_skip ?_ | refine cj_block ?_ | refine nj_then ?_))
  refine oj_idx TT rfl rfl rfl rfl rfl rfl rfl rfl rfl H (by omega) hrow (oj_run TT rfl ?_)
  (repeat (first | refine cj_seq ?_ | refine cjr TT rfl ?_ | refine oj_then ?_))
  refine oj_callP rfl rfl rfl rfl rfl Tryd.call25 (by (repeat' (first | exact trivial | refine AllLt.of ?_ | constructor))) (right_c s p hb1) fun v hv=>⟨.a (.b (rightG p)),trivial,hv.symm,?_⟩
  refine oj_run TT rfl ?_
  (repeat refine oj_then ?_)
  refine cj_if rfl (fun hq=>?_) (fun hq=>?_)
  · have hq:rightG p=false:=by simpa using hq
    have e:encG l=([],1):=by
      unfold encG
      rw [if_neg (by omega),if_neg]
      intro ha
      have:=List.all_eq_true.1 ha p hmem
      rw [hq] at this
      cases this
    rw [e]
    (repeat (first | refine cj_seq ?_ | refine cjr TT rfl ?_ | refine oj_then ?_ | refine cj_ret ?_ | refine nj_then_ret ?_ | refine nj_block_ret ?_))
    refine nj_ret TT rfl fun β w' _ _=>?_
    exact ⟨none,0,rfl,SlAt.nil _ none 0 1⟩
  have hq:rightG p=true:=by simpa using hq
  have hrt:=(right_iff p).1 hq
  (repeat (first | refine cjr TT rfl ?_ | refine cj_skip ?_ | refine nj_then ?_))
  refine oj_callF [0] (A0:=[u8E oo oc (enK l k)]) (Ar:=[]) rfl rfl rfl rfl rfl rfl rfl Tryd.call26 ⟨trivial,paCells_lt 0 p,trivial⟩ (put_c s m hm p hrt hb2 (enK l k) (by omega) oo oc hoc) fun v s1 A' hle1 ⟨o1,c1,hv,hc1,hA⟩=>⟨.a (.v (.slice o1 (enK l k++putG p).length c1)),trivial,hv.symm,?_⟩
  subst hA
  rw [<-hs1] at hc1 ⊢
  refine oj_run TT rfl ?_
  (repeat (first | refine cjr TT rfl ?_ | refine oj_nil ?_ | refine nj_then ?_ | refine nj_block ?_ | (refine oj_add rfl rfl rfl rfl rfl rfl (by omega) ?_;refine oj_run TT rfl ?_)))
  refine nj_again (s1,(⟨k+1,o1,c1⟩:EnS)) ⟨Snap.le_trans hle hle1,hkl,hc1,fun q hq'=>?_⟩ (by dsimp only;omega) rfl (by (repeat first | exact trivial | refine ⟨rfl,?_⟩)) (by (repeat first | exact trivial | refine ⟨rfl,?_⟩)) rfl (by (repeat' (first | exact trivial | constructor))) (by (repeat' exact trivial))
  rw [htk] at hq'
  rcases List.mem_append.1 hq' with hq' | hq'
  · exact hr q hq'
  · rw [List.mem_singleton] at hq'
    subst hq'
    exact hrt
def cmpV (a b:Int):Int:=if a<b then -1 else if b<a then 1 else 0
set_option maxRecDepth 100000 in
set_option maxHeartbeats 1000000 in
theorem compare09_c (σ:Snap) (a b:Int):PlainS Tryd.prog 33 [.a (.v (.int .i64 a)),.a (.v (.int .i64 b))] σ (fun v=>v=.int .i64 (cmpV a b)):=by
  refine enter_p Tryd.func33 rfl rfl (by (repeat' (first | exact trivial | constructor))) fun w=>?_
  (repeat (first | refine cj_seq ?_ | refine cjr TT rfl ?_ | refine oj_then ?_))
  refine cj_if rfl (fun h=>?_) (fun h=>?_)
  · have h:=of_decide_eq_true h
    (repeat (first | refine cj_seq ?_ | refine cjr TT rfl ?_ | refine oj_then ?_ | refine cj_ret ?_ | refine nj_then_ret ?_))
    refine nj_ret TT rfl fun β w' _ _=>?_
    show Value.int .i64 (-1)=_
    unfold cmpV
    rw [if_pos h]
  have h:=of_decide_eq_false h
  (repeat (first | refine cj_seq ?_ | refine cjr TT rfl ?_ | refine oj_then ?_ | refine cj_skip ?_ | refine nj_then ?_))
  refine cj_if rfl (fun h2=>?_) (fun h2=>?_)
  · have h2:=of_decide_eq_true h2
    (repeat (first | refine cj_seq ?_ | refine cjr TT rfl ?_ | refine oj_then ?_ | refine cj_ret ?_ | refine nj_then_ret ?_))
    refine nj_ret TT rfl fun β w' _ _=>?_
    show Value.int .i64 1=_
    unfold cmpV
    rw [if_neg h,if_pos h2]
  · have h2:=of_decide_eq_false h2
    (repeat (first | refine cj_seq ?_ | refine cjr TT rfl ?_ | refine oj_then ?_ | refine cj_skip ?_ | refine cj_ret ?_ | refine nj_then ?_))
    refine nj_ret TT rfl fun β w' _ _=>?_
    show Value.int .i64 0=_
    unfold cmpV
    rw [if_neg h,if_neg h2]
theorem wrap64 (u:UInt8):IntKind.i64.wrap (u.toNat:Int)=(u.toNat:Int):=by
  have h:∀ n:Fin 256,IntKind.i64.wrap (n.val:Int)=(n.val:Int):=by decide +kernel
  exact h ⟨u.toNat,u.toNat_lt⟩
theorem cmpU_end:∀ {a b:List UInt8},(a=[]\/b=[])->cmpU a b=cmpV a.length b.length
  | [],[],_=>rfl
  | [],y::b,_=>by
    show (-1:Int)=cmpV 0 ((b.length+1:Nat):Int)
    unfold cmpV
    rw [if_pos (by omega)]
  | x::a,[],_=>by
    show (1:Int)=cmpV ((a.length+1:Nat):Int) 0
    unfold cmpV
    rw [if_neg (by omega),if_pos (by omega)]
  | _::_,_::_,h=>by rcases h with h | h<;>cases h
theorem cmpU_ne {x y:UInt8} {a b:List UInt8} (h:x≠y):cmpU (x::a) (y::b)=cmpV x.toNat y.toNat:=by
  have hn:x.toNat≠y.toNat:=fun e=>h (UInt8.toNat_inj.1 e)
  unfold cmpU cmpV
  by_cases h1:x<y
  · have:=UInt8.lt_iff_toNat_lt.1 h1
    rw [if_pos h1,if_pos (by omega)]
  · have h2:¬ x.toNat<y.toNat:=fun e=>h1 (UInt8.lt_iff_toNat_lt.2 e)
    have h3:y<x:=UInt8.lt_iff_toNat_lt.2 (by omega)
    rw [if_neg h1,if_pos h3,if_neg (by omega),if_pos (by omega)]
theorem cmpU_eq (x:UInt8) (a b:List UInt8):cmpU (x::a) (x::b)=cmpU a b:=cmp_front [x] a b
set_option maxRecDepth 100000 in
set_option maxHeartbeats 2000000 in
theorem bytes09_c (σ:Snap) (a b:List UInt8) (ha:a.length<=140737488355328):PlainS Tryd.prog 24 [.a (.v (.string (mkB a))),.a (.v (.string (mkB b)))] σ (fun v=>v=.int .i64 (cmpU a b)):=by
  have hza:=mkB_size a
  have hzb:=mkB_size b
  refine enter_p Tryd.func24 rfl rfl (by (repeat' (first | exact trivial | constructor))) fun w=>?_
  (repeat (first | refine cj_seq ?_ | refine cjr TT rfl ?_ | refine oj_then ?_ | refine cj_block ?_))
  refine cj_cutB (fun _=>σ) (fun (k:Nat)=>[(0,.a (.v (.string (mkB a)))),(1,.a (.v (.string (mkB b))))]) (fun _=>[]) (fun _=>[]) 0 (fun k=>k<=a.length/\k<=b.length/\cmpU a b=cmpU (a.drop k) (b.drop k)/\(k=a.length\/k=b.length)) ?_ (fun k ⟨hka,hkb,hc,he⟩=>?_)
  rotate_left
  · (repeat (first | refine cj_seq ?_ | refine cjr TT rfl ?_))
    rw [hza,hzb]
    refine oj_callP rfl rfl rfl rfl rfl Tryd.call33 (by (repeat' (first | exact trivial | constructor))) (compare09_c σ a.length b.length) fun v hv=>⟨.a (.v (.int .i64 (cmpV a.length b.length))),trivial,hv.symm,?_⟩
    refine oj_run TT rfl ?_
    (repeat (first | refine oj_then ?_ | refine cj_ret ?_))
    refine nj_ret TT rfl fun β w' _ _=>?_
    rw [hc,cmpU_end (by
      rcases he with he | he
      · exact .inl (List.drop_of_length_le (by omega))
      · exact .inr (List.drop_of_length_le (by omega))),List.length_drop,List.length_drop]
    show Value.int .i64 (cmpV a.length b.length)=.int .i64 (cmpV ((a.length - k:Nat):Int) ((b.length - k:Nat):Int))
    congr 1
    unfold cmpV
    by_cases h1:a.length<b.length
    · rw [if_pos (by omega),if_pos (by omega)]
    · rw [if_neg (by omega),if_neg (show ¬ ((a.length - k:Nat):Int)<((b.length - k:Nat):Int) by omega)]
      by_cases h2:b.length<a.length
      · rw [if_pos (by omega),if_pos (by omega)]
      · rw [if_neg (by omega),if_neg (by omega)]
  refine cj_loop (fun (_:Nat)=>σ) (fun k=>[(0,.a (.v (.string (mkB a)))),(1,.a (.v (.string (mkB b)))),(5,.a (.v (.int .i64 (k:Nat))))]) (fun _=>[]) (fun _=>[]) 0 (fun k=>k<=a.length/\k<=b.length/\cmpU a b=cmpU (a.drop k) (b.drop k)) (fun k=>a.length - k) 0 ⟨Nat.zero_le _,Nat.zero_le _,rfl⟩ rfl (by (repeat first | exact trivial | refine ⟨rfl,?_⟩)) (by (repeat first | exact trivial | refine ⟨rfl,?_⟩)) rfl (by (repeat' (first | exact trivial | constructor))) (by (repeat' exact trivial)) fun k ⟨hka,hkb,hc⟩=>?_
  (repeat (first | refine cj_seq ?_ | refine cjr TT rfl ?_))
  rw [hza]
  refine oj_split 10 rfl (fun h1=>?_) (fun h1=>?_)
  rotate_left
  · have h1:=of_decide_eq_false (show decide ((k:Int)<a.length)=false from h1)
    refine oj_run TT rfl ?_
    (repeat (first | refine oj_then ?_ | refine cj_if_f rfl ?_ | refine cj_exit ?_ | refine nj_then_exit ?_ | refine nj_block_out ?_))
    refine nj_again k ⟨hka,hkb,hc,.inl (by omega)⟩ Nat.zero_lt_one rfl (by (repeat first | exact trivial | refine ⟨rfl,?_⟩)) (by (repeat first | exact trivial | refine ⟨rfl,?_⟩)) rfl (by (repeat' (first | exact trivial | constructor))) (by (repeat' exact trivial))
  have h1:=of_decide_eq_true (show decide ((k:Int)<a.length)=true from h1)
  refine oj_run TT rfl ?_
  (repeat refine oj_then ?_)
  rw [hzb]
  refine cj_if rfl (fun h2=>?_) (fun h2=>?_)
  rotate_left
  · have h2:=of_decide_eq_false (show decide ((k:Int)<b.length)=false from h2)
    (repeat (first | refine cj_exit ?_ | refine nj_then_exit ?_ | refine nj_block_out ?_))
    refine nj_again k ⟨hka,hkb,hc,.inr (by omega)⟩ Nat.zero_lt_one rfl (by (repeat first | exact trivial | refine ⟨rfl,?_⟩)) (by (repeat first | exact trivial | refine ⟨rfl,?_⟩)) rfl (by (repeat' (first | exact trivial | constructor))) (by (repeat' exact trivial))
  have h2:=of_decide_eq_true (show decide ((k:Int)<b.length)=true from h2)
  have hla:k<a.length:=by omega
  have hlb:k<b.length:=by omega
  have hxa:=List.getElem?_eq_getElem hla
  have hxb:=List.getElem?_eq_getElem hlb
  have hda:=List.drop_eq_getElem_cons hla
  have hdb:=List.drop_eq_getElem_cons hlb
  generalize a[k]=x at *
  generalize b[k]=y at *
  have hia:∀ z:Int,z=(k:Int)->(mkB a).data.toList[z.toNat]?=some x:=fun z hz=>by rw [hz,mkB_list];exact hxa
  have hib:∀ z:Int,z=(k:Int)->(mkB b).data.toList[z.toNat]?=some y:=fun z hz=>by rw [hz,mkB_list];exact hxb
  (repeat (first | refine cj_seq ?_ | refine cj_skip ?_ | refine cj_block ?_ | refine nj_then ?_))
  refine cj_draw [(0,.pure),(1,.pure),(2,.pure),(3,.pure),(4,.pure),(5,.pure),(6,.pure)] mixed (by kernel_rfl) (oj_run TT rfl ?_)
  refine oj_index_str (u:=x) TT rfl rfl rfl rfl rfl rfl rfl rfl (by omega) (hia _ rfl) (oj_run TT rfl ?_)
  refine oj_index_str (u:=y) TT rfl rfl rfl rfl rfl rfl rfl rfl (by omega) (hib _ rfl) (oj_run TT rfl ?_)
  (repeat refine oj_then ?_)
  refine cj_if rfl (fun hne=>?_) (fun heq=>?_)
  · have hne:x≠y:=by
      intro e
      have h:(!decide ((x.toNat:Int)=y.toNat))=true:=hne
      rw [e] at h
      simp at h
    (repeat refine cj_seq ?_)
    refine cj_draw [(0,.pure),(1,.pure),(2,.pure),(3,.pure),(4,.pure),(5,.pure),(6,.pure),(7,.pure),(8,.keep),(9,.pure)] mixed (by kernel_rfl) (oj_run TT rfl ?_)
    refine oj_index_str (u:=x) TT rfl rfl rfl rfl rfl rfl rfl rfl (by omega) (hia _ rfl) (oj_run TT rfl ?_)
    refine oj_conv TT (x.toNat:Int) rfl rfl rfl rfl rfl rfl rfl rfl (wrap64 x) (oj_run TT rfl ?_)
    refine oj_index_str (u:=y) TT rfl rfl rfl rfl rfl rfl rfl rfl (by omega) (hib _ rfl) (oj_run TT rfl ?_)
    refine oj_conv TT (y.toNat:Int) rfl rfl rfl rfl rfl rfl rfl rfl (wrap64 y) (oj_run TT rfl ?_)
    refine oj_callP rfl rfl rfl rfl rfl Tryd.call33 (by (repeat' (first | exact trivial | constructor))) (compare09_c σ x.toNat y.toNat) fun v hv=>⟨.a (.v (.int .i64 (cmpV x.toNat y.toNat))),trivial,hv.symm,?_⟩
    refine oj_run TT rfl ?_
    (repeat (first | refine oj_then ?_ | refine cj_ret ?_ | refine nj_then_ret ?_ | refine nj_block_ret ?_))
    refine nj_ret TT rfl fun β w' _ _=>?_
    rw [hc,hda,hdb,cmpU_ne hne]
    rfl
  have heq:x=y:=by
    have h:(!decide ((x.toNat:Int)=y.toNat))=false:=heq
    simp only [Bool.not_eq_false',decide_eq_true_eq] at h
    exact UInt8.toNat_inj.1 (by omega)
  (repeat (first | refine cjr TT rfl ?_ | refine oj_nil ?_ | refine cj_skip ?_ | refine nj_then ?_ | refine nj_block ?_ | (refine oj_add rfl rfl rfl rfl rfl rfl (by omega) ?_;refine oj_run TT rfl ?_)))
  refine nj_again (k+1) ⟨hla,hlb,by rw [hc,hda,hdb,heq,cmpU_eq]⟩ (by omega) rfl (by (repeat first | exact trivial | refine ⟨rfl,?_⟩)) (by (repeat first | exact trivial | refine ⟨rfl,?_⟩)) rfl (by (repeat' (first | exact trivial | constructor))) (by (repeat' exact trivial))
set_option maxRecDepth 100000 in
set_option maxHeartbeats 1000000 in
theorem Bytes_c (σ:Snap) (a b:List UInt8) (ha:a.length<=140737488355328) (ao:Option Addr) (ac:Nat) (HA:SlAt σ ao a.length ac 1 (u8Rows a)) (bo:Option Addr) (bc:Nat) (HB:SlAt σ bo b.length bc 1 (u8Rows b)) :
    PlainS Tryd.prog 10 [.a (.v (.slice ao a.length ac)),.a (.v (.slice bo b.length bc))] σ (fun v=>v=.int .i64 (cmpU a b)):=by
  refine enter_p Tryd.func10 rfl rfl (by (repeat' (first | exact trivial | constructor))) fun w=>?_
  (repeat (first | refine cj_seq ?_ | refine cjr TT rfl ?_ | refine oj_then ?_))
  refine oj_strOf TT rfl rfl rfl rfl rfl rfl rfl rfl rfl rfl rfl rfl HA (oj_run TT rfl ?_)
  refine oj_strOf TT rfl rfl rfl rfl rfl rfl rfl rfl rfl rfl rfl rfl HB (oj_run TT rfl ?_)
  refine oj_callP rfl rfl rfl rfl rfl Tryd.call24 (by (repeat' (first | exact trivial | constructor))) (bytes09_c σ a b ha) fun v hv=>⟨.a (.v (.int .i64 (cmpU a b))),trivial,hv.symm,?_⟩
  refine oj_run TT rfl ?_
  (repeat (first | refine oj_then ?_ | refine cj_ret ?_))
  refine nj_ret TT rfl fun β w' _ _=>?_
  rfl
end Go.Sy
namespace Go.Sy
open Go.Proofs
set_option maxRecDepth 100000 in
set_option maxHeartbeats 1000000 in
theorem Clone09_c (σ:Snap) (l:List UInt8) (hl:l.length<=1000000) (h0:0<l.length) (ao:Option Addr) (cap:Nat) (H:SlAt σ ao l.length cap 1 (u8Rows l)) :
    FnS Tryd.prog 23 [.a (.v (.slice ao l.length cap))] σ [] (fun v _ A'=>∃ bo bc,v=.slice bo l.length bc/\l.length<=bc/\A'=[u8E bo bc l]):=by
  refine enter_f Tryd.func23 rfl rfl (by (repeat' (first | exact trivial | constructor))) fun w=>?_
  (repeat (first | refine cj_seq ?_ | refine cjr TT rfl ?_ | refine oj_then ?_ | (refine oj_slnil TT rfl rfl rfl rfl rfl rfl rfl rfl ?_;refine oj_run TT rfl ?_)))
  refine cj_if rfl (fun h=>?_) (fun h=>?_)
  · exfalso
    have h0':ao=none:=by simpa using h
    rcases H.at_ with h1 | ⟨ad,h1,_⟩
    · omega
    · rw [h0'] at h1;cases h1
  (repeat (first | refine cj_seq ?_ | refine cjr TT rfl ?_ | refine cj_skip ?_ | refine nj_then ?_))
  refine oj_own 0 0 1 rfl (by (repeat' (first | exact trivial | refine AllLt.of ?_))) rfl (by decide) fun gb=>?_
  refine oj_append_sl TT 0 rfl rfl rfl rfl rfl rfl rfl H rfl rfl rfl rfl rfl rfl rfl rfl rfl (fun r hr=>(u8Rows_all l r hr).2.2) (by omega) (by show (0+l.length)*1<=_;omega) fun ao' cap' hcap'=>oj_run TT rfl ?_
  (repeat (first | refine oj_then ?_ | refine cj_ret ?_))
  refine nj_fret TT rfl fun β w' _ _=>?_
  refine ⟨ao',cap',by show Value.slice ao' (0+l.length) cap'=_;rw [Nat.zero_add],by omega,?_⟩
  show [_]=[_]
  rw [Nat.zero_add,u8Xs_flat]
  rfl
theorem strip_all:∀ {l:List UInt8},(∀ c∈l,c=255)->stripF l=[]
  | [],_=>rfl
  | c::l,h=>by rw [stripF,if_pos (h c List.mem_cons_self),strip_all fun x hx=>h x (List.mem_cons_of_mem c hx)]
theorem strip_front:∀ {l:List UInt8} {c:UInt8} {m:List UInt8},(∀ x∈l,x=255)->c≠255->stripF (l++c::m)=c::m
  | [],c,m,_,hc=>by rw [List.nil_append,stripF,if_neg hc]
  | x::l,c,m,h,hc=>by rw [List.cons_append,stripF,if_pos (h x List.mem_cons_self),strip_front (fun y hy=>h y (List.mem_cons_of_mem x hy)) hc]
theorem after_zero {b:List UInt8} (h:∀ c∈b,c=255):afterG b=[]:=by
  unfold afterG
  rw [strip_all fun c hc=>h c (List.mem_reverse.1 hc)]
theorem after_at {b:List UInt8} {k:Nat} {c:UInt8} (hc:b[k]?=some c) (hne:c≠255) (h:∀ x∈b.drop (k+1),x=255):afterG b=b.take k++[c+1]:=by
  obtain ⟨hk,he⟩:=List.getElem?_eq_some_iff.1 hc
  have e:b=b.take k++c::b.drop (k+1):=by rw [<-he,<-List.drop_eq_getElem_cons hk,List.take_append_drop]
  have hr:b.reverse=(b.drop (k+1)).reverse++c::(b.take k).reverse:=by
    conv=>lhs;rw [e]
    simp
  unfold afterG
  rw [hr,strip_front (fun x hx=>h x (List.mem_reverse.1 hx)) hne]
  show (b.take k).reverse.reverse++[c+1]=_
  rw [List.reverse_reverse]
theorem take_set_last {b:List UInt8} {k:Nat} {c:UInt8} (hc:b[k]?=some c) (x:UInt8):(b.take (k+1)).set k x=b.take k++[x]:=by
  obtain ⟨hk,he⟩:=List.getElem?_eq_some_iff.1 hc
  have hl:(b.take k).length=k:=by rw [List.length_take];omega
  rw [List.take_succ_eq_append_getElem hk,List.set_append_right _ _ (by omega),hl,Nat.sub_self,List.set_cons_zero]
set_option maxRecDepth 100000 in
set_option maxHeartbeats 2000000 in
theorem After_c (σ:Snap) (b:List UInt8) (hl:b.length<=1000000) (ao:Option Addr) (cap:Nat) (H:SlAt σ ao b.length cap 1 (u8Rows b)) :
    PureS Tryd.prog 9 [.a (.v (.slice ao b.length cap))] σ (fun v σ'=>∃ bo bc,v=.slice bo (afterG b).length bc/\SlAt σ' bo (afterG b).length bc 1 (u8Rows (afterG b))):=by
  refine enter_s Tryd.func9 rfl rfl (by (repeat' (first | exact trivial | constructor))) fun w=>?_
  (repeat (first | refine cj_seq ?_ | refine cjr TT rfl ?_ | refine oj_then ?_ | refine cj_block ?_))
  refine cj_cutB (fun _=>σ) (fun (n:Nat)=>[(0,.a (.v (.slice ao b.length cap))),(2,.a (.v (.slice none 0 0))),(3,.a (.v (.int .i64 (n:Nat))))]) (fun _=>[]) (fun _=>[]) 0 (fun n=>n<=b.length/\(∀ x∈b.drop n,x=255)/\(n=0\/∃ k c,n=k+1/\b[k]?=some c/\c≠255)) ?_ (fun n ⟨hn,hd,he⟩=>?_)
  · refine cj_loop (fun (_:Nat)=>σ) (fun n=>[(0,.a (.v (.slice ao b.length cap))),(2,.a (.v (.slice none 0 0))),(3,.a (.v (.int .i64 (n:Nat))))]) (fun _=>[]) (fun _=>[]) 0 (fun n=>n<=b.length/\∀ x∈b.drop n,x=255) (fun n=>n) b.length ⟨Nat.le_refl _,fun x hx=>(by rw [List.drop_length] at hx;cases hx)⟩ rfl (by (repeat first | exact trivial | refine ⟨rfl,?_⟩)) (by (repeat first | exact trivial | refine ⟨rfl,?_⟩)) rfl (by (repeat' (first | exact trivial | constructor))) (by (repeat' exact trivial)) fun n ⟨hn,hd⟩=>?_
    (repeat (first | refine cj_seq ?_ | refine cjr TT rfl ?_))
    refine oj_split 9 rfl (fun h=>?_) (fun h=>?_)
    rotate_left
    · have h:=of_decide_eq_false (show decide ((0:Int)<n)=false from h)
      refine oj_run TT rfl ?_
      (repeat (first | refine oj_then ?_ | refine cj_if_f rfl ?_ | refine cj_exit ?_ | refine nj_then_exit ?_ | refine nj_block_out ?_))
      refine nj_again n ⟨hn,hd,.inl (by omega)⟩ Nat.zero_lt_one rfl (by (repeat first | exact trivial | refine ⟨rfl,?_⟩)) (by (repeat first | exact trivial | refine ⟨rfl,?_⟩)) rfl (by (repeat' (first | exact trivial | constructor))) (by (repeat' exact trivial))
    have h:=of_decide_eq_true (show decide ((0:Int)<n)=true from h)
    obtain ⟨k,rfl⟩:∃ k,n=k+1:=⟨n - 1,by omega⟩
    have hkl:k<b.length:=by omega
    have hx:=List.getElem?_eq_getElem hkl
    have hrow:=u8Rows_get hx
    have hdk:=List.drop_eq_getElem_cons hkl
    generalize b[k]=c at *
    have hr1':∀ z:Int,z=((k+1:Nat):Int) - 1->(u8Rows b)[z.toNat]?=some [.v (.int .u8 c.toNat)]:=fun z hz=>by rw [hz,show (((k+1:Nat):Int) - 1).toNat=k by omega];exact hrow
    refine oj_run TT rfl ?_
    refine oj_minus rfl rfl rfl rfl rfl rfl (by omega) (oj_run TT rfl ?_)
    refine oj_idx TT rfl rfl rfl rfl rfl rfl rfl rfl rfl H (by omega) (hr1' _ rfl) (oj_run TT rfl ?_)
    (repeat refine oj_then ?_)
    refine cj_if rfl (fun hc=>?_) (fun hc=>?_)
    · have hc:c=255:=by
        have:=of_decide_eq_true (show decide ((c.toNat:Int)=255)=true from hc)
        exact UInt8.toNat_inj.1 (by show c.toNat=255;omega)
      (repeat (first | refine cjr TT rfl ?_ | refine oj_nil ?_ | refine cj_skip ?_ | refine cj_block ?_ | refine nj_then ?_ | refine nj_block ?_ | (refine oj_minus rfl rfl rfl rfl rfl rfl (by omega) ?_;refine oj_run TT rfl ?_)))
      refine nj_set 3 (.a (.v (.int .i64 (k:Nat)))) rfl trivial (fun _=>congrArg (Value.int .i64) (by omega)) ?_
      refine nj_again k ⟨by omega,fun x hx=>?_⟩ (by omega) rfl (by (repeat first | exact trivial | refine ⟨rfl,?_⟩)) (by (repeat first | exact trivial | refine ⟨rfl,?_⟩)) rfl (by (repeat' (first | exact trivial | constructor))) (by (repeat' exact trivial))
      rw [hdk] at hx
      rcases List.mem_cons.1 hx with rfl | hx
      · exact hc
      · exact hd x hx
    · have hc:c≠255:=fun e=>by
        have:=of_decide_eq_false (show decide ((c.toNat:Int)=255)=false from hc)
        rw [e] at this
        exact this rfl
      (repeat (first | refine cj_exit ?_ | refine nj_then_exit ?_ | refine nj_block_out ?_))
      refine nj_again (k+1) ⟨hn,hd,.inr ⟨k,c,rfl,hx,hc⟩⟩ Nat.zero_lt_one rfl (by (repeat first | exact trivial | refine ⟨rfl,?_⟩)) (by (repeat first | exact trivial | refine ⟨rfl,?_⟩)) rfl (by (repeat' (first | exact trivial | constructor))) (by (repeat' exact trivial))
  (repeat (first | refine cj_seq ?_ | refine cjr TT rfl ?_ | refine oj_then ?_))
  refine cj_if rfl (fun h=>?_) (fun h=>?_)
  · have h:=of_decide_eq_true (show decide ((n:Int)=0)=true from h)
    have e:afterG b=[]:=after_zero fun c hc=>hd c (by rw [show n=0 by omega];exact hc)
    rw [e]
    (repeat (first | refine cj_seq ?_ | refine cjr TT rfl ?_ | refine oj_then ?_ | refine cj_ret ?_ | refine nj_then_ret ?_))
    refine nj_ret TT rfl fun β w' _ _=>?_
    exact ⟨none,0,rfl,SlAt.nil _ none 0 1⟩
  have h:=of_decide_eq_false (show decide ((n:Int)=0)=false from h)
  obtain ⟨k,c,rfl,hx,hc⟩:=he.resolve_left (by omega)
  have e:=after_at hx hc hd
  have hset:=take_set_last hx (c+1)
  have hkl:=(List.getElem?_eq_some_iff.1 hx).1
  have hF:=H.sub (Nat.zero_le _) hn
  have hfr:SlAt σ ao (k+1) cap 1 (u8Rows (b.take (k+1))):=by
    refine ⟨by rw [u8Rows_len,List.length_take];omega,Nat.le_trans hn H.ncap,fun r hr=>⟨(u8Rows_all _ r hr).1,(u8Rows_all _ r hr).2.1⟩,?_⟩
    rcases H.at_ with h1 | ⟨ad,h1,h2⟩
    · omega
    · refine .inr ⟨ad,h1,fun i r j cc hr hcc=>h2 i r j cc ?_ hcc⟩
      unfold u8Rows at hr ⊢
      rw [List.map_take,List.getElem?_take] at hr
      split at hr
      · exact hr
      · cases hr
  have hlt:(b.take (k+1)).length=k+1:=by rw [List.length_take];omega
  have hxt:(b.take (k+1))[k]?=some c:=by rw [List.getElem?_take,if_pos (Nat.lt_succ_self k)];exact hx
  (repeat (first | refine cj_seq ?_ | refine cjr TT rfl ?_ | refine cj_skip ?_ | refine nj_then ?_))
  refine oj_slice_to TT (k+1) rfl rfl rfl rfl rfl rfl rfl rfl rfl rfl (Nat.le_trans hn H.ncap) H.ncap (oj_run TT rfl ?_)
  have hcl:=Clone09_c σ (b.take (k+1)) (by omega) (by omega) ao cap (by rw [hlt];exact hfr)
  rw [hlt] at hcl
  refine oj_callF [] (A0:=[]) (Ar:=[]) rfl rfl rfl rfl rfl rfl rfl Tryd.call23 (by (repeat' (first | exact trivial | constructor))) hcl fun v s1 A' hle1 ⟨bo,bc,hv,hbc,hA⟩=>⟨.a (.v (.slice bo (k+1) bc)),trivial,hv.symm,?_⟩
  subst hA
  refine oj_run TT rfl ?_
  refine oj_arrAt 0 (E:=u8E bo bc (b.take (k+1))) rfl (by show 0<(b.take (k+1)).length;omega) fun g hg=>?_
  have hg:bo=some ⟨g,0,none⟩:=hg
  subst hg
  have had:∀ z:Int,z=((k+1:Nat):Int) - 1->some (SV.a (AT.v (.pointer (some (Addr.add ⟨g,0,none⟩ (z.toNat*1))))))=some (SV.a (AT.v (.pointer (some ⟨g,k,none⟩)))):=fun z hz=>by rw [hz,show (((k+1:Nat):Int) - 1).toNat=k by omega,add0,Nat.mul_one]
  (repeat (first | refine cj_seq ?_ | refine cjr TT rfl ?_ | refine oj_then ?_ | (refine oj_minus rfl rfl rfl rfl rfl rfl (by omega) ?_;refine oj_run TT rfl ?_)))
  refine oj_indexAddr TT rfl rfl rfl rfl rfl rfl rfl rfl rfl ⟨by omega,by omega⟩ (oj_run TT rfl ?_)
  refine oj_ldA 0 (off:=k) (c:=.v (.int .u8 c.toNat)) TT rfl rfl rfl rfl rfl (had _ rfl) rfl rfl rfl rfl (u8Xs_get hxt) trivial (oj_run TT rfl ?_)
  refine oj_arith ((c+1).toNat:Int) rfl rfl rfl rfl rfl rfl (run_add (wrap8_inc c)) (oj_run TT rfl ?_)
  refine oj_indexAddr TT rfl rfl rfl rfl rfl rfl rfl rfl rfl ⟨by omega,by omega⟩ (oj_run TT rfl ?_)
  refine oj_stA 0 (off:=k) (A':=[u8E (some ⟨g,0,none⟩) bc (afterG b)]) (c:=.v (.int .u8 ((c+1).toNat:Int))) TT rfl rfl rfl rfl (had _ rfl) rfl rfl rfl rfl rfl (by show k<(b.take (k+1)).length*1;omega) trivial rfl (by
    show [_]=[_]
    congr 1
    unfold u8E
    have hl2:(afterG b).length=(b.take (k+1)).length:=by rw [e,hlt,List.length_append,List.length_take];show _+1=_;omega
    rw [hl2]
    congr 1
    rw [e,<-hset]
    exact u8Xs_set _ _ _) (oj_run TT rfl ?_)
  (repeat (first | refine cj_seq ?_ | refine cjr TT rfl ?_ | refine oj_then ?_ | refine cj_ret ?_))
  refine nj_seal 0 rfl rfl fun s2 hle2 hS=>?_
  refine nj_ret TT rfl fun β w' _ _=>?_
  have hl2:(afterG b).length=k+1:=by rw [e,List.length_append,List.length_take];show _+1=_;omega
  have:=u8_sealed hS (by rw [hl2];omega)
  exact ⟨some ⟨g,0,none⟩,bc,by rw [hl2];rfl,this⟩
end Go.Sy
namespace Go.Sy
open Go.Proofs
def awN:GPart:=⟨1,false,dec0,emptyB,0⟩
set_option maxRecDepth 100000 in
set_option maxHeartbeats 1000000 in
theorem isNaN09_c (σ:Snap) (a:Int):PlainS Tryd.prog 53 [.a (.v (.int .i64 a))] σ (fun v=>v=.bool false):=by
  refine enter_p Tryd.func53 rfl rfl (by (repeat' (first | exact trivial | constructor))) fun w=>?_
  (repeat (first | refine cj_seq ?_ | refine cjr TT rfl ?_ | refine oj_then ?_ | refine cj_ret ?_))
  refine nj_ret TT rfl fun β w' _ _=>?_
  show Value.bool (!decide (a=a))=_
  simp
set_option maxRecDepth 100000 in
set_option maxHeartbeats 1000000 in
theorem Compare09_c (σ:Snap) (a b:Int):PlainS Tryd.prog 44 [.a (.v (.int .i64 a)),.a (.v (.int .i64 b))] σ (fun v=>v=.int .i64 (cmpV a b)):=by
  refine enter_p Tryd.func44 rfl rfl (by (repeat' (first | exact trivial | constructor))) fun w=>?_
  (repeat (first | refine cj_seq ?_ | refine cjr TT rfl ?_ | refine oj_then ?_))
  refine oj_callP rfl rfl rfl rfl rfl Tryd.call53 (by (repeat' (first | exact trivial | constructor))) (isNaN09_c σ a) fun v hv=>⟨.a .ff,trivial,hv.symm,?_⟩
  refine oj_run TT rfl ?_
  (repeat (first | refine cj_seq ?_ | refine cjr TT rfl ?_ | refine oj_then ?_))
  refine oj_callP rfl rfl rfl rfl rfl Tryd.call53 (by (repeat' (first | exact trivial | constructor))) (isNaN09_c σ b) fun v hv=>⟨.a .ff,trivial,hv.symm,?_⟩
  refine oj_run TT rfl ?_
  (repeat (first | refine cj_seq ?_ | refine cjr TT rfl ?_ | refine oj_then ?_ | refine cj_if_f rfl ?_ | refine cj_skip ?_ | refine nj_then ?_))
  refine cj_if rfl (fun h=>?_) (fun h=>?_)
  · have h:=of_decide_eq_true h
    (repeat (first | refine cj_seq ?_ | refine cjr TT rfl ?_ | refine oj_then ?_ | refine cj_ret ?_ | refine nj_then_ret ?_))
    refine nj_ret TT rfl fun β w' _ _=>?_
    show Value.int .i64 (-1)=_
    unfold cmpV
    rw [if_pos h]
  have h:=of_decide_eq_false h
  (repeat (first | refine cj_seq ?_ | refine cjr TT rfl ?_ | refine oj_then ?_ | refine cj_skip ?_ | refine nj_then ?_))
  refine cj_if rfl (fun h2=>?_) (fun h2=>?_)
  · have h2:=of_decide_eq_true h2
    (repeat (first | refine cj_seq ?_ | refine cjr TT rfl ?_ | refine oj_then ?_ | refine cj_ret ?_ | refine nj_then_ret ?_))
    refine nj_ret TT rfl fun β w' _ _=>?_
    show Value.int .i64 1=_
    unfold cmpV
    rw [if_neg h,if_pos h2]
  · have h2:=of_decide_eq_false h2
    (repeat (first | refine cj_seq ?_ | refine cjr TT rfl ?_ | refine oj_then ?_ | refine cj_skip ?_ | refine cj_ret ?_ | refine nj_then ?_))
    refine nj_ret TT rfl fun β w' _ _=>?_
    show Value.int .i64 0=_
    unfold cmpV
    rw [if_neg h,if_neg h2]
set_option maxRecDepth 100000 in
set_option maxHeartbeats 1000000 in
theorem order_aw (σ:Snap):PlainS Tryd.prog 32 [.agg (paCells part0),.agg (paCells awN)] σ (fun v=>v=.int .i64 (-1)):=by
  refine enter_p Tryd.func32 rfl rfl ⟨paCells_lt 0 _,paCells_lt 0 _,trivial⟩ fun w=>?_
  (repeat (first | refine cj_seq ?_ | refine cjr TT rfl ?_ | refine oj_then ?_))
  refine oj_callP rfl rfl rfl rfl rfl Tryd.call44 (by (repeat' (first | exact trivial | constructor))) (Compare09_c σ 0 1) fun v hv=>⟨.a (.v (.int .i64 (-1))),trivial,hv.symm,?_⟩
  refine oj_run TT rfl ?_
  (repeat (first | refine cj_seq ?_ | refine cjr TT rfl ?_ | refine oj_then ?_))
  refine cj_if rfl (fun _=>?_) (fun h=>absurd (show (!decide ((-1:Int)=0))=false from h) (by decide))
  (repeat (first | refine cj_seq ?_ | refine cjr TT rfl ?_ | refine oj_then ?_ | refine cj_ret ?_ | refine nj_then_ret ?_))
  refine nj_ret TT rfl fun β w' _ _=>?_
  rfl
set_option maxRecDepth 100000 in
set_option maxHeartbeats 2000000 in
theorem CompareFunc_aw (σ:Snap) (ao bo:Option Addr) (HA:SlAt σ ao 1 1 7 (paRows [part0])) (HB:SlAt σ bo 1 1 7 (paRows [awN])) :
    PlainS Tryd.prog 31 [.a (.v (.slice ao 1 1)),.a (.v (.slice bo 1 1)),.a (.fn (.func 32) [])] σ (fun v=>v=.int .i64 (-1)):=by
  refine enter_p Tryd.func31 rfl rfl (by (repeat' (first | exact trivial | exact SV.lt_fn0 | constructor))) fun w=>?_
  (repeat (first | refine cj_seq ?_ | refine cjr TT rfl ?_ | refine oj_then ?_ | refine cj_block ?_))
  refine cj_loop (fun (_:Unit)=>σ) (fun _=>[(0,.a (.v (.slice ao 1 1))),(1,.a (.v (.slice bo 1 1))),(2,.a (.fn (.func 32) [])),(11,.a (.v (.slice ao 1 1))),(12,.a (.v (.int .i64 1))),(13,.a (.v (.int .i64 0)))]) (fun _=>[]) (fun _=>[]) 0 (fun _=>True) (fun _=>0) () trivial rfl (by (repeat first | exact trivial | refine ⟨rfl,?_⟩)) (by (repeat first | exact trivial | refine ⟨rfl,?_⟩)) rfl (by (repeat' (first | exact trivial | exact SV.lt_fn0 | constructor))) (by (repeat' exact trivial)) fun _ _=>?_
  (repeat (first | refine cj_seq ?_ | refine cjr TT rfl ?_ | refine oj_then ?_))
  refine cj_if rfl (fun _=>?_) (fun h=>absurd (show decide ((0:Int)<1)=false from h) (by decide))
  (repeat (first | refine cj_seq ?_ | refine cjr TT rfl ?_ | refine cj_skip ?_ | refine cj_block ?_ | refine nj_then ?_))
  refine oj_idx TT rfl rfl rfl rfl rfl rfl rfl rfl rfl HA (by decide) (r:=paCells part0) rfl (oj_run TT rfl ?_)
  (repeat (first | refine cj_seq ?_ | refine cjr TT rfl ?_ | refine oj_then ?_))
  refine cj_if rfl (fun h=>absurd (show decide ((1:Int)<=0)=true from h) (by decide)) (fun _=>?_)
  (repeat (first | refine cj_seq ?_ | refine cjr TT rfl ?_ | refine cj_skip ?_ | refine nj_then ?_))
  refine oj_idx TT rfl rfl rfl rfl rfl rfl rfl rfl rfl HB (by decide) (r:=paCells awN) rfl (oj_run TT rfl ?_)
  (repeat (first | refine cj_seq ?_ | refine cjr TT rfl ?_ | refine oj_then ?_))
  refine oj_callP rfl rfl rfl rfl rfl Tryd.call32 (by (repeat' (first | exact trivial | refine AllLt.of ?_ | constructor))) (order_aw σ) fun v hv=>⟨.a (.v (.int .i64 (-1))),trivial,hv.symm,?_⟩
  refine oj_run TT rfl ?_
  (repeat (first | refine cj_seq ?_ | refine cjr TT rfl ?_ | refine oj_then ?_))
  refine cj_if rfl (fun _=>?_) (fun h=>absurd (show (!decide ((-1:Int)=0))=false from h) (by decide))
  (repeat (first | refine cj_seq ?_ | refine cjr TT rfl ?_ | refine oj_then ?_ | refine cj_ret ?_ | refine nj_then_ret ?_ | refine nj_block_ret ?_))
  refine nj_ret TT rfl fun β w' _ _=>?_
  rfl
set_option maxRecDepth 100000 in
set_option maxHeartbeats 1000000 in
theorem Order_aw (σ:Snap) (ao bo:Option Addr) (HA:SlAt σ ao 1 1 7 (paRows [part0])) (HB:SlAt σ bo 1 1 7 (paRows [awN])) :
    PlainS Tryd.prog 22 [.a (.v (.slice ao 1 1)),.a (.v (.slice bo 1 1))] σ (fun v=>v=.int .i64 (-1)):=by
  refine enter_p Tryd.func22 rfl rfl (by (repeat' (first | exact trivial | constructor))) fun w=>?_
  (repeat (first | refine cj_seq ?_ | refine cjr TT rfl ?_ | refine oj_then ?_))
  refine oj_callP rfl rfl rfl rfl rfl Tryd.call31 (by (repeat' (first | exact trivial | exact SV.lt_fn0 | constructor))) (CompareFunc_aw σ ao bo HA HB) fun v hv=>⟨.a (.v (.int .i64 (-1))),trivial,hv.symm,?_⟩
  refine oj_run TT rfl ?_
  (repeat (first | refine oj_then ?_ | refine cj_ret ?_))
  refine nj_ret TT rfl fun β w' _ _=>?_
  rfl
def awP1:GPart:=⟨2,false,⟨true,⟨#[49]⟩,0⟩,emptyB,0⟩
def awP2:GPart:=⟨2,false,⟨false,⟨#[53]⟩,-1⟩,emptyB,0⟩
theorem aw_enc1:encG [awP1]=([48,252,22,253,255],0):=by decide +kernel
theorem aw_enc2:encG [awP2]=([50,3,232,6,0],0):=by decide +kernel
theorem pa1_sealed {σ:Snap} {g:Nat} {p:GPart} {xs:List Value} (hx:xs=(paCells p).map AT.val) (hS:ArrSealed σ ⟨some ⟨g,0,none⟩,1,1,49,7,xs⟩):SlAt σ (some ⟨g,0,none⟩) 1 1 7 (paRows [p]) :=
  pa_sealed (t:=49) (l:=[p]) (cap:=1) (by subst hx;exact hS) (Nat.le_refl _)
set_option maxRecDepth 100000 in
set_option maxHeartbeats 4000000 in
theorem awake09_c (σ:Snap) (m:Int) (hm:σ.cell ⟨0,0,none⟩=some (.int .i64 m)):PureS Tryd.prog 8 [] σ (fun v _=>v=.bool true):=by
  refine enter_s Tryd.func8 rfl rfl (by (repeat' exact trivial)) fun w=>?_
  (repeat (first | refine cj_seq ?_ | refine cjr TT rfl ?_ | refine oj_then ?_))
  refine oj_own 0 1 7 rfl (by (repeat' (first | exact trivial | refine AllLt.of ?_ | constructor))) rfl (by decide) fun g1=>?_
  refine oj_seal 0 rfl rfl rfl fun s1 hle1 hS1=>?_
  have H1:=pa1_sealed (p:=awP1) rfl hS1
  refine oj_callS rfl rfl rfl rfl rfl Tryd.call12 ⟨trivial,trivial⟩ (show PureS Tryd.prog 12 [.a (.v (.slice (some ⟨g1,0,none⟩) 1 1))] s1 _ from Encode_c s1 m (hle1.cell hm) [awP1] (by decide) (by intro p hp;rw [List.mem_singleton] at hp;subst hp;exact ⟨by decide,by decide⟩) _ 1 H1) fun v s2 hle2 ⟨xo,xc,hv,HX⟩=>⟨.tup [.a (.v (.slice xo 5 xc)),.a (.v (.int .i64 0))],(by (repeat' (first | exact trivial | refine SV.lt_tup ?_ | constructor))),(by rw [hv,aw_enc1];rfl),?_⟩
  rw [aw_enc1] at HX
  have hm2:=(Snap.le_trans hle1 hle2).cell hm
  refine oj_run TT rfl ?_
  (repeat (first | refine cj_seq ?_ | refine cjr TT rfl ?_ | refine oj_then ?_))
  refine oj_own 1 1 7 rfl (by (repeat' (first | exact trivial | refine AllLt.of ?_ | constructor))) rfl (by decide) fun g2=>?_
  refine oj_seal 0 rfl rfl rfl fun s3 hle3 hS3=>?_
  have H3:=pa1_sealed (p:=awP2) rfl hS3
  refine oj_callS rfl rfl rfl rfl rfl Tryd.call12 ⟨trivial,trivial⟩ (show PureS Tryd.prog 12 [.a (.v (.slice (some ⟨g2,0,none⟩) 1 1))] s3 _ from Encode_c s3 m (hle3.cell hm2) [awP2] (by decide) (by intro p hp;rw [List.mem_singleton] at hp;subst hp;exact ⟨by decide,by decide⟩) _ 1 H3) fun v s4 hle4 ⟨yo,yc,hv,HY⟩=>⟨.tup [.a (.v (.slice yo 5 yc)),.a (.v (.int .i64 0))],(by (repeat' (first | exact trivial | refine SV.lt_tup ?_ | constructor))),(by rw [hv,aw_enc2];rfl),?_⟩
  rw [aw_enc2] at HY
  have HX:=HX.mono (Snap.le_trans hle3 hle4)
  refine oj_run TT rfl ?_
  (repeat (first | refine cj_seq ?_ | refine cjr TT rfl ?_ | refine oj_then ?_))
  refine oj_split 21 rfl (fun _=>?_) (fun h=>absurd (show decide ((0:Int)=0)=false from h) (by decide))
  refine oj_run TT rfl ?_
  refine oj_split 25 rfl (fun _=>?_) (fun h=>absurd (show decide ((0:Int)=0)=false from h) (by decide))
  refine oj_run TT rfl ?_
  refine oj_callP rfl rfl rfl rfl rfl Tryd.call10 (by (repeat' (first | exact trivial | constructor))) (Bytes_c s4 [48,252,22,253,255] [50,3,232,6,0] (by decide) xo xc HX yo yc HY) fun v hv=>⟨.a (.v (.int .i64 (-1))),trivial,(by rw [hv];rfl),?_⟩
  refine oj_run TT rfl ?_
  refine oj_split 31 rfl (fun _=>?_) (fun h=>absurd (show decide ((-1:Int)<0)=false from h) (by decide))
  refine oj_run TT rfl ?_
  refine oj_own 2 1 7 rfl (by (repeat' (first | exact trivial | refine AllLt.of ?_ | constructor))) rfl (by decide) fun g3=>?_
  refine oj_seal 0 rfl rfl rfl fun s5 hle5 hS5=>?_
  have H5:=pa1_sealed (p:=part0) rfl hS5
  refine oj_own 3 1 7 rfl (by (repeat' (first | exact trivial | refine AllLt.of ?_ | constructor))) rfl (by decide) fun g4=>?_
  refine oj_seal 0 rfl rfl rfl fun s6 hle6 hS6=>?_
  have H6:=pa1_sealed (p:=awN) rfl hS6
  refine oj_callP rfl rfl rfl rfl rfl Tryd.call22 (by (repeat' (first | exact trivial | constructor))) (Order_aw s6 _ _ (H5.mono hle6) H6) fun v hv=>⟨.a (.v (.int .i64 (-1))),trivial,hv.symm,?_⟩
  refine oj_run TT rfl ?_
  refine oj_split 39 rfl (fun _=>?_) (fun h=>absurd (show decide ((-1:Int)<0)=false from h) (by decide))
  refine oj_run TT rfl ?_
  refine oj_own 4 2 1 rfl (by (repeat' (first | exact trivial | refine AllLt.of ?_ | constructor))) rfl (by decide) fun g5=>?_
  refine oj_seal 0 rfl rfl rfl fun s7 hle7 hS7=>?_
  have H7:SlAt s7 (some ⟨g5,0,none⟩) ([1,255]:List UInt8).length 2 1 (u8Rows [1,255]):=u8_sealed (l:=[1,255]) hS7 (Nat.le_refl _)
  refine oj_callS rfl rfl rfl rfl rfl Tryd.call9 ⟨trivial,trivial⟩ (show PureS Tryd.prog 9 [.a (.v (.slice (some ⟨g5,0,none⟩) 2 2))] s7 _ from After_c s7 [1,255] (by decide) _ 2 H7) fun v s8 hle8 ⟨bo,bc,hv,_⟩=>⟨.a (.v (.slice bo 1 bc)),trivial,(by rw [hv];rfl),?_⟩
  refine oj_run TT rfl ?_
  (repeat (first | refine oj_then ?_ | refine cj_ret ?_))
  refine nj_ret TT rfl fun β w' _ _=>?_
  rfl
end Go.Sy
namespace Go.Sy
open Go.Proofs
theorem u8_front {σ:Snap} {ao:Option Addr} {cap n:Nat} {l:List UInt8} (H:SlAt σ ao n cap 1 (u8Rows l)) {k:Nat} (hk:k<=n):SlAt σ ao k cap 1 (u8Rows (l.take k)):=by
  have hn:l.length=n:=by rw [<-H.len,u8Rows_len]
  refine ⟨by rw [u8Rows_len,List.length_take];omega,Nat.le_trans hk H.ncap,fun r hr=>⟨(u8Rows_all _ r hr).1,(u8Rows_all _ r hr).2.1⟩,?_⟩
  rcases H.at_ with h1 | ⟨ad,h1,h2⟩
  · exact .inl (by omega)
  · refine .inr ⟨ad,h1,fun i r j cc hr hcc=>h2 i r j cc ?_ hcc⟩
    unfold u8Rows at hr ⊢
    rw [List.map_take,List.getElem?_take] at hr
    split at hr
    · exact hr
    · cases hr
theorem toArr_inj {a b:List UInt8} (h:(⟨a.toArray⟩:ByteArray)=⟨b.toArray⟩):a=b:=by
  have h2:(⟨a.toArray⟩:ByteArray).data.toList=(⟨b.toArray⟩:ByteArray).data.toList:=by rw [h]
  simpa using h2
end Go.Sy
namespace Go.Sy
open Go.Proofs
theorem few_b {l:List GPart} (h:fewG l=true):∀ p∈l,p.n.dg.size<=mostLen/\p.s.size<=1000000:=fun p hp=>by
  have:=(few_iff.1 h).2 p hp
  unfold mostLen
  omega
theorem enc_len {l:List GPart} (h:fewG l=true):(encG l).1.length<=40*2000060:=by
  obtain ⟨h1,h2⟩:=few_iff.1 h
  unfold encG
  split
  · exact Nat.zero_le _
  split
  · rename_i ha
    refine Nat.le_trans (putF_len fun p hp=>⟨all_rt.1 ha p hp,?_⟩) (Nat.mul_le_mul_right _ h1)
    have:=(h2 p hp).1
    omega
  · exact Nat.zero_le _
theorem pa_front {σ:Snap} {ao:Option Addr} {cap n:Nat} {l:List GPart} (H:SlAt σ ao n cap 7 (paRows l)) {k:Nat} (hk:k<=n):SlAt σ ao k cap 7 (paRows (l.take k)):=by
  have hn:l.length=n:=by rw [<-H.len];simp [paRows]
  refine ⟨by simp [paRows];omega,Nat.le_trans hk H.ncap,fun r hr=>⟨(paRows_all _ r hr).1,(paRows_all _ r hr).2.1⟩,?_⟩
  rcases H.at_ with h1 | ⟨ad,h1,h2⟩
  · exact .inl (by omega)
  · refine .inr ⟨ad,h1,fun i r j cc hr hcc=>h2 i r j cc ?_ hcc⟩
    unfold paRows at hr ⊢
    rw [List.map_take,List.getElem?_take] at hr
    split at hr
    · exact hr
    · cases hr
theorem pre_bytes (x y:List UInt8) (h:x.length<=y.length):decide ((⟨(y.take x.length).toArray⟩:ByteArray)=⟨x.toArray⟩)=decide (x <+: y):=by
  rw [Bool.eq_iff_iff,decide_eq_true_eq,decide_eq_true_eq,List.prefix_iff_eq_take]
  exact ⟨fun h=>(toArr_inj h).symm,fun h=>by rw [<-h]⟩
set_option maxRecDepth 100000 in
set_option maxHeartbeats 4000000 in
theorem KeysPrefix_c (σ:Snap) (m:Int) (hm:σ.cell ⟨0,0,none⟩=some (.int .i64 m)) (a:List GPart) (ao:Option Addr) (ac:Nat) (HA:SlAt σ ao a.length ac 7 (paRows a)) (ha:a.length<=140737488355328) (b:List GPart) (bo:Option Addr) (bc:Nat) (HB:SlAt σ bo b.length bc 7 (paRows b)) (hb:b.length<=140737488355328) :
    PureS Tryd.prog 5 [.a (.v (.slice ao a.length ac)),.a (.v (.slice bo b.length bc))] σ (fun v _=>v=.bool true):=by
  refine enter_s Tryd.func5 rfl rfl (by (repeat' (first | exact trivial | constructor))) fun w=>?_
  (repeat (first | refine cj_seq ?_ | refine cjr TT rfl ?_ | refine oj_then ?_))
  refine oj_callS rfl rfl rfl rfl rfl Tryd.call8 trivial (awake09_c σ m hm) fun v s0 hle0 hv=>⟨.a .tt,trivial,hv.symm,?_⟩
  have HA:=HA.mono hle0
  have HB:=HB.mono hle0
  have hm:=hle0.cell hm
  refine oj_run TT rfl ?_
  (repeat (first | refine cj_seq ?_ | refine cjr TT rfl ?_ | refine oj_then ?_))
  refine oj_callP rfl rfl rfl rfl rfl Tryd.call11 (by (repeat' (first | exact trivial | constructor))) (Few_c s0 a ha ao ac HA) fun v hv=>⟨.a (.b (fewG a)),trivial,hv.symm,?_⟩
  refine oj_run TT rfl ?_
  refine oj_split 16 rfl (fun h=>?_) (fun h=>?_)
  · refine oj_run TT rfl ?_
    (repeat (first | refine cj_seq ?_ | refine cjr TT rfl ?_ | refine oj_then ?_ | refine cj_if_t rfl ?_ | refine cj_ret ?_ | refine nj_then_ret ?_))
    refine nj_ret TT rfl fun β w' _ _=>?_
    rfl
  have hfa:fewG a=true:=by simpa using h
  refine oj_run TT rfl ?_
  refine oj_callP rfl rfl rfl rfl rfl Tryd.call11 (by (repeat' (first | exact trivial | constructor))) (Few_c s0 b hb bo bc HB) fun v hv=>⟨.a (.b (fewG b)),trivial,hv.symm,?_⟩
  refine oj_run TT rfl ?_
  (repeat refine oj_then ?_)
  refine cj_if rfl (fun h=>?_) (fun h=>?_)
  · (repeat (first | refine cj_seq ?_ | refine cjr TT rfl ?_ | refine oj_then ?_ | refine cj_ret ?_ | refine nj_then_ret ?_))
    refine nj_ret TT rfl fun β w' _ _=>?_
    rfl
  have hfb:fewG b=true:=by simpa using h
  have hla:=(few_iff.1 hfa).1
  have hlb:=(few_iff.1 hfb).1
  (repeat (first | refine cj_seq ?_ | refine cjr TT rfl ?_ | refine cj_skip ?_ | refine nj_then ?_))
  refine oj_callS rfl rfl rfl rfl rfl Tryd.call13 ⟨trivial,trivial⟩ (ours_c s0 a (by omega) ao ac HA) fun v s1 hle1 ⟨xo,xc,hv,HX⟩=>⟨.a (.v (.slice xo a.length xc)),trivial,hv.symm,?_⟩
  have hm1:=hle1.cell hm
  refine oj_run TT rfl ?_
  refine oj_callS rfl rfl rfl rfl rfl Tryd.call12 ⟨trivial,trivial⟩ (Encode_c s1 m hm1 a ha (few_b hfa) xo xc HX) fun v s2 hle2 ⟨eo,ec,hv,HE⟩=>⟨.tup [.a (.v (.slice eo (encG a).1.length ec)),.a (.v (.int .i64 (encG a).2))],(by (repeat' (first | exact trivial | refine SV.lt_tup ?_ | constructor))),hv.symm,?_⟩
  have hm2:=hle2.cell hm1
  have HB:=HB.mono (Snap.le_trans hle1 hle2)
  have HA:=HA.mono (Snap.le_trans hle1 hle2)
  refine oj_run TT rfl ?_
  (repeat (first | refine cj_seq ?_ | refine cjr TT rfl ?_ | refine oj_then ?_))
  refine oj_callS rfl rfl rfl rfl rfl Tryd.call13 ⟨trivial,trivial⟩ (ours_c s2 b (by omega) bo bc HB) fun v s3 hle3 ⟨yo,yc,hv,HY⟩=>⟨.a (.v (.slice yo b.length yc)),trivial,hv.symm,?_⟩
  have hm3:=hle3.cell hm2
  refine oj_run TT rfl ?_
  refine oj_callS rfl rfl rfl rfl rfl Tryd.call12 ⟨trivial,trivial⟩ (Encode_c s3 m hm3 b hb (few_b hfb) yo yc HY) fun v s4 hle4 ⟨fo,fc,hv,HF⟩=>⟨.tup [.a (.v (.slice fo (encG b).1.length fc)),.a (.v (.int .i64 (encG b).2))],(by (repeat' (first | exact trivial | refine SV.lt_tup ?_ | constructor))),hv.symm,?_⟩
  have hle24:=Snap.le_trans hle3 hle4
  have HB:=HB.mono hle24
  have HA:=HA.mono hle24
  have HE:=HE.mono hle24
  refine oj_run TT rfl ?_
  (repeat (first | refine cj_seq ?_ | refine cjr TT rfl ?_ | refine oj_then ?_))
  have hpre:(encG a).2=0->(encG b).2=0->decide ((encG a).1 <+: (encG b).1)=decide (a <+: b):=by
    intro h1 h2
    have pa:(encG a).1=a.flatMap putG/\∀ p∈a,Rt p:=by
      unfold encG at h1 ⊢
      split
      · rename_i h;rw [if_pos h] at h1;cases h1
      · rename_i h
        rw [if_neg h] at h1
        split
        · rename_i h';exact ⟨rfl,all_rt.1 h'⟩
        · rename_i h';rw [if_neg h'] at h1;cases h1
    have pb:(encG b).1=b.flatMap putG/\∀ p∈b,Rt p:=by
      unfold encG at h2 ⊢
      split
      · rename_i h;rw [if_pos h] at h2;cases h2
      · rename_i h
        rw [if_neg h] at h2
        split
        · rename_i h';exact ⟨rfl,all_rt.1 h'⟩
        · rename_i h';rw [if_neg h'] at h2;cases h2
    rw [Bool.eq_iff_iff,decide_eq_true_eq,decide_eq_true_eq,pa.1,pb.1]
    exact flat_prefix pa.2 pb.2
  have hEl:=enc_len hfa
  have hFl:=enc_len hfb
  refine oj_split 36 rfl (fun h=>?_) (fun h1=>?_)
  · refine oj_run TT rfl ?_
    (repeat (first | refine cj_seq ?_ | refine cjr TT rfl ?_ | refine oj_then ?_ | refine cj_if_t rfl ?_ | refine cj_ret ?_ | refine nj_then_ret ?_))
    refine nj_ret TT rfl fun β w' _ _=>?_
    rfl
  have h1:(encG a).2=0:=by
    have h:(!decide ((encG a).2=0))=false:=h1
    simpa using h
  refine oj_run TT rfl ?_
  (repeat refine oj_then ?_)
  refine cj_if rfl (fun h=>?_) (fun h2=>?_)
  · (repeat (first | refine cj_seq ?_ | refine cjr TT rfl ?_ | refine oj_then ?_ | refine cj_ret ?_ | refine nj_then_ret ?_))
    refine nj_ret TT rfl fun β w' _ _=>?_
    rfl
  have h2:(encG b).2=0:=by
    have h:(!decide ((encG b).2=0))=false:=h2
    simpa using h
  have hpre:=hpre h1 h2
  (repeat (first | refine cj_seq ?_ | refine cj_skip ?_ | refine nj_then ?_))
  generalize (encG a).1=x at *
  generalize (encG b).1=y at *
  refine cj_cutN (fun (_:Unit)=>s4) (fun _=>[(0,.a (.v (.slice ao a.length ac))),(1,.a (.v (.slice bo b.length bc))),(5,.a .tt),(10,.a (.b (decide (x <+: y))))]) (fun _=>[]) (fun _=>[]) 0 (fun _=>True) ?_ (fun _ _=>?_)
  · refine cj_draw [(0,.pure),(1,.pure),(2,.pure),(3,.pure),(4,.pure),(5,.pure),(6,.pure),(7,.pure),(8,.pure),(9,.pure),(10,.quiet),(11,.pure),(12,.quiet),(13,.pure),(14,.pure),(15,.pure)] mixed (by kernel_rfl) (oj_run TT rfl ?_)
    refine oj_split 46 rfl (fun h=>?_) (fun h=>?_)
    · have h:=of_decide_eq_true (show decide ((x.length:Int)<=y.length)=true from h)
      refine oj_run TT rfl ?_
      refine oj_slice_to TT x.length rfl rfl rfl rfl rfl rfl rfl rfl rfl rfl (Nat.le_trans (by omega) HF.ncap) HF.ncap (oj_run TT rfl ?_)
      refine oj_strOf TT rfl rfl rfl rfl rfl rfl rfl rfl rfl rfl rfl rfl (u8_front HF (by omega)) (oj_run TT rfl ?_)
      refine oj_strOf TT rfl rfl rfl rfl rfl rfl rfl rfl rfl rfl rfl rfl HE (oj_run TT rfl ?_)
      (repeat refine oj_nil ?_)
      refine nj_set 10 (.a (.b (decide (x <+: y)))) rfl trivial (fun _=>congrArg Value.bool (pre_bytes x y (by omega))) ?_
      refine nj_again () trivial Nat.zero_lt_one rfl (by (repeat first | exact trivial | refine ⟨rfl,?_⟩)) (by (repeat first | exact trivial | refine ⟨rfl,?_⟩)) rfl (by (repeat' (first | exact trivial | constructor))) (by (repeat' exact trivial))
    · have h:=of_decide_eq_false (show decide ((x.length:Int)<=y.length)=false from h)
      refine oj_run TT rfl ?_
      (repeat refine oj_nil ?_)
      refine nj_set 10 (.a (.b (decide (x <+: y)))) rfl trivial (fun _=>congrArg Value.bool (decide_eq_false fun hp=>h (by have:=hp.length_le;omega)).symm) ?_
      refine nj_again () trivial Nat.zero_lt_one rfl (by (repeat first | exact trivial | refine ⟨rfl,?_⟩)) (by (repeat first | exact trivial | refine ⟨rfl,?_⟩)) rfl (by (repeat' (first | exact trivial | constructor))) (by (repeat' exact trivial))
  rw [hpre]
  (repeat (first | refine cj_seq ?_ | refine cjr TT rfl ?_))
  refine oj_split 61 rfl (fun h=>?_) (fun h=>?_)
  · have h:=of_decide_eq_true (show decide ((a.length:Int)<=b.length)=true from h)
    have hlt:(b.take a.length).length=a.length:=by rw [List.length_take];omega
    have hs:=Same_c s4 a (b.take a.length) ha ao ac HA bo bc (by rw [hlt];exact pa_front HB (by omega))
    rw [hlt] at hs
    refine oj_run TT rfl ?_
    refine oj_mm rfl rfl rfl rfl rfl rfl rfl ?_
    refine oj_set 68 (.a (.v (.int .i64 a.length))) rfl trivial (fun _=>congrArg (Value.int .i64) (by show (if (b.length:Int)<a.length then (b.length:Int) else a.length)=a.length;rw [if_neg (by omega)])) (oj_run TT rfl ?_)
    refine oj_slice_to TT a.length rfl rfl rfl rfl rfl rfl rfl rfl rfl rfl (Nat.le_trans (by omega) HB.ncap) HB.ncap (oj_run TT rfl ?_)
    refine oj_callP rfl rfl rfl rfl rfl Tryd.call14 (by (repeat' (first | exact trivial | constructor))) hs fun v hv=>⟨.a (.b (decide (a=b.take a.length))),trivial,hv.symm,?_⟩
    refine oj_run TT rfl ?_
    (repeat (first | refine cj_seq ?_ | refine cjr TT rfl ?_ | refine oj_then ?_ | refine cj_ret ?_))
    refine nj_ret TT rfl fun β w' _ _=>?_
    show Value.bool (decide (a <+: b) == decide (a=b.take a.length))=_
    have e:decide (a <+: b)=decide (a=b.take a.length):=by rw [Bool.eq_iff_iff,decide_eq_true_eq,decide_eq_true_eq,List.prefix_iff_eq_take]
    rw [e,beq_self_eq_true]
  · have h:=of_decide_eq_false (show decide ((a.length:Int)<=b.length)=false from h)
    refine oj_run TT rfl ?_
    (repeat (first | refine cj_seq ?_ | refine cjr TT rfl ?_ | refine oj_then ?_ | refine cj_ret ?_))
    refine nj_ret TT rfl fun β w' _ _=>?_
    show Value.bool (decide (a <+: b) == false)=_
    rw [decide_eq_false fun hp=>h (by have:=hp.length_le;omega)]
    rfl
end Go.Sy
/- From a row's data to what the walks ask: a value that is read in the world is a tree that lies in memory, all of it sealed. -/
namespace Go.Sy
open Go.ChangeShapes Go.RowKit
def snapOf (W:World):Snap:=fun b=>W.heap[b]?
theorem snapOf_sealed (W:World):Sealed (snapOf W) W:=fun _ _ h=>h
theorem snapOf_cell (W:World) (a:Addr):(snapOf W).cell a=W.cell? a:=rfl
structure VT (P:Program) (tV tL tM tE tD tS tI tB:TypeId):Prop where
  v:∃ fs:Array Field,P.underlying tV=some (.struct fs)/\fs.toList.map (fun f=>(f.type,f.offset))=[(tI,0),(tB,1),(tD,2),(tS,5),(tL,6),(tM,7)]
  l:P.underlying tL=some (.slice tV)
  m:P.underlying tM=some (.slice tE)
  e:∃ fs:Array Field,P.underlying tE=some (.struct fs)/\fs.toList.map (fun f=>(f.type,f.offset))=[(tS,0),(tV,1)]
  d:∃ fs:Array Field,P.underlying tD=some (.struct fs)/\fs.toList.map (fun f=>(f.type,f.offset))=[(tB,0),(tS,1),(tI,2)]
  s:P.underlying tS=some .string
  i:P.underlying tI=some (.int .i64)
  b:P.underlying tB=some .bool
  cV:P.cellsOf tV=8
  cE:P.cellsOf tE=9
  cD:P.cellsOf tD=3
  cS:P.cellsOf tS=1
  cI:P.cellsOf tI=1
  cB:P.cellsOf tB=1
  cL:P.cellsOf tL=1
  cM:P.cellsOf tM=1
  bV:0<P.bytesOf tV
  bE:0<P.bytesOf tE
section
variable {H:Type} {enc:TypeId×Value->H} {P:Program} {w:World} {sp:Nat->Bool} {held:Bool}
theorem field_at {fs:Array Field} {l:List (TypeId×Nat)} (h:fs.toList.map (fun f=>(f.type,f.offset))=l) {i:Nat} {t:TypeId} {o:Nat} (hi:l[i]?=some (t,o)) :
    ∃ f,fs[i]?=some f/\f.type=t/\f.offset=o:=by
  subst h
  rw [List.getElem?_map] at hi
  simp only [Option.map_eq_some_iff,Prod.mk.injEq] at hi
  obtain ⟨f,h1,h2,h3⟩:=hi
  exact ⟨f,by simpa using h1,h2,h3⟩
theorem open_struct {t:TypeId} {fs:Array Field} {l:List (TypeId×Nat)} {n:Nat} {cs:List Value} {x:DataW H×List MemPlace} (hu:P.underlying t=some (.struct fs)) (hl:fs.toList.map (fun f=>(f.type,f.offset))=l)
    (h:DataW.trod enc P w 0 sp held n t cs=some x) :
    ∃ m,m<n/\cs.length=P.cellsOf t/\∀ (i:Nat) (u:TypeId) (o:Nat),l[i]?=some (u,o)->∃ y:DataW H×List MemPlace,DataW.trod enc P w 0 sp held m u ((cs.drop o).take (P.cellsOf u))=some y/\∀ k∈y.1.weights P u,k∈x.1.weights P t:=by
  obtain ⟨xs,m,rfl,rfl,h1,h2,h3⟩:=DataW.trod_struct hu h
  refine ⟨m,by omega,h1,fun i u o hi=>?_⟩
  obtain ⟨f,hf,rfl,rfl⟩:=field_at hl hi
  have hi':i<xs.length:=by
    rw [h2]
    have:=(List.getElem?_eq_some_iff.1 (show fs.toList[i]?=some f by simpa using hf)).1
    simpa using this
  refine ⟨xs[i],by rw [h3 i f hf,List.getElem?_eq_getElem hi'],fun k hk=>?_⟩
  rw [DataW.weights.eq_def]
  simp only [hu]
  exact DataW.weights_mem_each (j:=i) (t:=f.type) (d:=xs[i].1) (by simp;exact ⟨f,by simpa using hf,rfl⟩) (by simp [List.getElem?_eq_getElem hi']) k hk
theorem weightsAll_mem {e:TypeId}:∀ {ds:List (DataW H)} {d:DataW H},d∈ds->∀ k∈d.weights P e,k∈DataW.weightsAll P e ds
  | _::_,_,.head _,k,hk=>by rw [DataW.weightsAll];exact List.mem_append_left _ hk
  | _::_,_,.tail _ h,k,hk=>by rw [DataW.weightsAll];exact List.mem_append_right _ (weightsAll_mem h k hk)
theorem open_sl {t e:TypeId} {n sz:Nat} {c:Value} {x:DataW H×List MemPlace} (hu:P.underlying t=some (.slice e)) (hc:P.cellsOf e=sz) (hb:0<P.bytesOf e) (h:DataW.trod enc P w 0 sp held n t [c]=some x)
    (hw:∀ k∈x.1.weights P t,k<=reachBytes) :
    ∃ (ao:Option Addr) (len cap m:Nat),c=.slice ao len cap/\m<n/\len<=cap/\len<=reachBytes /\
      (len=0\/∃ a,ao=some a/\∀ i,i<len->∃ (cs:List Value) (y:DataW H×List MemPlace),cs.length=sz/\(∀ j v,cs[j]?=some v->w.cell? (a.add (i*sz+j))=some v) /\
        DataW.trod enc P w 0 sp held m e cs=some y/\∀ k∈y.1.weights P e,k∈x.1.weights P t):=by
  rcases DataW.trod_slice hu h with ⟨h1,rfl⟩ | ⟨a,len,cap,elems,rest,m,rfl,h1,rfl,_,h3,h4,h5,h6,_,_⟩
  · injection h1 with h1
    subst h1
    refine ⟨none,0,0,0,rfl,?_,Nat.le_refl _,by decide,.inl rfl⟩
    cases n with
    | zero=>simp [DataW.trod] at h
    | succ n=>omega
  · injection h1 with h1
    subst h1
    have hwt:(DataW.slice (elems.map (·.1)) (rest.map (·.1)):DataW H).weights P t=((elems.map (·.1)).length+(rest.map (·.1)).length)*P.bytesOf e::(DataW.weightsAll P e (elems.map (·.1))++DataW.weightsAll P e (rest.map (·.1))):=by
      rw [DataW.weights.eq_def]
      simp only [hu]
    refine ⟨some a,len,cap,m,rfl,by omega,h3,?_,.inr ⟨a,rfl,fun i hi=>?_⟩⟩
    · have:=hw _ (by rw [hwt];exact List.mem_cons_self)
      simp only [List.length_map] at this
      have h7:elems.length<=(elems.length+rest.length)*P.bytesOf e:=Nat.le_trans (Nat.le_add_right _ _) (Nat.le_mul_of_pos_right _ hb)
      omega
    · have hi':i<elems.length:=by omega
      have h8:=h6 i hi
      rw [List.getElem?_eq_getElem hi',hc] at h8
      obtain ⟨cs,h9,h10⟩:=Option.bind_eq_some_iff.1 h8
      obtain ⟨_,h11,h12⟩:=World.cells?_some h9
      refine ⟨cs,elems[i],h11,fun j v hj=>?_,h10,fun k hk=>?_⟩
      · have hj':j<sz:=by rw [<-h11];exact (List.getElem?_eq_some_iff.1 hj).1
        have:=h12 j hj'
        rw [hj] at this
        rw [<-this]
        congr 1
        exact (Addr.add_add _ _ _).symm
      · rw [hwt]
        exact List.mem_cons_of_mem _ (List.mem_append_left _ (weightsAll_mem (List.mem_map.2 ⟨elems[i],List.getElem_mem hi',rfl⟩) k hk))
theorem RepL.range {σ:Snap} {G:Nat->GVal} {R:Nat->List AT}:∀ l:List Nat,(∀ i∈l,RepV σ (G i) (R i))->RepL σ (l.map G) (l.map R)
  | [],_=>by simp [RepL]
  | a::l,h=>by
    simp only [List.map_cons,RepL]
    exact ⟨R a,l.map R,rfl,h a List.mem_cons_self,RepL.range l fun i hi=>h i (List.mem_cons_of_mem _ hi)⟩
theorem keyRows_range (K:Nat->ByteArray) (R:Nat->List AT):∀ l:List Nat,keyRows (l.map K) (l.map R)=l.map fun i=>keyRow (K i) (R i)
  | []=>rfl
  | a::l=>by simp [keyRows,keyRows_range K R l]
theorem slAt_range {ao:Option Addr} {len cap sz:Nat} {R:Nat->List AT} (h1:len<=cap) (h2:∀ i,i<len->(R i).length=sz/\∀ c∈R i,c.lt 0)
    (h3:len=0\/∃ a,ao=some a/\∀ i,i<len->∀ j v,((R i).map (AT.den β0))[j]?=some v->w.cell? (a.add (i*sz+j))=some v):SlAt (snapOf w) ao len cap sz ((List.range len).map R):=by
  refine ⟨by simp,h1,fun r hr=>?_,?_⟩
  · obtain ⟨i,hi,rfl⟩:=List.mem_map.1 hr
    exact h2 i (List.mem_range.1 hi)
  · rcases h3 with h3 | ⟨a,h3,h4⟩
    · exact .inl h3
    · refine .inr ⟨a,h3,fun i r j c hr hc=>?_⟩
      rw [List.getElem?_map] at hr
      obtain ⟨i',h5,rfl⟩:=Option.map_eq_some_iff.1 hr
      obtain ⟨h6,h7⟩:=List.getElem?_eq_some_iff.1 h5
      have h8:i<len:=by simpa using h6
      have h9:i'=i:=by simpa using h7.symm
      subst h9
      rw [snapOf_cell]
      exact h4 i' h8 j _ (by rw [List.getElem?_map,hc];rfl)
variable {tV tL tM tE tD tS tI tB:TypeId}
theorem open_str {n:Nat} {t:TypeId} {c:Value} {x:DataW H×List MemPlace} (hu:P.underlying t=some .string) (h:DataW.trod enc P w 0 sp held n t [c]=some x) (hw:∀ k∈x.1.weights P t,k<=reachBytes) :
    ∃ s:ByteArray,c=.string s/\s.size<=mostLen:=by
  obtain ⟨s,h1,rfl,_⟩:=DataW.trod_string hu h
  injection h1 with h1
  subst h1
  refine ⟨s,rfl,?_⟩
  have:=hw s.data.toList.length (by rw [DataW.weights.eq_def];exact List.mem_cons_self)
  have h2:s.data.toList.length=s.size:=rfl
  rw [h2] at this
  exact this
theorem open_val (T:VT P tV tL tM tE tD tS tI tB):∀ (n:Nat) (cs:List Value) (x:DataW H×List MemPlace),DataW.trod enc P w 0 sp held n tV cs=some x->(∀ k∈x.1.weights P tV,k<=reachBytes) ->
    ∃ (g:GVal) (r:List AT),cs=r.map (AT.den β0)/\RepV (snapOf w) g r:=by
  intro n
  induction n using Nat.strongRecOn with
  | _ n ih=>?_
  intro cs x h hw
  obtain ⟨fs,hu,hl⟩:=T.v
  obtain ⟨m,hm,hlen,hf⟩:=open_struct hu hl h
  rw [T.cV] at hlen
  match cs,hlen with
  | [c0,c1,c2,c3,c4,c5,c6,c7],_ =>
  obtain ⟨y0,h0,_⟩:=hf 0 tI 0 rfl
  obtain ⟨y1,h1,_⟩:=hf 1 tB 1 rfl
  obtain ⟨y2,h2,w2⟩:=hf 2 tD 2 rfl
  obtain ⟨y3,h3,w3⟩:=hf 3 tS 5 rfl
  obtain ⟨y4,h4,w4⟩:=hf 4 tL 6 rfl
  obtain ⟨y5,h5,w5⟩:=hf 5 tM 7 rfl
  rw [T.cI] at h0
  rw [T.cB] at h1
  rw [T.cD] at h2
  rw [T.cS] at h3
  rw [T.cL] at h4
  rw [T.cM] at h5
  simp only [List.drop_zero,List.drop_succ_cons,List.take_succ_cons,List.take_zero] at h0 h1 h2 h3 h4 h5
  obtain ⟨k,e0,-,-⟩:=DataW.trod_int T.i h0
  obtain ⟨b,e1,-⟩:=DataW.trod_bool T.b h1
  obtain ⟨s,e5,hs⟩:=open_str T.s h3 fun k hk=>hw k (w3 k hk)
  obtain ⟨fd,hud,hld⟩:=T.d
  obtain ⟨md,hmd,-,hfd⟩:=open_struct hud hld h2
  obtain ⟨z0,g0,_⟩:=hfd 0 tB 0 rfl
  obtain ⟨z1,g1,v1⟩:=hfd 1 tS 1 rfl
  obtain ⟨z2,g2,_⟩:=hfd 2 tI 2 rfl
  rw [T.cB] at g0
  rw [T.cS] at g1
  rw [T.cI] at g2
  simp only [List.drop_zero,List.drop_succ_cons,List.take_succ_cons,List.take_zero] at g0 g1 g2
  obtain ⟨ng,e2,-⟩:=DataW.trod_bool T.b g0
  obtain ⟨dg,e3,hdg⟩:=open_str T.s g1 fun k hk=>hw k (w2 k (v1 k hk))
  obtain ⟨ex,e4,-,-⟩:=DataW.trod_int T.i g2
  injection e0 with e0
  injection e1 with e1
  injection e2 with e2
  injection e4 with e4
  subst e0 e1 e2 e3 e4 e5
  obtain ⟨la,ll,lc,ml,rfl,hml,hll,hlr,hle⟩:=open_sl T.l T.cV T.bV h4 fun k hk=>hw k (w4 k hk)
  obtain ⟨ma,lm,mc,mm,rfl,hmm,hlm,hmr,hme⟩:=open_sl T.m T.cE T.bE h5 fun k hk=>hw k (w5 k hk)
  have HL:∀ i,∃ gr:GVal×List AT,i<ll->RepV (snapOf w) gr.1 gr.2/\∀ a,la=some a->∀ j v,(gr.2.map (AT.den β0))[j]?=some v->w.cell? (a.add (i*8+j))=some v:=by
    intro i
    by_cases hi:i<ll
    · rcases hle with h0 | ⟨a,rfl,hle⟩
      · omega
      · obtain ⟨cs,y,_,q2,q3,q4⟩:=hle i hi
        obtain ⟨g,r,rfl,hr⟩:=ih ml (by omega) cs y q3 fun k hk=>hw k (w4 k (q4 k hk))
        exact ⟨(g,r),fun _=>⟨hr,fun a' ha=>by injection ha with ha;subst ha;exact q2⟩⟩
    · exact ⟨(.mk 0 false ⟨false,⟨#[]⟩,0⟩ ⟨#[]⟩ [] [] [],[]),fun h=>absurd h hi⟩
  have HM:∀ i,∃ gr:ByteArray×GVal×List AT,i<lm->gr.1.size<=mostLen/\RepV (snapOf w) gr.2.1 gr.2.2/\∀ a,ma=some a->∀ j v,((keyRow gr.1 gr.2.2).map (AT.den β0))[j]?=some v->w.cell? (a.add (i*9+j))=some v:=by
    intro i
    by_cases hi:i<lm
    · rcases hme with h0 | ⟨a,rfl,hme⟩
      · omega
      · obtain ⟨cs,y,q1,q2,q3,q4⟩:=hme i hi
        obtain ⟨fe,hue,hle'⟩:=T.e
        obtain ⟨me,hme',-,hfe⟩:=open_struct hue hle' q3
        obtain ⟨u0,p0,x0⟩:=hfe 0 tS 0 rfl
        obtain ⟨u1,p1,x1⟩:=hfe 1 tV 1 rfl
        rw [T.cS] at p0
        rw [T.cV] at p1
        match cs,q1 with
        | c::cs',q1 =>
          simp only [List.drop_zero,List.drop_succ_cons,List.take_succ_cons,List.take_zero] at p0 p1
          rw [List.take_of_length_le (by simp at q1;omega)] at p1
          obtain ⟨key,rfl,hk⟩:=open_str T.s p0 fun k hk=>hw k (w5 k (q4 k (x0 k hk)))
          obtain ⟨g,r,rfl,hr⟩:=ih me (by omega) cs' u1 p1 fun k hk=>hw k (w5 k (q4 k (x1 k hk)))
          exact ⟨(key,g,r),fun _=>⟨hk,hr,fun a' ha=>by injection ha with ha;subst ha;exact q2⟩⟩
    · exact ⟨(⟨#[]⟩,.mk 0 false ⟨false,⟨#[]⟩,0⟩ ⟨#[]⟩ [] [] [],[]),fun h=>absurd h hi⟩
  obtain ⟨FL,HL⟩:=Classical.axiomOfChoice HL
  obtain ⟨FM,HM⟩:=Classical.axiomOfChoice HM
  refine ⟨.mk k b ⟨ng,dg,ex⟩ s ((List.range ll).map fun i=>(FL i).1) ((List.range lm).map fun i=>(FM i).1) ((List.range lm).map fun i=>(FM i).2.1),
    [.v (.int .i64 k),.b b,.b ng,.v (.string dg),.v (.int .i64 ex),.v (.string s),.v (.slice la ll lc),.v (.slice ma lm mc)],rfl,?_⟩
  simp only [RepV]
  refine ⟨la,lc,(List.range ll).map fun i=>(FL i).2,ma,mc,(List.range lm).map fun i=>(FM i).2.2,by simp,?_,RepL.range _ fun i hi=>(HL i (List.mem_range.1 hi)).1,by simp,?_,RepL.range _ fun i hi=>(HM i (List.mem_range.1 hi)).2.1,hdg,hs,by simpa [mostLen,reachBytes] using hlr,by simpa [mostLen,reachBytes] using hmr,?_⟩
  · simp only [List.length_map,List.length_range]
    refine slAt_range hll (fun i hi=>⟨(HL i hi).1.len,(HL i hi).1.clo⟩) ?_
    rcases hle with h0 | ⟨a,rfl,_⟩
    · exact .inl h0
    · exact .inr ⟨a,rfl,fun i hi=>(HL i hi).2 a rfl⟩
  · rw [keyRows_range]
    simp only [List.length_map,List.length_range]
    refine slAt_range hlm (fun i hi=>⟨by simp [keyRow,(HM i hi).2.1.len],fun c hc=>?_⟩) ?_
    · cases hc with
      | head=>trivial
      | tail _ hc=>exact (HM i hi).2.1.clo c hc
    · rcases hme with h0 | ⟨a,rfl,_⟩
      · exact .inl h0
      · exact .inr ⟨a,rfl,fun i hi=>(HM i hi).2.2 a rfl⟩
  · intro key hk
    obtain ⟨i,hi,rfl⟩:=List.mem_map.1 hk
    exact (HM i (List.mem_range.1 hi)).1
end
end Go.Sy
/- The closing of a law's row, alike from law to law. -/
namespace Go.Sy
open Go.ChangeShapes Go.RowKit
section
variable {H:Type} {enc:TypeId×Value->H} {P:Program} {W W':World} {sp:Nat->Bool}
theorem trodAll_stays {T:TypeId->Prop} (K:_root_.Go.Kids P T) (hz:∀ t e,T t->P.underlying t=some (.slice e)->0<P.cellsOf e) :
    ∀ {ts:List TypeId} {vs:List Value} {ds:List (DataW H)} {ps:List MemPlace},(∀ t∈ts,T t)->DataW.TrodAll enc P W 0 (fun _=>true) true ts vs ds ps ->
      (∀ p∈ps,W.sameAt W' p)->(∀ p∈ps,sp p.block=true)->DataW.TrodAll enc P W' 0 sp true ts vs ds ps
  | [],[],[],_,_,h,_,_=>h
  | _::_,_::_,_::_,_,hT,⟨p,q,⟨n,h1⟩,h2,e⟩,hs,hb =>
    ⟨p,q,⟨n,DataW.trod_stays K (fun ht hu=>hz _ _ ht hu) (fun h=>by cases h) (hT _ List.mem_cons_self) h1 (fun x hx=>hs x (by rw [e];exact List.mem_append_left _ hx)) (fun x hx=>hb x (by rw [e];exact List.mem_append_left _ hx))⟩,
      trodAll_stays K hz (fun t ht=>hT t (List.mem_cons_of_mem _ ht)) h2 (fun x hx=>hs x (by rw [e];exact List.mem_append_right _ hx)) (fun x hx=>hb x (by rw [e];exact List.mem_append_right _ hx)),e⟩
theorem below_of_fr {M:Nat->Prop} {w w':World} (h:Fr M w w') (hM:∀ b,¬ M b):Below w.heap.size w w':=⟨h.os,h.tape,h.output,h.size,fun k hk=>h.block k hk (hM k)⟩
theorem post_of_law {f:Func} {s:ChangeSpec} {apart fresh handsOn again:Bool} {args:Array Value} {ds gs:List (DataW H)} {before:List MemPlace} {tB:TypeId}
    (hl:laidOutB P=true) (hm:mapsRowed P=true) (hz:∀ t e,t<P.types.size->P.underlying t=some (.slice e)->0<P.cellsOf e)
    (hts:∀ t∈f.params.toList,t<P.types.size) (hr:f.resultTypes=#[tB]) (hB:P.underlying tB=some .bool) (hv:s.vars=[])
    (hres:(s.fn H (ds++gs)).results=[.lit (.bool true)]) (hargs:(s.fn H (ds++gs)).args=ds) (hvars:(s.fn H (ds++gs)).vars=[])
    (hW:DataW.Whole enc P f.params.toList s.vars apart W args.toList ds gs before) (hb:Below W.heap.size W W') :
    s.post enc P f apart fresh handsOn again W args (.bool true) W':=by
  have hW':=hW
  obtain ⟨p,q,hA,hV,rfl,hfz,hnd⟩:=hW
  rw [hv] at hV
  obtain ⟨rfl,rfl⟩:=trodVars_none hV
  have hlt:∀ x∈p++([]:List MemPlace),x.block<W.heap.size:=fun x hx=>hW'.lt x hx
  have h1:∀ (b:Nat) (sp:Nat->Bool) (hd:Bool),DataW.TrodAll enc P W' b sp hd f.resultTypes.toList ((Value.bool true).resultList f.resultTypes.size) (s.fn H (ds++[])).results []:=by
    intro b sp hd
    rw [hr,hres]
    exact trodAll_mk1 (shut_bool hB true)
  have h2:∀ sp:Nat->Bool,(∀ x∈p++([]:List MemPlace),sp x.block=true)->DataW.TrodAll enc P W' 0 sp true f.params.toList args.toList (s.fn H (ds++[])).args p:=by
    intro sp hs
    rw [hargs]
    exact trodAll_stays (T:=(·<P.types.size)) (kids_rows hl hm) hz hts hA (fun x hx=>hb.same (hlt x (List.mem_append_left _ hx))) (fun x hx=>hs x (List.mem_append_left _ hx))
  have h3:∀ sp:Nat->Bool,DataW.TrodVars enc P W' sp s.vars (s.fn H (ds++[])).vars []:=by
    intro sp
    rw [hv,hvars]
    rfl
  have hold:∀ x∈p++([]:List MemPlace),(fun b=>decide (b<W.heap.size)) x.block=true:=fun x hx=>by simpa using hlt x hx
  refine ⟨ds,[],_,[],p,[],hW',h1 _ _ _,h2 _ hold,h3 _,hb.frame _,fun _=>⟨ok_one hr rfl (okWide_bool_mk hB _),_,_,([]++p)++[],⟨[]++p,[],trodAll_append (h2 _ (fun _ _=>rfl)) (h1 _ _ _),h3 _,rfl,?_,?_⟩,?_⟩⟩
  · intro b off hp
    have hp':MemPlace.cell b off∈p++([]:List MemPlace):=by simpa using hp
    rw [hb.frozen (p:=⟨b,off,none⟩) (hlt _ hp')]
    exact hfz b off hp'
  · intro ha
    have:=hnd ha
    simpa using this
  · intro x hp _
    simpa using hp
theorem okWide_agg {tV tL tM tE tD tS tI tB:TypeId} (T:VT P tV tL tM tE tD tS tI tB) {r:Reach} {base:Nat} {v:Value} (h:Value.okWide P W r base tV v):∃ cs:Array Value,v=.agg cs/\cs.size=P.cellsOf tV:=by
  obtain ⟨fs,hu,_⟩:=T.v
  unfold Value.okWide at h
  rw [hu] at h
  obtain ⟨cs,h1,h2,_⟩:=h
  exact ⟨cs,h1,h2⟩
theorem okWide_str {t:TypeId} (T:∃ fs,P.underlying t=some (.struct fs)) {r:Reach} {base:Nat} {v:Value} (h:Value.okWide P W r base t v):∃ (fs:Array Field) (_:P.underlying t=some (.struct fs)) (cs:Array Value),v=.agg cs/\cs.size=P.cellsOf t:=by
  obtain ⟨fs,hu⟩:=T
  unfold Value.okWide at h
  rw [hu] at h
  obtain ⟨cs,h1,h2,_⟩:=h
  exact ⟨fs,hu,cs,h1,h2⟩
theorem weights_le {ts:List TypeId} {ds:List (DataW H)} (h:(DataW.weightsEach P ts ds).all (·<=reachBytes)=true) {j:Nat} {t:TypeId} {d:DataW H} (ht:ts[j]?=some t) (hd:ds[j]?=some d):∀ k∈d.weights P t,k<=reachBytes:=by
  intro k hk
  have:=List.all_eq_true.1 h k (DataW.weights_mem_each ht hd k hk)
  simpa using this
end
end Go.Sy
/- Closed facts of the program that every row's closing asks. -/
namespace Go.Proofs.YtlonlnagmfdlbaaDoor.Row
open Go Go.Proofs Go.Sy Go.ChangeShapes Go.WideShapes Go.ChangeAt Go.RowKit
set_option maxRecDepth 100000
theorem own:ownKnob Tryd.prog.godebug=none:=by kernel_rfl
theorem laidOut:laidOutB Tryd.prog=true:=by kernel_rfl
theorem rowed:mapsRowed Tryd.prog=true:=by kernel_rfl
theorem full:∀ t e,t<Tryd.prog.types.size->Tryd.prog.underlying t=some (.slice e)->0<Tryd.prog.cellsOf e:=slices_full_of Tryd.prog (by kernel_rfl)
theorem vt:VT Tryd.prog 44 41 42 139 40 9 3 4 where
  v:=⟨_,Tryd.underlying44,rfl⟩
  l:=by kernel_rfl
  m:=by kernel_rfl
  e:=⟨_,Tryd.underlying139,rfl⟩
  d:=⟨_,Tryd.underlying40,rfl⟩
  s:=by kernel_rfl
  i:=by kernel_rfl
  b:=by kernel_rfl
  cV:=by kernel_rfl
  cE:=by kernel_rfl
  cD:=by kernel_rfl
  cS:=by kernel_rfl
  cI:=by kernel_rfl
  cB:=by kernel_rfl
  cL:=by kernel_rfl
  cM:=by kernel_rfl
  bV:=of_decide_eq_true (by kernel_rfl)
  bE:=of_decide_eq_true (by kernel_rfl)
theorem farLen (w:World) (h:w.ShapedOpen Tryd.prog):∃ m,w.cell? ⟨0,0,none⟩=some (.int .i64 m):=Go.Proofs.cell_of_shapedOpen_int (zero:=#[.int .i64 0]) (t:=3) h (of_decide_eq_true (by kernel_rfl)) (by kernel_rfl) rfl (by kernel_rfl) (by kernel_rfl) Tryd.underlying3
end Go.Proofs.YtlonlnagmfdlbaaDoor.Row
/- More of what rows hand in: lists, and bytes. No program in sight. -/
namespace Go.Sy
open Go.ChangeShapes Go.RowKit
section
variable {H:Type} {enc:TypeId×Value->H} {P:Program} {w:World} {sp:Nat->Bool} {held:Bool}
theorem open_listK {α:Type} {t e:TypeId} {n sz:Nat} {c:Value} {x:DataW H×List MemPlace} (cells:α->List AT) (ok:α->Prop) (a0:α) (hu:P.underlying t=some (.slice e)) (hc:P.cellsOf e=sz) (hb:0<P.bytesOf e)
    (h:DataW.trod enc P w 0 sp held n t [c]=some x) (hw:∀ k∈x.1.weights P t,k<=reachBytes) (hcl:∀ a,ok a->(cells a).length=sz/\∀ c∈cells a,c.lt 0)
    (hel:∀ (m:Nat) (cs:List Value) (y:DataW H×List MemPlace),cs.length=sz->DataW.trod enc P w 0 sp held m e cs=some y->(∀ k∈y.1.weights P e,k<=reachBytes)->∃ a,ok a/\cs=(cells a).map (AT.den β0)) :
    ∃ (ao:Option Addr) (cap:Nat) (l:List α),c=.slice ao l.length cap/\SlAt (snapOf w) ao l.length cap sz (l.map cells)/\(∀ a∈l,ok a)/\l.length<=reachBytes:=by
  obtain ⟨ao,len,cap,m,rfl,-,hlc,hlr,hle⟩:=open_sl hu hc hb h hw
  have HF:∀ i,∃ a:α,i<len->ok a/\∀ ad,ao=some ad->∀ j v,((cells a).map (AT.den β0))[j]?=some v->w.cell? (ad.add (i*sz+j))=some v:=by
    intro i
    by_cases hi:i<len
    · rcases hle with h0 | ⟨ad,rfl,hle⟩
      · omega
      · obtain ⟨cs,y,q1,q2,q3,q4⟩:=hle i hi
        obtain ⟨a,ha,rfl⟩:=hel m cs y q1 q3 fun k hk=>hw k (q4 k hk)
        exact ⟨a,fun _=>⟨ha,fun a' ha'=>by injection ha' with ha';subst ha';exact q2⟩⟩
    · exact ⟨a0,fun h=>absurd h hi⟩
  obtain ⟨F,HF⟩:=Classical.axiomOfChoice HF
  refine ⟨ao,cap,(List.range len).map F,by simp,?_,fun a ha=>?_,by simpa using hlr⟩
  · rw [List.map_map,List.length_map,List.length_range]
    refine slAt_range (R:=cells ∘ F) hlc (fun i hi=>hcl _ (HF i hi).1) ?_
    rcases hle with h0 | ⟨ad,rfl,_⟩
    · exact .inl h0
    · exact .inr ⟨ad,rfl,fun i hi=>(HF i hi).2 ad rfl⟩
  · obtain ⟨i,hi,rfl⟩:=List.mem_map.1 ha
    exact (HF i (List.mem_range.1 hi)).1
theorem open_u8L {t e:TypeId} {n:Nat} {c:Value} {x:DataW H×List MemPlace} (hu:P.underlying t=some (.slice e)) (he:P.underlying e=some (.int .u8)) (hc:P.cellsOf e=1) (hb:0<P.bytesOf e)
    (h:DataW.trod enc P w 0 sp held n t [c]=some x) (hw:∀ k∈x.1.weights P t,k<=reachBytes) :
    ∃ (ao:Option Addr) (cap:Nat) (l:List UInt8),c=.slice ao l.length cap/\SlAt (snapOf w) ao l.length cap 1 (u8Rows l)/\l.length<=140737488355328:=by
  obtain ⟨ao,cap,l,h1,h2,_,h4⟩:=open_listK (fun u:UInt8=>[.v (.int .u8 u.toNat)]) (fun _=>True) 0 hu hc hb h hw (fun a _=>⟨rfl,fun c hc=>by rw [List.mem_singleton] at hc;subst hc;trivial⟩) fun m cs y hl hy hk=>by
    obtain ⟨k,rfl,-,hwf⟩:=DataW.trod_int he hy
    have hwf':(decide ((0:Int)<=k)&&decide (k<=255))=true:=hwf
    have hr:0<=k/\k<=255:=by rw [Bool.and_eq_true,decide_eq_true_eq,decide_eq_true_eq] at hwf';exact hwf'
    refine ⟨UInt8.ofNat k.toNat,trivial,?_⟩
    show [Value.int .u8 k]=[Value.int .u8 ((UInt8.ofNat k.toNat).toNat:Int)]
    rw [UInt8.toNat_ofNat']
    congr 2
    omega
  exact ⟨ao,cap,l,h1,h2,Nat.le_trans h4 (by decide)⟩
end
end Go.Sy
/- Lists of parts that are handed in. -/
namespace Go.Sy
open Go.ChangeShapes Go.RowKit
section
variable {H:Type} {enc:TypeId×Value->H} {P:Program} {w:World} {sp:Nat->Bool} {held:Bool} {tV tL tM tE tD tS tI tB:TypeId}
theorem open_part {tR:TypeId} {n:Nat} {cs:List Value} {x:DataW H×List MemPlace} {fs:Array Field} (T:VT P tV tL tM tE tD tS tI tB) (hu:P.underlying tR=some (.struct fs))
    (hl:fs.toList.map (fun f=>(f.type,f.offset))=[(tI,0),(tB,1),(tD,2),(tS,5),(tI,6)]) (cR:P.cellsOf tR=7)
    (h:DataW.trod enc P w 0 sp held n tR cs=some x) (hw:∀ k∈x.1.weights P tR,k<=reachBytes):∃ r:GPart,True/\cs=(paCells r).map (AT.den β0):=by
  obtain ⟨m,hm,hlen,hf⟩:=open_struct hu hl h
  rw [cR] at hlen
  match cs,hlen with
  | [c0,c1,c2,c3,c4,c5,c6],_ =>
  obtain ⟨y0,h0,_⟩:=hf 0 tI 0 rfl
  obtain ⟨y1,h1,_⟩:=hf 1 tB 1 rfl
  obtain ⟨y2,h2,w2⟩:=hf 2 tD 2 rfl
  obtain ⟨y3,h3,w3⟩:=hf 3 tS 5 rfl
  obtain ⟨y4,h4,_⟩:=hf 4 tI 6 rfl
  rw [T.cI] at h0 h4
  rw [T.cB] at h1
  rw [T.cS] at h3
  rw [T.cD] at h2
  simp only [List.drop_zero,List.drop_succ_cons,List.take_succ_cons,List.take_zero] at h0 h1 h2 h3 h4
  obtain ⟨kd,e0,-,-⟩:=DataW.trod_int T.i h0
  obtain ⟨b,e1,-⟩:=DataW.trod_bool T.b h1
  obtain ⟨s,e5,_⟩:=open_str T.s h3 fun k hk=>hw k (w3 k hk)
  obtain ⟨i,e6,-,-⟩:=DataW.trod_int T.i h4
  obtain ⟨fd,hud,hld⟩:=T.d
  obtain ⟨md,hmd,-,hfd⟩:=open_struct hud hld h2
  obtain ⟨z0,g0,_⟩:=hfd 0 tB 0 rfl
  obtain ⟨z1,g1,v1⟩:=hfd 1 tS 1 rfl
  obtain ⟨z2,g2,_⟩:=hfd 2 tI 2 rfl
  rw [T.cB] at g0
  rw [T.cS] at g1
  rw [T.cI] at g2
  simp only [List.drop_zero,List.drop_succ_cons,List.take_succ_cons,List.take_zero] at g0 g1 g2
  obtain ⟨ng,e2,-⟩:=DataW.trod_bool T.b g0
  obtain ⟨dg,e3,_⟩:=open_str T.s g1 fun k hk=>hw k (w2 k (v1 k hk))
  obtain ⟨ex,e4,-,-⟩:=DataW.trod_int T.i g2
  injection e0 with e0
  injection e1 with e1
  injection e2 with e2
  injection e4 with e4
  injection e6 with e6
  subst e0 e1 e2 e3 e4 e5 e6
  exact ⟨⟨kd,b,⟨ng,dg,ex⟩,s,i⟩,trivial,rfl⟩
theorem open_partL {t tR:TypeId} {n:Nat} {c:Value} {x:DataW H×List MemPlace} {fs:Array Field} (T:VT P tV tL tM tE tD tS tI tB) (ht:P.underlying t=some (.slice tR)) (hu:P.underlying tR=some (.struct fs))
    (hl:fs.toList.map (fun f=>(f.type,f.offset))=[(tI,0),(tB,1),(tD,2),(tS,5),(tI,6)]) (cR:P.cellsOf tR=7) (bR:0<P.bytesOf tR)
    (h:DataW.trod enc P w 0 sp held n t [c]=some x) (hw:∀ k∈x.1.weights P t,k<=reachBytes) :
    ∃ (ao:Option Addr) (cap:Nat) (l:List GPart),c=.slice ao l.length cap/\SlAt (snapOf w) ao l.length cap 7 (paRows l)/\l.length<=140737488355328:=by
  obtain ⟨ao,cap,l,h1,h2,_,h4⟩:=open_listK paCells (fun _=>True) ⟨0,false,⟨false,⟨#[]⟩,0⟩,⟨#[]⟩,0⟩ ht cR bR h hw (fun a _=>⟨rfl,paCells_lt 0 a⟩) fun m cs y _ hy hk =>
    open_part T hu hl cR hy hk
  exact ⟨ao,cap,l,h1,h2,Nat.le_trans h4 (by decide)⟩
end
end Go.Sy
