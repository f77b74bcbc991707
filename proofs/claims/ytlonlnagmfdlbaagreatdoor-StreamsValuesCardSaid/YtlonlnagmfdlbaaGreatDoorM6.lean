/- Parts of the proof of CStreamsValues: K4, K5, K6, Ja, F4, F5, F6, F7, F8, Vb. No conditions. -/
import Derived.Test.YtlonlnagmfdlbaaGreatDoorM5
namespace Go.Sy
open Go.Proofs
theorem u8E_app {ao:Option Addr} {cap:Nat} {a b:List UInt8} {n:Nat} (hn:n=(a++b).length):(⟨ao,n,cap,5,1,u8Xs a++u8Xs b⟩:AE)=u8E ao cap (a++b):=by
  subst hn
  unfold u8E
  rw [u8Xs_append]
theorem u8Xs_flat (l:List UInt8):(u8Rows l).flatten.map AT.val=u8Xs l:=(u8Xs_rows l).symm
theorem esc_len:∀ (l:List UInt8),(escG l).length<=2*l.length
  | []=>Nat.le_refl _
  | c::l=>by
    have:=esc_len l
    unfold escG
    split<;>simp only [List.length_cons]<;>omega
theorem size_le {d:GDec} (h:decSane d=true) (h0:d.dg.size≠0):(sizeG d).length<=43:=by
  rw [size_len]
  obtain ⟨ng,dg,ex⟩:=d
  obtain ⟨l,rfl⟩:=mkB_ex dg
  have hsz:=mkB_size l
  dsimp only at h0 ⊢
  rw [hsz] at h0 ⊢
  rw [decSane_mk _ _ _ h0] at h
  simp only [Bool.and_eq_true,decide_eq_true_eq] at h
  have:=h.1.1.1.1.1.1.1
  omega
theorem shrA (i:Int):bShr .i64 i 24=i / 16777216:=by
  show i.fdiv 16777216=_
  rw [Int.fdiv_eq_ediv_of_nonneg _ (by decide)]
theorem shrB (i:Int):bShr .i64 i 16=i / 65536:=by
  show i.fdiv 65536=_
  rw [Int.fdiv_eq_ediv_of_nonneg _ (by decide)]
set_option maxRecDepth 100000 in
set_option maxHeartbeats 4000000 in
theorem put_c (σ:Snap) (m:Int) (hm:σ.cell ⟨0,0,none⟩=some (.int .i64 m)) (p:GPart) (hp:Rt p) (hps:p.s.size<=1000000) (o:List UInt8) (ho:o.length<=100000000) (oo:Option Addr) (oc:Nat) (_:o.length<=oc) :
    FnS Tryz.prog 219 [.a (.v (.slice oo o.length oc)),.agg (paCells p)] σ [u8E oo oc o] (fun v _ A'=>∃ oo' oc',v=.slice oo' (o++putG p).length oc'/\(o++putG p).length<=oc'/\A'=[u8E oo' oc' (o++putG p)]):=by
  obtain ⟨kd,b,n,s,i⟩:=p
  dsimp only at hps
  have hnum:kd=2->decSane n=true:=fun h=>by
    have hr:=(right_iff _).2 hp
    subst h
    have:(decide ((⟨0,b,dec0,s,i⟩:GPart)=part0)&&decSane n)=true:=hr
    rw [Bool.and_eq_true] at this
    exact this.2
  have hfin:∀ (l:List UInt8) (e:putG ⟨kd,b,n,s,i⟩=l) {k:Nat} (hk:k=l.length) (oo':Option Addr) (oc':Nat),o.length+k<=oc'->∃ ao ac,Value.slice oo' (o.length+k) oc'=.slice ao (o++putG ⟨kd,b,n,s,i⟩).length ac/\(o++putG ⟨kd,b,n,s,i⟩).length<=ac/\[(⟨oo',o.length+k,oc',5,1,u8Xs o++u8Xs l⟩:AE)]=[u8E ao ac (o++putG ⟨kd,b,n,s,i⟩)]:=by
    intro l e k hk oo' oc' h
    have hl:o.length+k=(o++l).length:=by rw [List.length_append,hk]
    rw [e]
    rw [hl] at h ⊢
    exact ⟨oo',oc',rfl,h,congrArg (fun x=>[x]) (u8E_app rfl)⟩
  refine enter_f Tryz.func219 rfl rfl ⟨trivial,paCells_lt 0 _,trivial⟩ fun w=>?_
  (repeat (first | refine cj_seq ?_ | refine cjr TT rfl ?_ | refine oj_then ?_ | refine cj_block ?_))
  refine cj_if rfl (fun h=>?_) (fun h0=>?_)
  · have h:=of_decide_eq_true (show decide (kd=0)=true from h)
    (repeat (first | refine cj_seq ?_ | refine cjr TT rfl ?_))
    refine oj_append_lit TT 0 rfl rfl rfl rfl rfl rfl rfl rfl rfl rfl rfl rfl rfl rfl rfl rfl rfl rfl (by (repeat' (first | exact trivial | refine AllLt.of ?_ | constructor))) rfl (by omega) (by show (o.length+1)*1<=_;omega) fun oo' oc' hoc'=>oj_run TT rfl ?_
    (repeat (first | refine oj_then ?_ | refine cj_ret ?_ | refine nj_then_ret ?_ | refine nj_block_ret ?_))
    refine nj_fret TT rfl fun β w' _ _=>?_
    have e:putG ⟨kd,b,n,s,i⟩=[16]:=by unfold putG;dsimp only;rw [if_pos h]
    exact hfin _ e rfl oo' oc' hoc'
  have h0:=of_decide_eq_false (show decide (kd=0)=false from h0)
  (repeat (first | refine cj_seq ?_ | refine cjr TT rfl ?_))
  refine oj_split 16 rfl (fun h1=>?_) (fun h1=>?_)
  · have h1:=of_decide_eq_true (show decide (kd=1)=true from h1)
    refine oj_run TT rfl ?_
    (repeat refine oj_then ?_)
    refine cj_if rfl (fun hb=>?_) (fun hb=>?_)
    · have hb:b=true:=hb
      (repeat (first | refine cj_seq ?_ | refine cjr TT rfl ?_))
      refine oj_append_lit TT 0 rfl rfl rfl rfl rfl rfl rfl rfl rfl rfl rfl rfl rfl rfl rfl rfl rfl rfl (by (repeat' (first | exact trivial | refine AllLt.of ?_ | constructor))) rfl (by omega) (by show (o.length+1)*1<=_;omega) fun oo' oc' hoc'=>oj_run TT rfl ?_
      (repeat (first | refine oj_then ?_ | refine cj_ret ?_ | refine nj_then_ret ?_ | refine nj_block_ret ?_))
      refine nj_fret TT rfl fun β w' _ _=>?_
      have e:putG ⟨kd,b,n,s,i⟩=[33]:=by unfold putG;dsimp only;rw [if_neg h0,if_pos h1,hb];rfl
      exact hfin _ e rfl oo' oc' hoc'
    · have hb:b=false:=hb
      (repeat (first | refine cj_seq ?_ | refine cjr TT rfl ?_ | refine oj_then ?_))
      refine cj_if rfl (fun _=>?_) (fun h=>absurd h1 (of_decide_eq_false (show decide (kd=1)=false from h)))
      (repeat (first | refine cj_seq ?_ | refine cjr TT rfl ?_))
      refine oj_append_lit TT 0 rfl rfl rfl rfl rfl rfl rfl rfl rfl rfl rfl rfl rfl rfl rfl rfl rfl rfl (by (repeat' (first | exact trivial | refine AllLt.of ?_ | constructor))) rfl (by omega) (by show (o.length+1)*1<=_;omega) fun oo' oc' hoc'=>oj_run TT rfl ?_
      (repeat (first | refine oj_then ?_ | refine cj_ret ?_ | refine nj_then_ret ?_ | refine nj_block_ret ?_))
      refine nj_fret TT rfl fun β w' _ _=>?_
      have e:putG ⟨kd,b,n,s,i⟩=[32]:=by unfold putG;dsimp only;rw [if_neg h0,if_pos h1,hb];rfl
      exact hfin _ e rfl oo' oc' hoc'
  have h1:=of_decide_eq_false (show decide (kd=1)=false from h1)
  refine oj_run TT rfl ?_
  (repeat (first | refine cj_seq ?_ | refine cjr TT rfl ?_ | refine oj_then ?_ | refine cj_if_f rfl ?_))
  refine cj_if rfl (fun h=>absurd (of_decide_eq_true (show decide (kd=1)=true from h)) h1) (fun _=>?_)
  (repeat (first | refine cj_seq ?_ | refine cjr TT rfl ?_))
  refine oj_split 34 rfl (fun h2=>?_) (fun h2=>?_)
  · have h2:=of_decide_eq_true (show decide (kd=2)=true from h2)
    have hs:=hnum h2
    refine oj_run TT rfl ?_
    (repeat refine oj_then ?_)
    refine cj_if rfl (fun hz=>?_) (fun hz=>?_)
    · have hz:n.dg.size=0:=by have:=of_decide_eq_true hz;rw [this];rfl
      (repeat (first | refine cj_seq ?_ | refine cjr TT rfl ?_))
      refine oj_append_lit TT 0 rfl rfl rfl rfl rfl rfl rfl rfl rfl rfl rfl rfl rfl rfl rfl rfl rfl rfl (by (repeat' (first | exact trivial | refine AllLt.of ?_ | constructor))) rfl (by omega) (by show (o.length+1)*1<=_;omega) fun oo' oc' hoc'=>oj_run TT rfl ?_
      (repeat (first | refine oj_then ?_ | refine cj_ret ?_ | refine nj_then_ret ?_ | refine nj_block_ret ?_))
      refine nj_fret TT rfl fun β w' _ _=>?_
      have e:putG ⟨kd,b,n,s,i⟩=[49]:=by unfold putG;dsimp only;rw [if_neg h0,if_neg h1,if_pos h2,if_pos hz]
      exact hfin _ e rfl oo' oc' hoc'
    have hz:n.dg.size≠0:=fun h=>by
      refine absurd ?_ (of_decide_eq_false hz)
      obtain ⟨l,hl⟩:=mkB_ex n.dg
      show n.dg=_
      rw [hl,mkB_size] at h
      rw [hl,List.eq_nil_of_length_eq_zero h]
      rfl
    have hsl:=size_le hs hz
    (repeat (first | refine cj_seq ?_ | refine cjr TT rfl ?_))
    refine oj_split 47 rfl (fun _=>?_) (fun h=>absurd h2 (of_decide_eq_false (show decide (kd=2)=false from h)))
    refine oj_run TT rfl ?_
    (repeat refine oj_then ?_)
    refine cj_if rfl (fun hn=>?_) (fun hn=>?_)
    · have hn:n.neg=true:=hn
      (repeat refine cj_seq ?_)
      refine cj_drawB 9 [0,3,8] [(0,.loc 99,paCells ⟨kd,b,n,s,i⟩)] mixed (by kernel_rfl) rfl (subH_of (by (repeat first | exact trivial | refine ⟨rfl,?_⟩))) ?_
      refine gb_val (i:=0) TT rfl (by kernel_rfl) (by kernel_rfl) rfl rfl rfl rfl rfl ?_
      refine gb_val (i:=3) TT rfl (by kernel_rfl) (by kernel_rfl) rfl rfl rfl rfl rfl ?_
      refine gb_val (i:=4) TT rfl (by kernel_rfl) (by kernel_rfl) rfl rfl rfl rfl rfl ?_
      refine gb_one (i:=1) (by kernel_rfl) ?_
      refine gb_new TT rfl rfl rfl rfl rfl ?_
      refine gb_one (i:=2) (by kernel_rfl) ?_
      refine gb_append_lit TT 0 rfl rfl rfl rfl rfl rfl rfl rfl rfl rfl rfl rfl rfl rfl rfl rfl rfl rfl (by (repeat' (first | exact trivial | refine AllLt.of ?_ | constructor))) rfl (by omega) (by show (o.length+1)*1<=_;omega) fun o1 c1 hc1=>?_
      refine gb_order [(5,.keep),(6,.keep),(7,.sink),(8,.pure)] rfl rfl (by kernel_rfl) ?_
      refine oj_run TT rfl ?_
      refine oj_callS rfl rfl rfl rfl rfl Tryz.call238 ⟨decCells_lt 0 n,trivial⟩ (size_c σ n hs hz) fun v s1 hle1 ⟨ao,ac,hv,HS⟩=>⟨.a (.v (.slice ao (sizeG n).length ac)),trivial,hv.symm,?_⟩
      refine oj_run TT rfl ?_
      refine oj_callS rfl rfl rfl rfl rfl Tryz.call237 ⟨trivial,trivial⟩ (turned_c s1 (sizeG n) (by omega) ao ac HS) fun v s2 hle2 ⟨bo,bc,hv,HT⟩=>⟨.a (.v (.slice bo (sizeG n).length bc)),trivial,hv.symm,?_⟩
      refine oj_run TT rfl ?_
      refine oj_append_sl TT 0 rfl rfl rfl rfl rfl rfl rfl HT rfl rfl rfl rfl rfl rfl rfl rfl rfl (fun r hr=>(u8Rows_all _ r hr).2.2) (by omega) (by show (o.length+1+(sizeG n).length)*1<=_;omega) fun o2 c2 hc2=>oj_run TT rfl ?_
      (repeat (first | refine oj_then ?_ | refine cj_ret ?_ | refine nj_then_ret ?_ | refine nj_block_ret ?_))
      refine nj_fret TT rfl fun β w' _ _=>?_
      have e:putG ⟨kd,b,n,s,i⟩=48::turnG (sizeG n):=by unfold putG;dsimp only;rw [if_neg h0,if_neg h1,if_pos h2,if_neg hz,if_pos hn]
      have hx:(u8Xs o++[.int .u8 48])++(u8Rows (turnG (sizeG n))).flatten.map AT.val=u8Xs o++u8Xs (48::turnG (sizeG n)):=by rw [u8Xs_flat,List.append_assoc];rfl
      have hf:=hfin _ e (k:=1+(sizeG n).length) (by rw [List.length_cons,turnG_len];omega) o2 c2 (by omega)
      rw [<-hx,<-Nat.add_assoc] at hf
      exact hf
    · have hn:n.neg=false:=hn
      (repeat (first | refine cj_seq ?_ | refine cjr TT rfl ?_ | refine oj_then ?_))
      refine cj_if rfl (fun _=>?_) (fun h=>absurd h2 (of_decide_eq_false (show decide (kd=2)=false from h)))
      (repeat refine cj_seq ?_)
      refine cj_drawB 8 [0,3,7] [(0,.loc 99,paCells ⟨kd,b,n,s,i⟩)] mixed (by kernel_rfl) rfl (subH_of (by (repeat first | exact trivial | refine ⟨rfl,?_⟩))) ?_
      refine gb_val (i:=0) TT rfl (by kernel_rfl) (by kernel_rfl) rfl rfl rfl rfl rfl ?_
      refine gb_val (i:=3) TT rfl (by kernel_rfl) (by kernel_rfl) rfl rfl rfl rfl rfl ?_
      refine gb_val (i:=4) TT rfl (by kernel_rfl) (by kernel_rfl) rfl rfl rfl rfl rfl ?_
      refine gb_one (i:=1) (by kernel_rfl) ?_
      refine gb_new TT rfl rfl rfl rfl rfl ?_
      refine gb_one (i:=2) (by kernel_rfl) ?_
      refine gb_append_lit TT 0 rfl rfl rfl rfl rfl rfl rfl rfl rfl rfl rfl rfl rfl rfl rfl rfl rfl rfl (by (repeat' (first | exact trivial | refine AllLt.of ?_ | constructor))) rfl (by omega) (by show (o.length+1)*1<=_;omega) fun o1 c1 hc1=>?_
      refine gb_order [(5,.keep),(6,.sink),(7,.pure)] rfl rfl (by kernel_rfl) ?_
      refine oj_run TT rfl ?_
      refine oj_callS rfl rfl rfl rfl rfl Tryz.call238 ⟨decCells_lt 0 n,trivial⟩ (size_c σ n hs hz) fun v s1 hle1 ⟨ao,ac,hv,HS⟩=>⟨.a (.v (.slice ao (sizeG n).length ac)),trivial,hv.symm,?_⟩
      refine oj_run TT rfl ?_
      refine oj_append_sl TT 0 rfl rfl rfl rfl rfl rfl rfl HS rfl rfl rfl rfl rfl rfl rfl rfl rfl (fun r hr=>(u8Rows_all _ r hr).2.2) (by omega) (by show (o.length+1+(sizeG n).length)*1<=_;omega) fun o2 c2 hc2=>oj_run TT rfl ?_
      (repeat (first | refine oj_then ?_ | refine cj_ret ?_ | refine nj_then_ret ?_ | refine nj_block_ret ?_))
      refine nj_fret TT rfl fun β w' _ _=>?_
      have e:putG ⟨kd,b,n,s,i⟩=50::sizeG n:=by unfold putG;dsimp only;rw [if_neg h0,if_neg h1,if_pos h2,if_neg hz,if_neg (by rw [hn];decide)]
      have hx:(u8Xs o++[.int .u8 50])++(u8Rows (sizeG n)).flatten.map AT.val=u8Xs o++u8Xs (50::sizeG n):=by rw [u8Xs_flat,List.append_assoc];rfl
      have hf:=hfin _ e (k:=1+(sizeG n).length) (by rw [List.length_cons];omega) o2 c2 (by omega)
      rw [<-hx,<-Nat.add_assoc] at hf
      exact hf
  have h2:=of_decide_eq_false (show decide (kd=2)=false from h2)
  refine oj_run TT rfl ?_
  (repeat (first | refine cj_seq ?_ | refine cjr TT rfl ?_ | refine oj_then ?_ | refine cj_if_f rfl ?_))
  refine oj_split 47 rfl (fun h=>absurd (of_decide_eq_true (show decide (kd=2)=true from h)) h2) (fun _=>?_)
  refine oj_run TT rfl ?_
  (repeat (first | refine cj_seq ?_ | refine cjr TT rfl ?_ | refine oj_then ?_ | refine cj_if_f rfl ?_))
  refine cj_if rfl (fun h=>absurd (of_decide_eq_true (show decide (kd=2)=true from h)) h2) (fun _=>?_)
  (repeat (first | refine cj_seq ?_ | refine cjr TT rfl ?_ | refine oj_then ?_))
  refine cj_if rfl (fun h3=>?_) (fun h3=>?_)
  · have h3:=of_decide_eq_true (show decide (kd=3)=true from h3)
    (repeat (first | refine cj_seq ?_ | refine cjr TT rfl ?_))
    have hel:=esc_len s.data.toList
    have hsl:s.data.toList.length=s.size:=Array.length_toList
    rw [hsl] at hel
    refine oj_append_lit TT 0 rfl rfl rfl rfl rfl rfl rfl rfl rfl rfl rfl rfl rfl rfl rfl rfl rfl rfl (by (repeat' (first | exact trivial | refine AllLt.of ?_ | constructor))) rfl (by omega) (by show (o.length+1)*1<=_;omega) fun o1 c1 hc1=>oj_run TT rfl ?_
    (repeat (first | refine cj_seq ?_ | refine cjr TT rfl ?_ | refine oj_then ?_))
    refine oj_callP rfl rfl rfl rfl rfl Tryz.call239 (by (repeat' (first | exact trivial | constructor))) (ReplaceAll_c σ m hm s hps) fun v hv=>⟨.a (.v (.string (mkB (escG s.data.toList)))),trivial,hv.symm,?_⟩
    have e:putG ⟨kd,b,n,s,i⟩=64::(escG s.data.toList++[0,0]):=by unfold putG;dsimp only;rw [if_neg h0,if_neg h1,if_neg h2,if_pos h3]
    generalize escG s.data.toList=E at *
    have hE:=mkB_size E
    refine oj_run TT rfl ?_
    refine oj_append_str TT 0 rfl rfl rfl rfl rfl rfl rfl rfl rfl rfl rfl rfl rfl rfl rfl rfl rfl (by rw [hE];omega) (by rw [hE];show (o.length+1+E.length)*1<=_;omega) fun o2 c2 hc2=>?_
    rw [hE] at hc2 ⊢
    refine oj_run TT rfl ?_
    (repeat (first | refine cj_seq ?_ | refine cjr TT rfl ?_ | refine oj_then ?_))
    refine oj_append_lit TT 0 rfl rfl rfl rfl rfl rfl rfl rfl rfl rfl rfl rfl rfl rfl rfl rfl rfl rfl (by (repeat' (first | exact trivial | refine AllLt.of ?_ | constructor))) rfl (by omega) (by show (o.length+1+E.length+2)*1<=_;omega) fun o3 c3 hc3=>oj_run TT rfl ?_
    (repeat (first | refine oj_then ?_ | refine cj_ret ?_ | refine nj_then_ret ?_ | refine nj_block_ret ?_))
    refine nj_fret TT rfl fun β w' _ _=>?_
    have hx:(u8Xs o++[.int .u8 64])++u8Xs (mkB E).data.toList++[.int .u8 0,.int .u8 0]=u8Xs o++u8Xs (64::(E++[0,0])):=by
      rw [mkB_list,show (64:UInt8)::(E++[0,0])=[64]++E++[0,0] by simp,u8Xs_append,u8Xs_append,List.append_assoc,List.append_assoc,List.append_assoc]
      rfl
    have hf:=hfin _ e (k:=1+E.length+2) (by rw [List.length_cons,List.length_append];show _=E.length+2+1;omega) o3 c3 (by omega)
    rw [<-hx,<-Nat.add_assoc,<-Nat.add_assoc] at hf
    exact hf
  have h3:=of_decide_eq_false (show decide (kd=3)=false from h3)
  (repeat (first | refine cj_seq ?_ | refine cjr TT rfl ?_ | refine cj_skip ?_ | refine nj_then ?_ | refine nj_block ?_ | (refine oj_conv TT _ rfl rfl rfl rfl rfl rfl rfl rfl rfl ?_;refine oj_run TT rfl ?_) | (refine oj_bshr rfl rfl rfl rfl rfl rfl (by decide) ?_;refine oj_run TT rfl ?_)))
  have e1:IntKind.u8.wrap (bShr .i64 i 24)=((byteOf (i / 16777216)).toNat:Int):=by rw [wrap8,shrA]
  have e2:IntKind.u8.wrap (bShr .i64 i 16)=((byteOf (i / 65536)).toNat:Int):=by rw [wrap8,shrB]
  have e3:IntKind.u8.wrap (bShr .i64 i 8)=((byteOf (i / 256)).toNat:Int):=by rw [wrap8,shr8]
  have e4:IntKind.u8.wrap i=((byteOf i).toNat:Int):=wrap8 i
  dsimp only
  rw [e1,e2,e3,e4]
  refine oj_append_lit TT 0 rfl rfl rfl rfl rfl rfl rfl rfl rfl rfl rfl rfl rfl rfl rfl rfl rfl rfl (by (repeat' (first | exact trivial | refine AllLt.of ?_ | constructor))) rfl (by omega) (by show (o.length+5)*1<=_;omega) fun o1 c1 hc1=>oj_run TT rfl ?_
  (repeat (first | refine oj_then ?_ | refine cj_ret ?_))
  refine nj_fret TT rfl fun β w' _ _=>?_
  have e:putG ⟨kd,b,n,s,i⟩=[80,byteOf (i / 16777216),byteOf (i / 65536),byteOf (i / 256),byteOf i]:=by unfold putG;dsimp only;rw [if_neg h0,if_neg h1,if_neg h2,if_neg h3]
  exact hfin _ e rfl o1 c1 hc1
end Go.Sy
namespace Go.Sy
open Go.Proofs
def paE (t:Nat) (ao:Option Addr) (cap:Nat) (l:List GPart):AE:=⟨ao,l.length,cap,t,7,paXs l⟩
theorem pa_sealed {t:Nat} {σ:Snap} {ao:Option Addr} {cap:Nat} {l:List GPart} (hS:ArrSealed σ (paE t ao cap l)) (hc:l.length<=cap):SlAt σ ao l.length cap 7 (paRows l) :=
  hS.sl (E:=paE t ao cap l) rfl (fun r hr=>⟨(paRows_all l r hr).1,(paRows_all l r hr).2.1⟩) (by simp [paRows]) rfl hc
end Go.Sy
namespace Go.Sy
open Go.Proofs
theorem put_len {p:GPart} (h:Rt p):(putG p).length<=2*p.s.size+60:=by
  cases h with
  | null=>show 1<=_;omega
  | bool b=>show 1<=_;omega
  | num n h =>
    unfold putG
    dsimp only
    rw [if_neg (by decide),if_neg (by decide),if_pos rfl]
    by_cases h0:n.dg.size=0
    · rw [if_pos h0];show 1<=_;omega
    have:=size_le h h0
    rw [if_neg h0]
    split<;>rw [List.length_cons]
    · rw [turnG_len];omega
    · omega
  | str s =>
    have:=esc_len s.data.toList
    have hs:s.data.toList.length=s.size:=Array.length_toList
    show (64::(escG s.data.toList++[0,0])).length<=_
    rw [List.length_cons,List.length_append]
    show (escG s.data.toList).length+2+1<=2*s.size+60
    omega
  | whole i h1 h2=>show 5<=_;omega
def enK (l:List GPart) (k:Nat):List UInt8:=(l.take k).flatMap putG
theorem enK_succ {l:List GPart} {k:Nat} {p:GPart} (h:l[k]?=some p):enK l (k+1)=enK l k++putG p:=by
  obtain ⟨hk,he⟩:=List.getElem?_eq_some_iff.1 h
  unfold enK
  rw [List.take_succ_eq_append_getElem hk,he,List.flatMap_append]
  simp
theorem putF_len {l:List GPart} (h:∀ p∈l,Rt p/\p.s.size<=1000000):(l.flatMap putG).length<=l.length*2000060:=by
  induction l with
  | nil=>exact Nat.le_refl _
  | cons p l ih =>
    have h1:=ih fun q hq=>h q (List.mem_cons_of_mem p hq)
    obtain ⟨h2,h3⟩:=h p List.mem_cons_self
    have h4:=put_len h2
    rw [List.flatMap_cons,List.length_append,List.length_cons,Nat.succ_mul]
    omega
structure EnS where
  k:Nat
  oo:Option Addr
  oc:Nat
set_option maxRecDepth 100000 in
set_option maxHeartbeats 4000000 in
theorem Encode_c (σ:Snap) (m:Int) (hm:σ.cell ⟨0,0,none⟩=some (.int .i64 m)) (l:List GPart) (hl:l.length<=140737488355328) (hb:∀ p∈l,p.n.dg.size<=mostLen/\p.s.size<=1000000) (lo:Option Addr) (lc:Nat) (H:SlAt σ lo l.length lc 7 (paRows l)) :
    PureS Tryz.prog 182 [.a (.v (.slice lo l.length lc))] σ (fun v σ'=>∃ bo bc,v=.tuple #[.slice bo (encG l).1.length bc,.int .i64 (encG l).2]/\SlAt σ' bo (encG l).1.length bc 1 (u8Rows (encG l).1)):=by
  refine enter_s Tryz.func182 rfl rfl (by (repeat' (first | exact trivial | constructor))) fun w=>?_
  (repeat (first | refine cj_seq ?_ | refine cjr TT rfl ?_ | refine oj_then ?_))
  refine cj_if rfl (fun h=>?_) (fun h=>?_)
  · have h:=of_decide_eq_true (show decide ((16:Int)<l.length)=true from h)
    have e:encG l=([],4):=by unfold encG;rw [if_pos (by omega)]
    rw [e]
    (repeat (first | refine cj_seq ?_ | refine cjr TT rfl ?_ | refine oj_then ?_ | refine cj_ret ?_ | refine nj_then_ret ?_))
    refine nj_ret TT rfl fun β w' _ _=>?_
    exact ⟨none,0,rfl,SlAt.nil _ none 0 1⟩
  have h16:l.length<=16:=by have:=of_decide_eq_false (show decide ((16:Int)<l.length)=false from h);omega
  (repeat (first | refine cj_seq ?_ | refine cjr TT rfl ?_ | refine oj_then ?_ | refine cj_skip ?_ | refine cj_block ?_ | refine nj_then ?_))
  refine cj_nilarr 5 1 ?_
  refine cj_loop2 (fun (s:Snap) (_:EnS)=>s) (fun _ t=>[(4,.a (.v (.slice t.oo (enK l t.k).length t.oc))),(10,.a (.v (.slice lo l.length lc))),(11,.a (.v (.int .i64 l.length))),(12,.a (.v (.int .i64 (t.k:Nat))))]) (fun _ _=>[]) (fun _ t=>[u8E t.oo t.oc (enK l t.k)]) 0
    (fun s t=>σ.le s/\t.k<=l.length/\(enK l t.k).length<=t.oc/\∀ p∈l.take t.k,Rt p) (fun _ t=>l.length - t.k) σ ⟨0,none,0⟩ ⟨Snap.le_refl _,Nat.zero_le _,Nat.le_refl _,fun _ h=>(by cases h)⟩ rfl (by (repeat first | exact trivial | refine ⟨rfl,?_⟩)) (by (repeat first | exact trivial | refine ⟨rfl,?_⟩)) rfl (by (repeat' (first | exact trivial | constructor))) (by (repeat' exact trivial)) fun s ⟨k,oo,oc⟩ ⟨hle,hk,hoc,hr⟩=>?_
  dsimp only at hk hoc hr ⊢
  have H:=H.mono hle
  have hm:=hle.cell hm
  (repeat (first | refine cj_seq ?_ | refine cjr TT rfl ?_ | refine oj_then ?_))
  refine cj_if rfl (fun h=>?_) (fun h=>?_)
  rotate_left
  · have hk0:k=l.length:=by have:=of_decide_eq_false h;omega
    rw [hk0,List.take_length] at hr
    have e:encG l=(enK l k,0):=by
      unfold encG enK
      rw [if_neg (by omega),if_pos (all_rt.2 hr),hk0,List.take_length]
    rw [e]
    (repeat (first | refine cj_seq ?_ | refine cjr TT rfl ?_ | refine oj_then ?_ | refine cj_exit ?_ | refine cj_ret ?_ | refine nj_then ?_ | refine nj_then_exit ?_ | refine nj_block_out ?_))
    refine nj_seal 0 rfl rfl fun s1 hle1 hS=>?_
    refine nj_ret TT rfl fun β w' _ _=>?_
    exact ⟨oo,oc,rfl,u8_sealed hS hoc⟩
  have hkl:k<l.length:=by have:=of_decide_eq_true h;omega
  have hx:=List.getElem?_eq_getElem hkl
  have hmem:=List.getElem_mem hkl
  have hrow:=paRows_get hx
  have hs1:=enK_succ hx
  have htk:l.take (k+1)=l.take k++[l[k]]:=List.take_succ_eq_append_getElem hkl
  have hbk:(enK l k).length<=16*2000060:=by
    have h1:=putF_len (l:=l.take k) fun p hp=>⟨hr p hp,(hb p (List.mem_of_mem_take hp)).2⟩
    have h2:(l.take k).length<=16:=by rw [List.length_take];omega
    exact Nat.le_trans h1 (Nat.mul_le_mul_right _ h2)
  obtain ⟨hb1,hb2⟩:=hb l[k] hmem
  generalize l[k]=p at *
  (repeat (first | refine cj_seq ?_ | refine cjr TT rfl ?_ | refine cj_skip ?_ | refine cj_block ?_ | refine nj_then ?_))
  refine oj_idx TT rfl rfl rfl rfl rfl rfl rfl rfl rfl H (by omega) hrow (oj_run TT rfl ?_)
  (repeat (first | refine cj_seq ?_ | refine cjr TT rfl ?_ | refine oj_then ?_))
  refine oj_callP rfl rfl rfl rfl rfl Tryz.call218 (by (repeat' (first | exact trivial | refine AllLt.of ?_ | constructor))) (right_c s p hb1) fun v hv=>⟨.a (.b (rightG p)),trivial,hv.symm,?_⟩
  refine oj_run TT rfl ?_
  (repeat refine oj_then ?_)
  refine cj_if rfl (fun hq=>?_) (fun hq=>?_)
  · have hq:rightG p=false:=by simpa using hq
    have e:encG l=([],1):=by
      unfold encG
      rw [if_neg (by omega),if_neg]
      intro ha
      have:=List.all_eq_true.1 ha p hmem
      rw [hq] at this
      cases this
    rw [e]
    (repeat (first | refine cj_seq ?_ | refine cjr TT rfl ?_ | refine oj_then ?_ | refine cj_ret ?_ | refine nj_then_ret ?_ | refine nj_block_ret ?_))
    refine nj_ret TT rfl fun β w' _ _=>?_
    exact ⟨none,0,rfl,SlAt.nil _ none 0 1⟩
  have hq:rightG p=true:=by simpa using hq
  have hrt:=(right_iff p).1 hq
  (repeat (first | refine cjr TT rfl ?_ | refine cj_skip ?_ | refine nj_then ?_))
  refine oj_callF [0] (A0:=[u8E oo oc (enK l k)]) (Ar:=[]) rfl rfl rfl rfl rfl rfl rfl Tryz.call219 ⟨trivial,paCells_lt 0 p,trivial⟩ (put_c s m hm p hrt hb2 (enK l k) (by omega) oo oc hoc) fun v s1 A' hle1 ⟨o1,c1,hv,hc1,hA⟩=>⟨.a (.v (.slice o1 (enK l k++putG p).length c1)),trivial,hv.symm,?_⟩
  subst hA
  rw [<-hs1] at hc1 ⊢
  refine oj_run TT rfl ?_
  (repeat (first | refine cjr TT rfl ?_ | refine oj_nil ?_ | refine nj_then ?_ | refine nj_block ?_ | (refine oj_add rfl rfl rfl rfl rfl rfl (by omega) ?_;refine oj_run TT rfl ?_)))
  refine nj_again (s1,(⟨k+1,o1,c1⟩:EnS)) ⟨Snap.le_trans hle hle1,hkl,hc1,fun q hq'=>?_⟩ (by dsimp only;omega) rfl (by (repeat first | exact trivial | refine ⟨rfl,?_⟩)) (by (repeat first | exact trivial | refine ⟨rfl,?_⟩)) rfl (by (repeat' (first | exact trivial | constructor))) (by (repeat' exact trivial))
  rw [htk] at hq'
  rcases List.mem_append.1 hq' with hq' | hq'
  · exact hr q hq'
  · rw [List.mem_singleton] at hq'
    subst hq'
    exact hrt
end Go.Sy
/- Plain law: items that stand in one another, and the sweep over them. No program in sight. -/
namespace Go.Sy
structure GItem where
  doc:Int
  at_:Int
  st:Int
  en:Int
  lv:Int
deriving DecidableEq
end Go.Sy
namespace Go.Sy
open Go.Proofs
def spanCells:List AT:=[.v (.int .u8 128),.v (.int .u8 0),.v (.int .i32 0),.v (.int .u8 224),.v (.int .u8 192),.v (.int .i32 128),.v (.int .u8 240),.v (.int .u8 224),.v (.int .i32 2048),.v (.int .u8 248),.v (.int .u8 240),.v (.int .i32 65536)]
theorem und208:Tryz.prog.underlying 337=some (.array 4 336):=by kernel_rfl
theorem spanCells_lt (n:Nat):∀ c∈spanCells,c.lt n:=by simp [spanCells,AT.lt]
set_option maxRecDepth 100000 in
set_option maxHeartbeats 1000000 in
theorem spans_c (σ:Snap):PlainS Tryz.prog 231 [] σ (fun v=>v=(SV.agg spanCells).den β0):=by
  refine enter_p Tryz.func231 rfl rfl trivial fun w=>?_
  (repeat (first | refine cj_seq ?_ | refine cjr TT rfl ?_ | refine oj_then ?_))
  refine oj_buildArr TT und208 rfl rfl rfl rfl rfl rfl rfl rfl (oj_run TT rfl ?_)
  (repeat (first | refine oj_then ?_ | refine cj_ret ?_))
  refine nj_ret TT rfl fun β w' _ _=>?_
  rfl
def soundR (r:Int):Bool:=(decide (0<=r)&&decide (r<55296))||(decide (57343<r)&&decide (r<=1114111))
set_option maxRecDepth 100000 in
set_option maxHeartbeats 1000000 in
theorem sound_c (σ:Snap) (r:Int):PlainS Tryz.prog 232 [.a (.v (.int .i32 r))] σ (fun v=>v=.bool (soundR r)):=by
  refine enter_p Tryz.func232 rfl rfl (by (repeat' (first | exact trivial | constructor))) fun w=>?_
  (repeat (first | refine cj_seq ?_ | refine cjr TT rfl ?_ | refine oj_then ?_))
  refine oj_split 5 rfl (fun h=>?_) (fun h=>?_)<;>refine oj_run TT rfl ?_
  · refine oj_split 9 rfl (fun h'=>?_) (fun h'=>?_)<;>refine oj_run TT rfl ?_
    · (repeat (first | refine oj_then ?_ | refine cj_ret ?_))
      refine nj_ret TT rfl fun β w' _ _=>?_
      show Value.bool true=_
      rw [soundR,h,h']
      rfl
    · refine oj_split 12 rfl (fun h2=>?_) (fun h2=>?_)<;>(refine oj_run TT rfl ?_)<;>(repeat (first | refine oj_then ?_ | refine cj_ret ?_))
      · refine nj_ret TT rfl fun β w' _ _=>?_
        show Value.bool _=_
        rw [soundR,h,h',h2]
        rfl
      · refine nj_ret TT rfl fun β w' _ _=>?_
        show Value.bool _=_
        rw [soundR,h,h',h2]
        rfl
  · refine oj_split 12 rfl (fun h2=>?_) (fun h2=>?_)<;>(refine oj_run TT rfl ?_)<;>(repeat (first | refine oj_then ?_ | refine cj_ret ?_))
    · refine nj_ret TT rfl fun β w' _ _=>?_
      show Value.bool _=_
      rw [soundR,h,h2]
      rfl
    · refine nj_ret TT rfl fun β w' _ _=>?_
      show Value.bool _=_
      rw [soundR,h,h2]
      rfl
def tailR:Int->List UInt8->Option Int
  | r,[]=>some r
  | r,c::l=>if bAnd .u8 c.toNat 192=128 then tailR (bOr .i32 (bShl .i32 r 6) (IntKind.i32.wrap (bAnd .u8 c.toNat 63))) l else none
def spanAt (k:Nat):Int×Int×Int:=match k with
  | 0=>(128,0,0)
  | 1=>(224,192,128)
  | 2=>(240,224,2048)
  | _=>(248,240,65536)
def nextAt (l:List UInt8) (k:Nat) (u:UInt8):Int×Int :=
  match tailR (IntKind.i32.wrap (bAndNot .u8 u.toNat (spanAt k).1)) ((l.take (k+1)).drop 1) with
  | none=>(0,0)
  | some r=>if r<(spanAt k).2.2\/soundR r=false then (0,0) else (r,k+1)
def nextFrom (l:List UInt8):Nat->Nat->Int×Int
  | 0,_=>(0,0)
  | n+1,k =>
    match l with
    | []=>(0,0)
    | u::_=>if l.length<=k\/bAnd .u8 u.toNat (spanAt k).1≠(spanAt k).2.1 then nextFrom l n (k+1) else nextAt l k u
def utfNext (l:List UInt8):Int×Int:=nextFrom l 4 0
def bRows (l:List UInt8):List (List AT):=l.map fun u=>[.v (.int .u8 u.toNat)]
theorem bRows_get {l:List UInt8} {i:Nat} {u:UInt8} (h:l[i]?=some u):(bRows l)[i]?=some [.v (.int .u8 u.toNat)]:=by simp [bRows,h]
theorem bRows_mk (l:List UInt8):byteRows (mkB l)=bRows l:=rfl
theorem bRows_sub (l:List UInt8) (a b:Nat):((bRows l).take b).drop a=bRows ((l.take b).drop a):=by simp [bRows,List.map_take,List.map_drop]
theorem nextFrom_skip {l:List UInt8} {k:Nat} (hk:k<4) (h:l.length<=k\/∃ u,l[0]?=some u/\bAnd .u8 u.toNat (spanAt k).1≠(spanAt k).2.1):nextFrom l (4 - k) k=nextFrom l (4 - (k+1)) (k+1):=by
  rw [show 4 - k=(4 - (k+1))+1 by omega]
  cases l with
  | nil=>simp only [nextFrom];cases 4 - (k+1)<;>rfl
  | cons u l =>
    simp only [nextFrom]
    rw [if_pos (h.imp id fun ⟨v,hv,hne⟩=>by simp at hv;subst hv;exact hne)]
theorem nextFrom_take {l:List UInt8} {k:Nat} {u:UInt8} (hk:k<4) (hl:k<l.length) (hu:l[0]?=some u) (h:bAnd .u8 u.toNat (spanAt k).1=(spanAt k).2.1):nextFrom l (4 - k) k=nextAt l k u:=by
  rw [show 4 - k=(4 - (k+1))+1 by omega]
  cases l with
  | nil=>simp at hl
  | cons v l =>
    simp at hu
    subst hu
    simp only [nextFrom]
    rw [if_neg (by simp only [not_or,Nat.not_le,ne_eq,Decidable.not_not];exact ⟨hl,h⟩)]
def spanRow (k:Nat):List AT:=[.v (.int .u8 (spanAt k).1),.v (.int .u8 (spanAt k).2.1),.v (.int .i32 (spanAt k).2.2)]
theorem spanRow_get {k:Nat} (h:k<4):takeAt spanCells (k*3) 3=some (spanRow k):=by
  match k,h with
  | 0,_=>rfl
  | 1,_=>rfl
  | 2,_=>rfl
  | 3,_=>rfl
theorem und207:Tryz.prog.underlying 336=some (.struct (Tryz.prog.fieldsOf 336)):=by kernel_rfl
theorem cells207:Tryz.prog.cellsOf 336=3:=by kernel_rfl
set_option maxRecDepth 100000 in
set_option maxHeartbeats 1000000 in
theorem utfNext_c (σ:Snap) (ao:Option Addr) (cap:Nat) (l:List UInt8) (H:SlAt σ ao l.length cap 1 (bRows l)) (hl:l.length<=mostLen) :
    PlainS Tryz.prog 199 [.a (.v (.slice ao l.length cap))] σ (fun v=>v=(SV.tup [.a (.v (.int .i32 (utfNext l).1)),.a (.v (.int .i64 (utfNext l).2))]).den β0):=by
  simp only [mostLen] at hl
  refine enter_p Tryz.func199 rfl rfl (by (repeat' (first | exact trivial | constructor))) fun w=>?_
  (repeat (first | refine cj_seq ?_ | refine cjr TT rfl ?_ | refine oj_then ?_))
  refine oj_callP rfl rfl rfl rfl rfl Tryz.call231 (by (repeat' exact trivial)) (spans_c σ) fun v hv=>⟨.agg spanCells,spanCells_lt 0,hv.symm,?_⟩
  refine oj_run TT rfl ?_
  (repeat (first | refine oj_then ?_ | refine cj_block ?_))
  refine cj_loop (fun _=>σ) (fun (k:Nat)=>[(0,.a (.v (.slice ao l.length cap))),(9,.agg spanCells),(10,.a (.v (.int .i64 k)))]) (fun _=>[]) (fun _=>[]) 0
    (fun k=>k<=4/\nextFrom l (4 - k) k=utfNext l) (fun k=>4 - k) 0 ⟨by omega,rfl⟩ rfl (by (repeat first | exact trivial | refine ⟨rfl,?_⟩)) (by (repeat first | exact trivial | refine ⟨rfl,?_⟩)) rfl ⟨trivial,spanCells_lt 0,trivial,trivial⟩ trivial fun k ⟨hk,hkn⟩=>?_
  (repeat (first | refine cj_seq ?_ | refine cjr TT rfl ?_ | refine oj_then ?_))
  refine cj_if rfl (fun h=>?_) (fun h=>?_)
  · have hk4:k<4:=by simp at h;omega
    (repeat (first | refine cj_seq ?_ | refine cjr TT rfl ?_ | refine cj_skip ?_ | refine cj_block ?_ | refine nj_then ?_))
    refine oj_index_arr (spanRow k) 336 4 _ und208 und207 rfl rfl rfl rfl rfl rfl rfl (by omega) (by omega) (by rw [show Tryz.prog.cellsOf 336=3 from cells207];exact spanRow_get hk4) (oj_run TT rfl ?_)
    (repeat (first | refine cj_seq ?_ | refine oj_then ?_))
    refine cj_draw [(0,.pure),(1,.pure),(2,.pure),(3,.pure),(4,.pure),(5,.pure),(6,.pure),(7,.quiet),(8,.pure),(9,.quiet),(10,.pure),(11,.pure),(12,.quiet),(13,.pure),(14,.pure)] mixed (by kernel_rfl) (oj_run TT rfl ?_)
    refine oj_split 18 rfl (fun h=>?_) (fun h=>?_)
    · refine oj_run TT rfl ?_
      (repeat (first | refine cjr TT rfl ?_ | refine oj_then ?_ | refine oj_nil ?_ | refine cj_if_t rfl ?_ | refine cj_exit ?_ | refine nj_then ?_ | refine nj_then_exit ?_ | refine nj_block_out ?_ | (refine oj_add rfl rfl rfl rfl rfl rfl (by omega) ?_;refine oj_run TT rfl ?_)))
      refine nj_again (k+1) ⟨by omega,?_⟩ (by omega) rfl (by (repeat first | exact trivial | refine ⟨rfl,?_⟩)) (by (repeat first | exact trivial | refine ⟨rfl,?_⟩)) rfl ⟨trivial,spanCells_lt 0,trivial,trivial⟩ trivial
      rw [<-hkn]
      exact (nextFrom_skip hk4 (.inl (by simp at h;omega))).symm
    have hkl:k<l.length:=by simp at h;omega
    obtain ⟨u,hu⟩:∃ u,l[0]?=some u:=⟨l[0],List.getElem?_eq_getElem (by omega)⟩
    refine oj_run TT rfl ?_
    refine oj_idx TT rfl rfl rfl rfl rfl rfl rfl rfl rfl H (by omega) (bRows_get hu) (oj_run TT rfl ?_)
    (repeat (first | refine oj_then ?_ | (refine oj_band rfl rfl rfl rfl rfl rfl ?_;refine oj_run TT rfl ?_)))
    refine cj_if rfl (fun h=>?_) (fun h=>?_)
    · (repeat (first | refine cjr TT rfl ?_ | refine oj_nil ?_ | refine cj_exit ?_ | refine nj_then ?_ | refine nj_then_exit ?_ | refine nj_block_out ?_ | (refine oj_add rfl rfl rfl rfl rfl rfl (by omega) ?_;refine oj_run TT rfl ?_)))
      refine nj_again (k+1) ⟨by omega,?_⟩ (by omega) rfl (by (repeat first | exact trivial | refine ⟨rfl,?_⟩)) (by (repeat first | exact trivial | refine ⟨rfl,?_⟩)) rfl ⟨trivial,spanCells_lt 0,trivial,trivial⟩ trivial
      rw [<-hkn]
      exact (nextFrom_skip hk4 (.inr ⟨u,hu,by simpa using h⟩)).symm
    have heq:bAnd .u8 u.toNat (spanAt k).1=(spanAt k).2.1:=by simpa using h
    rw [nextFrom_take hk4 hkl hu heq] at hkn
    (repeat (first | refine cj_seq ?_ | refine cj_skip ?_ | refine nj_then ?_))
    refine cj_draw [(0,.pure),(1,.pure),(2,.quiet),(3,.pure),(4,.quiet),(5,.pure),(6,.pure),(7,.pure)] mixed (by kernel_rfl) (oj_run TT rfl ?_)
    refine oj_idx TT rfl rfl rfl rfl rfl rfl rfl rfl rfl H (by omega) (bRows_get hu) (oj_run TT rfl ?_)
    (repeat (first | refine cj_seq ?_ | refine cjr TT rfl ?_ | refine oj_then ?_ | (refine oj_bandnot rfl rfl rfl rfl rfl rfl ?_;refine oj_run TT rfl ?_) | (refine oj_conv TT _ rfl rfl rfl rfl rfl rfl rfl rfl rfl ?_;refine oj_run TT rfl ?_) | (refine oj_add rfl rfl rfl rfl rfl rfl (by omega) ?_;refine oj_run TT rfl ?_)))
    have hncap:=H.ncap
    refine oj_slice (vl:=some (.int .i64 1)) (vh:=some (.int .i64 (k+1))) TT 1 (k+1) rfl rfl rfl rfl rfl rfl rfl rfl rfl rfl (.inr ⟨_,_,rfl,rfl⟩) (.inr ⟨_,_,rfl,rfl⟩) (by omega) (by omega) hncap ?_
    have Ht:=H.sub (l:=1) (k:=k+1) (by omega) (by omega)
    rw [bRows_sub] at Ht
    generalize hao:(if cap=1 then ao else ao.map (·.add (1*1)))=ao' at Ht
    generalize hcap':cap - 1=cap' at Ht
    generalize htl:(l.take (k+1)).drop 1=tl at Ht
    have htll:tl.length=k:=by rw [<-htl];simp;omega
    rw [show k+1 - 1=k by omega] at Ht
    refine oj_set 39 (.a (.v (.slice ao' k cap'))) rfl trivial (fun β=>?_) (oj_run TT rfl ?_)
    · rw [show k+1 - 1=k by omega]
    (repeat (first | refine oj_then ?_ | refine cj_block ?_))
    refine cj_loop2 (fun _ _=>σ) (fun (i:Nat) (r:Int)=>[(0,.a (.v (.slice ao l.length cap))),(4,.a (.v (.int .i64 k))),(5,.a (.p 0 0)),(6,.a (.v (.int .i32 r))),(9,.agg spanCells),(10,.a (.v (.int .i64 k))),(39,.a (.v (.slice ao' k cap'))),(40,.a (.v (.int .i64 k))),(41,.a (.v (.int .i64 i)))])
      (fun _ _=>[(0,.loc 336,[.v (.int .u8 (spanAt k).1),.v (.int .u8 (spanAt k).2.1),.v (.int .i32 (spanAt k).2.2)])]) (fun _ _=>[]) 1
      (fun i r=>i<=k/\tailR r (tl.drop i)=tailR (IntKind.i32.wrap (bAndNot .u8 u.toNat (spanAt k).1)) tl) (fun i _=>k - i) 0 (IntKind.i32.wrap (bAndNot .u8 u.toNat (spanAt k).1)) ⟨by omega,rfl⟩ rfl (by (repeat first | exact trivial | refine ⟨rfl,?_⟩)) (by (repeat first | exact trivial | refine ⟨rfl,?_⟩)) rfl ⟨trivial,trivial,Nat.zero_lt_one,trivial,spanCells_lt 1,trivial,trivial,trivial,trivial,trivial⟩ (by (repeat' (first | exact trivial | exact Nat.le_of_ble_eq_true rfl | refine AllLt.of ?_ | constructor))) fun i r ⟨hi,hir⟩=>?_
    (repeat (first | refine cj_seq ?_ | refine cjr TT rfl ?_ | refine oj_then ?_))
    refine cj_if rfl (fun h=>?_) (fun h=>?_)
    · have hik:i<k:=by simp at h;omega
      obtain ⟨c,hc⟩:∃ c,tl[i]?=some c:=⟨tl[i],List.getElem?_eq_getElem (by omega)⟩
      have hdrop:tl.drop i=c::tl.drop (i+1):=by
        rw [List.drop_eq_getElem_cons (by omega)]
        rw [List.getElem?_eq_getElem (by omega)] at hc
        injection hc with hc
        rw [hc]
      rw [hdrop] at hir
      simp only [tailR] at hir
      (repeat (first | refine cj_seq ?_ | refine cjr TT rfl ?_ | refine cj_skip ?_ | refine cj_block ?_ | refine nj_then ?_))
      refine oj_idx TT rfl rfl rfl rfl rfl rfl rfl rfl rfl Ht (by omega) (bRows_get hc) (oj_run TT rfl ?_)
      (repeat (first | refine cj_seq ?_ | refine cjr TT rfl ?_ | refine oj_then ?_ | (refine oj_band rfl rfl rfl rfl rfl rfl ?_;refine oj_run TT rfl ?_)))
      refine cj_if rfl (fun h=>?_) (fun h=>?_)
      · (repeat (first | refine cj_seq ?_ | refine cjr TT rfl ?_ | refine oj_then ?_ | refine cj_ret ?_ | refine nj_then_ret ?_ | refine nj_block_ret ?_))
        refine nj_ret TT rfl fun β w' _ _=>?_
        have hne:bAnd .u8 c.toNat 192≠128:=by simpa using h
        rw [if_neg hne] at hir
        rw [<-hkn,nextAt,htl,<-hir]
        rfl
      · have heq:bAnd .u8 c.toNat 192=128:=by simpa using h
        rw [if_pos heq] at hir
        (repeat (first | refine cjr TT rfl ?_ | refine oj_nil ?_ | refine cj_skip ?_ | refine nj_then ?_ | refine nj_block ?_ | (refine oj_band rfl rfl rfl rfl rfl rfl ?_;refine oj_run TT rfl ?_) | (refine oj_bor rfl rfl rfl rfl rfl rfl ?_;refine oj_run TT rfl ?_) | (refine oj_conv TT _ rfl rfl rfl rfl rfl rfl rfl rfl rfl ?_;refine oj_run TT rfl ?_) | (refine oj_bshl rfl rfl rfl rfl rfl rfl (by decide) ?_;refine oj_run TT rfl ?_) | (refine oj_add rfl rfl rfl rfl rfl rfl (by omega) ?_;refine oj_run TT rfl ?_)))
        refine nj_again (i+1,bOr .i32 (bShl .i32 r 6) (IntKind.i32.wrap (bAnd .u8 c.toNat 63))) ⟨hik,hir⟩ (by dsimp only;omega) rfl (by (repeat first | exact trivial | refine ⟨rfl,?_⟩)) (by (repeat first | exact trivial | refine ⟨rfl,?_⟩)) rfl ⟨trivial,trivial,Nat.zero_lt_one,trivial,spanCells_lt 1,trivial,trivial,trivial,trivial,trivial⟩ (by (repeat' (first | exact trivial | exact Nat.le_of_ble_eq_true rfl | refine AllLt.of ?_ | constructor)))
    · have hik:i=k:=by simp at h;omega
      rw [List.drop_of_length_le (by omega)] at hir
      simp only [tailR] at hir
      (repeat (first | refine cj_seq ?_ | refine cjr TT rfl ?_ | refine cj_exit ?_ | refine nj_then ?_ | refine nj_then_exit ?_ | refine nj_block_out ?_))
      have hfin:utfNext l=if r<(spanAt k).2.2\/soundR r=false then (0,0) else (r,(k:Int)+1):=by
        rw [<-hkn,nextAt,htl,<-hir]
      refine oj_split 59 rfl (fun h=>?_) (fun h=>?_)
      · refine oj_run TT rfl ?_
        (repeat (first | refine cj_seq ?_ | refine cjr TT rfl ?_ | refine oj_then ?_ | refine cj_if_t rfl ?_ | refine cj_ret ?_ | refine nj_then_ret ?_ | refine nj_block_ret ?_))
        refine nj_ret TT rfl fun β w' _ _=>?_
        rw [hfin,if_pos (.inl (by simpa using h))]
        rfl
      refine oj_run TT rfl ?_
      refine oj_callP rfl rfl rfl rfl rfl Tryz.call232 (by (repeat' (first | exact trivial | constructor))) (sound_c σ r) fun v hv=>⟨.a (.b (soundR r)),trivial,hv.symm,?_⟩
      refine oj_run TT rfl ?_
      (repeat refine oj_then ?_)
      refine cj_if rfl (fun h'=>?_) (fun h'=>?_)
      · (repeat (first | refine cj_seq ?_ | refine cjr TT rfl ?_ | refine oj_then ?_ | refine cj_ret ?_ | refine nj_then_ret ?_ | refine nj_block_ret ?_))
        refine nj_ret TT rfl fun β w' _ _=>?_
        rw [hfin,if_pos (.inr (by simpa using h'))]
        rfl
      · (repeat (first | refine cj_seq ?_ | refine cjr TT rfl ?_ | refine oj_then ?_ | refine cj_skip ?_ | refine cj_ret ?_ | refine nj_then ?_ | refine nj_then_ret ?_ | refine nj_block_ret ?_ | (refine oj_add rfl rfl rfl rfl rfl rfl (by omega) ?_;refine oj_run TT rfl ?_)))
        refine nj_ret TT rfl fun β w' _ _=>?_
        rw [hfin,if_neg (by simp at h h';simp [h'];omega)]
        rfl
  · (repeat (first | refine cj_seq ?_ | refine cjr TT rfl ?_ | refine oj_then ?_ | refine cj_exit ?_ | refine cj_ret ?_ | refine nj_then ?_ | refine nj_then_exit ?_ | refine nj_block_out ?_))
    refine nj_ret TT rfl fun β w' _ _=>?_
    have:k=4:=by simp at h;omega
    subst this
    rw [<-hkn]
    rfl
end Go.Sy
namespace Go.Sy
open Go.Proofs
theorem tail_len (l:List UInt8) (k:Nat) (u:UInt8):0<=(nextAt l k u).2/\(nextAt l k u).2<=k+1:=by
  unfold nextAt
  split
  · simp;omega
  · split<;>simp<;>omega
theorem next_len (l:List UInt8):∀ (n k:Nat),0<=(nextFrom l n k).2/\(nextFrom l n k).2<=l.length
  | 0,k=>by simp [nextFrom]
  | n+1,k=>by
    cases l with
    | nil=>simp [nextFrom]
    | cons u l =>
      simp only [nextFrom]
      split
      · exact next_len (u::l) n (k+1)
      · rename_i h
        simp only [not_or] at h
        have:=tail_len (u::l) k u
        omega
def checkFrom (l:List UInt8):Nat->Nat->Int
  | 0,_ => -1
  | n+1,at_ =>
    if at_<l.length then
      if (utfNext (l.drop at_)).2=0 then at_ else checkFrom l n (at_+(utfNext (l.drop at_)).2.toNat)
    else -1
def utfCheck (l:List UInt8):Int:=checkFrom l (l.length+1) 0
set_option maxRecDepth 100000 in
set_option maxHeartbeats 1000000 in
theorem utfCheck_c (σ:Snap) (ao:Option Addr) (cap:Nat) (l:List UInt8) (H:SlAt σ ao l.length cap 1 (bRows l)) (hl:l.length<=mostLen) :
    PlainS Tryz.prog 139 [.a (.v (.slice ao l.length cap))] σ (fun v=>v=.int .i64 (utfCheck l)):=by
  have hl':=hl
  simp only [mostLen] at hl'
  refine enter_p Tryz.func139 rfl rfl (by (repeat' (first | exact trivial | constructor))) fun w=>?_
  (repeat (first | refine cj_seq ?_ | refine cjr TT rfl ?_ | refine oj_then ?_ | refine cj_block ?_))
  refine cj_loop2 (fun _ _=>σ) (fun (n:Nat) (k:Nat)=>[(0,.a (.v (.slice ao l.length cap))),(3,.a (.v (.int .i64 k)))]) (fun _ _=>[]) (fun _ _=>[]) 0
    (fun n k=>k<=l.length/\l.length - k<n/\checkFrom l n k=utfCheck l) (fun n k=>l.length - k) (l.length+1) 0 ⟨by omega,by omega,rfl⟩ rfl (by (repeat first | exact trivial | refine ⟨rfl,?_⟩)) (by (repeat first | exact trivial | refine ⟨rfl,?_⟩)) rfl (by (repeat' (first | exact trivial | constructor))) (by (repeat' exact trivial)) fun n k ⟨hk,hn,hkn⟩=>?_
  (repeat (first | refine cj_seq ?_ | refine cjr TT rfl ?_ | refine oj_then ?_))
  refine cj_if rfl (fun h=>?_) (fun h=>?_)
  · have hkl:k<l.length:=by simp at h;omega
    (repeat (first | refine cj_seq ?_ | refine cjr TT rfl ?_ | refine cj_skip ?_ | refine cj_block ?_ | refine nj_then ?_))
    have hncap:=H.ncap
    refine oj_slice (vl:=some (.int .i64 k)) (vh:=none) TT k l.length rfl rfl rfl rfl rfl rfl rfl rfl rfl rfl (.inr ⟨_,_,rfl,rfl⟩) (.inl ⟨rfl,rfl⟩) (by omega) hncap hncap ?_
    have Ht:=H.sub (l:=k) (k:=l.length) (by omega) (by omega)
    rw [bRows_sub,List.take_length] at Ht
    generalize hao:(if cap=k then ao else ao.map (·.add (k*1)))=ao' at Ht
    generalize hcap':cap - k=cap' at Ht
    have hdl:(l.drop k).length=l.length - k:=List.length_drop
    rw [<-hdl] at Ht
    refine oj_set 13 (.a (.v (.slice ao' (l.drop k).length cap'))) rfl trivial (fun β=>?_) (oj_run TT rfl ?_)
    · rw [hdl]
    refine oj_callP rfl rfl rfl rfl rfl Tryz.call199 (by (repeat' (first | exact trivial | constructor))) (utfNext_c σ ao' cap' (l.drop k) Ht (by rw [hdl];simp only [mostLen];omega)) fun v hv=>⟨_,by (repeat' (first | exact trivial | refine SV.lt_tup ?_ | constructor)),hv.symm,?_⟩
    refine oj_run TT rfl ?_
    (repeat (first | refine cj_seq ?_ | refine cjr TT rfl ?_ | refine oj_then ?_))
    have hb:0<=(utfNext (l.drop k)).2/\(utfNext (l.drop k)).2<=(l.drop k).length:=next_len (l.drop k) 4 0
    obtain ⟨m,rfl⟩:∃ m,n=m+1:=⟨n - 1,by omega⟩
    rw [checkFrom,if_pos hkl] at hkn
    refine cj_if rfl (fun h=>?_) (fun h=>?_)
    · (repeat (first | refine cj_seq ?_ | refine cjr TT rfl ?_ | refine oj_then ?_ | refine cj_ret ?_ | refine nj_then_ret ?_ | refine nj_block_ret ?_))
      refine nj_ret TT rfl fun β w' _ _=>?_
      rw [if_pos (by simpa using h)] at hkn
      rw [<-hkn]
      rfl
    · have h0:(utfNext (l.drop k)).2≠0:=by simpa using h
      rw [if_neg h0] at hkn
      (repeat (first | refine cjr TT rfl ?_ | refine oj_nil ?_ | refine cj_skip ?_ | refine nj_then ?_ | refine nj_block ?_ | (refine oj_add rfl rfl rfl rfl rfl rfl (by omega) ?_;refine oj_run TT rfl ?_)))
      have he:(k:Int)+(utfNext (l.drop k)).2=((k+(utfNext (l.drop k)).2.toNat:Nat):Int):=by omega
      rw [he]
      refine nj_again (m,k+(utfNext (l.drop k)).2.toNat) ⟨?_,?_,hkn⟩ ?_ rfl (by (repeat first | exact trivial | refine ⟨rfl,?_⟩)) (by (repeat first | exact trivial | refine ⟨rfl,?_⟩)) rfl (by (repeat' (first | exact trivial | constructor))) (by (repeat' exact trivial))<;>(dsimp only;omega)
  · have hkl:¬ k<l.length:=by simp at h;omega
    obtain ⟨m,rfl⟩:∃ m,n=m+1:=⟨n - 1,by omega⟩
    rw [checkFrom,if_neg hkl] at hkn
    (repeat (first | refine cj_seq ?_ | refine cjr TT rfl ?_ | refine oj_then ?_ | refine cj_exit ?_ | refine cj_ret ?_ | refine nj_then ?_ | refine nj_then_exit ?_ | refine nj_block_out ?_))
    refine nj_ret TT rfl fun β w' _ _=>?_
    rw [<-hkn]
    rfl
end Go.Sy
namespace Go.Sy
open Go.Proofs
theorem keyRow_lt {n:Nat} {k:ByteArray} {r:List AT} (h:∀ c∈r,c.lt n):∀ c∈keyRow k r,c.lt n:=by
  intro c hc
  rcases List.mem_cons.1 hc with rfl | hc
  · trivial
  · exact h c hc
def keyOk (k:ByteArray):Bool:=decide (utfCheck k.data.toList<0)
set_option maxRecDepth 100000 in
set_option maxHeartbeats 1000000 in
theorem fields1_c (σ:Snap) (k:ByteArray) (r:List AT) (hk:k.size<=mostLen) (hr:r.length=8/\∀ c∈r,c.lt 0) :
    PlainS Tryz.prog 230 [.agg (keyRow k r)] σ (fun v=>v=.bool (!keyOk k)):=by
  obtain ⟨hr8,hrl⟩:=hr
  obtain ⟨l,rfl⟩:=mkB_ex k
  have hsz:=mkB_size l
  match r,hr8,hrl with
  | [a0,a1,a2,a3,a4,a5,a6,a7],_,hrl =>
  have hrow:∀ c∈keyRow (mkB l) [a0,a1,a2,a3,a4,a5,a6,a7],c.lt 0:=by
    intro c hc
    rcases List.mem_cons.1 hc with rfl | hc
    · trivial
    · exact hrl c hc
  refine enter_p Tryz.func230 rfl rfl ⟨hrow,trivial⟩ fun w=>?_
  (repeat (first | refine cj_seq ?_ | refine cjr TT rfl ?_ | refine oj_then ?_))
  refine oj_bytes (y:=mkB l) TT rfl rfl rfl rfl rfl rfl rfl rfl rfl rfl rfl fun ao cap σ' hle H=>?_
  rw [hsz,bRows_mk] at H
  refine oj_set 5 (.a (.v (.slice ao l.length cap))) rfl trivial (fun β=>by rw [hsz]) (oj_run TT rfl ?_)
  refine oj_callP rfl rfl rfl rfl rfl Tryz.call139 (by (repeat' (first | exact trivial | constructor))) (utfCheck_c σ' ao cap l H (by rw [<-hsz];exact hk)) fun v hv=>⟨.a (.v (.int .i64 (utfCheck l))),trivial,hv.symm,?_⟩
  refine oj_run TT rfl ?_
  (repeat (first | refine oj_then ?_ | refine cj_ret ?_))
  refine nj_ret TT rfl fun β w' _ _=>?_
  show Value.bool _=_
  congr 1
  simp only [keyOk,mkB_list]
  rw [Bool.eq_iff_iff]
  by_cases h:utfCheck l<0
  · first | (simp [h];done) | (simp [h];omega)
  · first | (simp [h];done) | (simp [h];omega)
def badKey:List ByteArray->Nat->Int
  | [],_ => -1
  | k::ks,i=>if keyOk k then badKey ks (i+1) else i
theorem badKey_spec:∀ (ks:List ByteArray) (i:Nat),(0<=badKey ks i)↔ks.all keyOk=false
  | [],i=>by simp [badKey]
  | k::ks,i=>by
    simp only [badKey,List.all_cons]
    split
    · rename_i h;rw [badKey_spec ks (i+1),h,Bool.true_and]
    · rename_i h;simp [h]
set_option maxRecDepth 100000 in
set_option maxHeartbeats 1000000 in
theorem indexKey_c (σ:Snap) (g:GVal) (la:Option Addr) (lc:Nat) (lrows:List (List AT)) (ma:Option Addr) (mc:Nat) (vrows:List (List AT)) (V:VAt σ g la lc lrows ma mc vrows) :
    PlainS Tryz.prog 246 [.a (.v (.slice ma g.ks.length mc)),.a (.fn (.func 230) [])] σ (fun v=>v=.int .i64 (badKey g.ks 0)):=by
  have hkl:=V.kl
  simp only [mostLen] at hkl
  refine enter_p Tryz.func246 rfl rfl (by (repeat' (first | exact trivial | exact SV.lt_fn0 | constructor))) fun w=>?_
  (repeat (first | refine cj_seq ?_ | refine cjr TT rfl ?_ | refine oj_then ?_ | refine cj_block ?_))
  refine cj_loop (fun _=>σ) (fun (k:Nat)=>[(0,.a (.v (.slice ma g.ks.length mc))),(1,.a (.fn (.func 230) [])),(7,.a (.v (.int .i64 g.ks.length))),(8,.a (.v (.int .i64 k)))]) (fun _=>[]) (fun _=>[]) 0
    (fun k=>k<=g.ks.length/\badKey (g.ks.drop k) k=badKey g.ks 0) (fun k=>g.ks.length - k) 0 ⟨Nat.zero_le _,rfl⟩ rfl (by (repeat first | exact trivial | refine ⟨rfl,?_⟩)) (by (repeat first | exact trivial | refine ⟨rfl,?_⟩)) rfl (by (repeat' (first | exact trivial | exact SV.lt_fn0 | constructor))) (by (repeat' exact trivial)) fun k ⟨hk,hbk⟩=>?_
  (repeat (first | refine cj_seq ?_ | refine cjr TT rfl ?_ | refine oj_then ?_))
  refine cj_if rfl (fun h=>?_) (fun h=>?_)
  · have hkl':k<g.ks.length:=by simpa using h
    obtain ⟨r,hr1,hr2⟩:=V.v.get (List.getElem?_eq_getElem (l:=g.vs) (i:=k) (by have:=V.kv;omega))
    have hrow:=keyRows_get (List.getElem?_eq_getElem hkl') hr1
    have hkk:=V.kk _ (List.getElem_mem hkl')
    have hr8:=hr2.len
    have hrc:=hr2.clo
    rw [List.drop_eq_getElem_cons hkl',badKey] at hbk
    (repeat (first | refine cj_seq ?_ | refine cjr TT rfl ?_ | refine oj_then ?_ | refine cj_skip ?_ | refine cj_block ?_ | refine nj_then ?_))
    match r,hr8,hrc,hrow with
    | [a0,a1,a2,a3,a4,a5,a6,a7],hr8,hrc,hrow =>
    refine oj_idx TT rfl rfl rfl rfl rfl rfl rfl rfl rfl V.M (by omega) hrow (oj_run TT rfl ?_)
    skip
    refine oj_callP rfl rfl rfl rfl rfl Tryz.call230 ⟨keyRow_lt hrc,trivial⟩ (fields1_c σ g.ks[k] [a0,a1,a2,a3,a4,a5,a6,a7] hkk ⟨rfl,hrc⟩) fun v hv=>⟨.a (.b (!keyOk g.ks[k])),trivial,hv.symm,?_⟩
    refine oj_run TT rfl ?_
    (repeat refine oj_then ?_)
    refine cj_if rfl (fun h=>?_) (fun h=>?_)
    · (repeat (first | refine cj_seq ?_ | refine cjr TT rfl ?_ | refine oj_then ?_ | refine cj_ret ?_ | refine nj_then_ret ?_ | refine nj_block_ret ?_))
      refine nj_ret TT rfl fun β w' _ _=>?_
      rw [if_neg (by simpa using h)] at hbk
      rw [<-hbk]
      rfl
    · rw [if_pos (by simpa using h)] at hbk
      (repeat (first | refine cjr TT rfl ?_ | refine oj_nil ?_ | refine cj_skip ?_ | refine nj_then ?_ | refine nj_block ?_ | (refine oj_add rfl rfl rfl rfl rfl rfl (by omega) ?_;refine oj_run TT rfl ?_)))
      refine nj_again (k+1) ⟨hkl',hbk⟩ (by omega) rfl (by (repeat first | exact trivial | refine ⟨rfl,?_⟩)) (by (repeat first | exact trivial | refine ⟨rfl,?_⟩)) rfl (by (repeat' (first | exact trivial | exact SV.lt_fn0 | constructor))) (by (repeat' exact trivial))
  · have hk0:k=g.ks.length:=by simp at h;omega
    subst hk0
    rw [List.drop_length] at hbk
    (repeat (first | refine cj_seq ?_ | refine cjr TT rfl ?_ | refine oj_then ?_ | refine cj_exit ?_ | refine cj_ret ?_ | refine nj_then ?_ | refine nj_then_exit ?_ | refine nj_block_out ?_))
    refine nj_ret TT rfl fun β w' _ _=>?_
    rw [<-hbk]
    rfl
set_option maxRecDepth 100000 in
set_option maxHeartbeats 1000000 in
theorem containsKey_c (σ:Snap) (g:GVal) (la:Option Addr) (lc:Nat) (lrows:List (List AT)) (ma:Option Addr) (mc:Nat) (vrows:List (List AT)) (V:VAt σ g la lc lrows ma mc vrows) :
    PlainS Tryz.prog 229 [.a (.v (.slice ma g.ks.length mc)),.a (.fn (.func 230) [])] σ (fun v=>v=.bool (!g.ks.all keyOk)):=by
  refine enter_p Tryz.func229 rfl rfl (by (repeat' (first | exact trivial | exact SV.lt_fn0 | constructor))) fun w=>?_
  (repeat (first | refine cj_seq ?_ | refine cjr TT rfl ?_ | refine oj_then ?_))
  refine oj_callP rfl rfl rfl rfl rfl Tryz.call246 (by (repeat' (first | exact trivial | exact SV.lt_fn0 | constructor))) (indexKey_c σ g la lc lrows ma mc vrows V) fun v hv=>⟨.a (.v (.int .i64 (badKey g.ks 0))),trivial,hv.symm,?_⟩
  refine oj_run TT rfl ?_
  (repeat (first | refine oj_then ?_ | refine cj_ret ?_))
  refine nj_ret TT rfl fun β w' _ _=>?_
  show Value.bool _=_
  congr 1
  have:=badKey_spec g.ks 0
  rw [Bool.eq_iff_iff]
  simp only [decide_eq_true_eq,this,Bool.not_eq_true']
def emptyS:ByteArray:=⟨#[]⟩
def fieldsG (g:GVal):Bool :=
  let b:=!g.b
  let n:=decide (g.n=dec0)
  let s:=decide (g.s=emptyS)
  let l:=decide (g.l.length=0)
  let m:=decide (g.ks.length=0)
  if g.kind=0 then b&&n&&s&&l&&m
  else if g.kind=1 then n&&s&&l&&m
  else if g.kind=2 then decSane g.n&&b&&s&&l&&m
  else if g.kind=3 then decide (utfCheck g.s.data.toList<0)&&b&&n&&l&&m
  else if g.kind=4 then b&&n&&s&&m
  else if g.kind=5 then g.ks.all keyOk&&b&&n&&s&&l
  else false
theorem dec_add (a b:Nat):decide (a+b=0)=(decide (a=0)&&decide (b=0)):=by rw [Bool.eq_iff_iff];simp
theorem fieldsG_0 {g:GVal} (h:g.kind=0):fieldsG g=(!g.b&&decide (g.n=dec0)&&decide (g.s=emptyS)&&decide (g.l.length=0)&&decide (g.ks.length=0)):=by simp only [fieldsG,if_pos h]
theorem fieldsG_1 {g:GVal} (h:g.kind=1):fieldsG g=(decide (g.n=dec0)&&decide (g.s=emptyS)&&decide (g.l.length=0)&&decide (g.ks.length=0)):=by
  unfold fieldsG;rw [if_neg (by omega),if_pos h]
theorem fieldsG_2 {g:GVal} (h:g.kind=2):fieldsG g=(decSane g.n&&!g.b&&decide (g.s=emptyS)&&decide (g.l.length=0)&&decide (g.ks.length=0)):=by
  unfold fieldsG;rw [if_neg (by omega),if_neg (by omega),if_pos h]
theorem fieldsG_3 {g:GVal} (h:g.kind=3):fieldsG g=(decide (utfCheck g.s.data.toList<0)&&!g.b&&decide (g.n=dec0)&&decide (g.l.length=0)&&decide (g.ks.length=0)):=by
  unfold fieldsG;rw [if_neg (by omega),if_neg (by omega),if_neg (by omega),if_pos h]
theorem fieldsG_4 {g:GVal} (h:g.kind=4):fieldsG g=(!g.b&&decide (g.n=dec0)&&decide (g.s=emptyS)&&decide (g.ks.length=0)):=by
  unfold fieldsG;rw [if_neg (by omega),if_neg (by omega),if_neg (by omega),if_neg (by omega),if_pos h]
theorem fieldsG_5 {g:GVal} (h:g.kind=5):fieldsG g=(g.ks.all keyOk&&!g.b&&decide (g.n=dec0)&&decide (g.s=emptyS)&&decide (g.l.length=0)):=by
  unfold fieldsG;rw [if_neg (by omega),if_neg (by omega),if_neg (by omega),if_neg (by omega),if_neg (by omega),if_pos h]
theorem fieldsG_x {g:GVal} (h0:g.kind≠0) (h1:g.kind≠1) (h2:g.kind≠2) (h3:g.kind≠3) (h4:g.kind≠4) (h5:g.kind≠5):fieldsG g=false:=by
  unfold fieldsG;rw [if_neg h0,if_neg h1,if_neg h2,if_neg h3,if_neg h4,if_neg h5]
structure RestS where
  σ:Snap
  ok:Bool
  b:Bool
  n:GDec
  s:ByteArray
  la:Option Addr
  ll:Nat
  lc:Nat
  ma:Option Addr
  ml:Nat
  mc:Nat
def restCells (k:Int) (x:RestS):List AT:=[.v (.int .i64 k),.b x.b,.b x.n.neg,.v (.string x.n.dg),.v (.int .i64 x.n.ex),.v (.string x.s),.v (.slice x.la x.ll x.lc),.v (.slice x.ma x.ml x.mc)]
theorem restCells_lt (n:Nat) (k:Int) (x:RestS):∀ c∈restCells k x,c.lt n:=by simp [restCells,AT.lt]
set_option maxRecDepth 100000 in
set_option maxHeartbeats 1000000 in
theorem fields_c (σ:Snap) (g:GVal) (r:List AT) (hr:RepV σ g r) :
    PlainS Tryz.prog 197 [.agg r] σ (fun v=>v=.bool (fieldsG g)):=by
  obtain ⟨la,lc,lrows,ma,mc,vrows,rfl,V⟩:=hr.open
  have hll:=V.ll
  have hkl:=V.kl
  simp only [mostLen] at hkl hll
  refine enter_p Tryz.func197 rfl rfl (by (repeat' (first | exact trivial | exact vCells_lt _ _ _ _ _ _ | constructor))) fun w=>?_
  (repeat (first | refine cj_seq ?_ | refine cjr TT rfl ?_ | refine oj_then ?_ | refine cj_block ?_))
  refine cj_cutB (fun (x:RestS)=>x.σ) (fun x=>[(4,.a (.b x.ok)),(3,.a (.p 1 0))]) (fun x=>[(1,.loc 28,restCells g.kind x)]) (fun _=>[]) 2
    (fun x=>(x.ok&&!x.b&&decide (x.n=dec0)&&decide (x.s=emptyS)&&decide (x.ll+x.ml=0))=fieldsG g/\x.ll+x.ml<=1000000000000000) ?_ (fun x ⟨hx,hxm⟩=>?_)
  · refine cj_if rfl (fun h=>?_) (fun h=>?_)
    · have h0:g.kind=0:=by simpa using h
      (repeat (first | refine cj_skip ?_ | refine nj_block ?_))
      refine nj_set 4 (.a (.b true)) rfl trivial (fun _=>rfl) ?_
      refine nj_again ⟨σ,true,g.b,g.n,g.s,la,g.l.length,lc,ma,g.ks.length,mc⟩ ⟨?_,by dsimp only;omega⟩ Nat.zero_lt_one rfl (by (repeat first | exact trivial | refine ⟨rfl,?_⟩)) (by (repeat first | exact trivial | refine ⟨rfl,?_⟩)) rfl (by (repeat' (first | exact trivial | exact Nat.le_of_ble_eq_true rfl | constructor))) (by (repeat' (first | exact trivial | exact Nat.le_of_ble_eq_true rfl | exact vCells_lt _ _ _ _ _ _ | constructor)))
      rw [fieldsG_0 h0,dec_add]
      simp only [Bool.true_and,Bool.and_assoc]
    have h0:g.kind≠0:=by simpa using h
    (repeat (first | refine cj_seq ?_ | refine cjr TT rfl ?_ | refine oj_then ?_))
    refine cj_if rfl (fun h=>?_) (fun h=>?_)
    · have h1:g.kind=1:=by simpa using h
      (repeat (first | refine cjr TT rfl ?_ | refine oj_nil ?_ | refine nj_block ?_))
      refine nj_set 4 (.a (.b true)) rfl trivial (fun _=>rfl) ?_
      refine nj_rowset 1 (restCells g.kind ⟨σ,true,false,g.n,g.s,la,g.l.length,lc,ma,g.ks.length,mc⟩) rfl (fun _=>rfl) (restCells_lt _ _ _) ?_
      refine nj_again ⟨σ,true,false,g.n,g.s,la,g.l.length,lc,ma,g.ks.length,mc⟩ ⟨?_,by dsimp only;omega⟩ Nat.zero_lt_one rfl (by (repeat first | exact trivial | refine ⟨rfl,?_⟩)) (by (repeat first | exact trivial | refine ⟨rfl,?_⟩)) rfl (by (repeat' (first | exact trivial | exact Nat.le_of_ble_eq_true rfl | constructor))) (by (repeat' (first | exact trivial | exact Nat.le_of_ble_eq_true rfl | refine AllLt.of ?_ | constructor)))
      rw [fieldsG_1 h1,dec_add]
      simp only [Bool.true_and,Bool.not_false,Bool.and_assoc]
    have h1:g.kind≠1:=by simpa using h
    (repeat (first | refine cj_seq ?_ | refine cjr TT rfl ?_ | refine oj_then ?_))
    refine cj_if rfl (fun h=>?_) (fun h=>?_)
    · have h2:g.kind=2:=by simpa using h
      (repeat (first | refine cj_seq ?_ | refine cjr TT rfl ?_ | refine oj_then ?_))
      refine oj_callP rfl rfl rfl rfl rfl Tryz.call228 (by (repeat' (first | exact trivial | exact decCells_lt _ _ | constructor))) (decSane_c σ g.n V.dg) fun v hv=>⟨.a (.b (decSane g.n)),trivial,hv.symm,?_⟩
      refine oj_run TT rfl ?_
      (repeat (first | refine oj_nil ?_ | refine nj_block ?_))
      refine nj_rowset 1 (restCells g.kind ⟨σ,decSane g.n,g.b,dec0,g.s,la,g.l.length,lc,ma,g.ks.length,mc⟩) rfl (fun _=>rfl) (restCells_lt _ _ _) ?_
      refine nj_again ⟨σ,decSane g.n,g.b,dec0,g.s,la,g.l.length,lc,ma,g.ks.length,mc⟩ ⟨?_,by dsimp only;omega⟩ Nat.zero_lt_one rfl (by (repeat first | exact trivial | refine ⟨rfl,?_⟩)) (by (repeat first | exact trivial | refine ⟨rfl,?_⟩)) rfl (by (repeat' (first | exact trivial | exact Nat.le_of_ble_eq_true rfl | constructor))) (by (repeat' (first | exact trivial | exact Nat.le_of_ble_eq_true rfl | refine AllLt.of ?_ | constructor)))
      rw [fieldsG_2 h2,dec_add]
      simp only [decide_true,Bool.and_true,Bool.and_assoc]
    have h2:g.kind≠2:=by simpa using h
    (repeat (first | refine cj_seq ?_ | refine cjr TT rfl ?_ | refine oj_then ?_))
    refine cj_if rfl (fun h=>?_) (fun h=>?_)
    · have h3:g.kind=3:=by simpa using h
      obtain ⟨sl,hsl⟩:=mkB_ex g.s
      have hsz:=mkB_size sl
      have hs:=V.s
      (repeat (first | refine cj_seq ?_ | refine cjr TT rfl ?_ | refine oj_then ?_))
      refine oj_bytes (y:=g.s) TT rfl rfl rfl rfl rfl rfl rfl rfl rfl rfl rfl fun ao cap σ' hle H=>?_
      rw [hsl,hsz,bRows_mk] at H
      refine oj_set 25 (.a (.v (.slice ao sl.length cap))) rfl trivial (fun β=>by rw [hsl,hsz]) (oj_run TT rfl ?_)
      refine oj_callP rfl rfl rfl rfl rfl Tryz.call139 (by (repeat' (first | exact trivial | constructor))) (utfCheck_c σ' ao cap sl H (by rw [<-hsz,<-hsl];exact hs)) fun v hv=>⟨.a (.v (.int .i64 (utfCheck sl))),trivial,hv.symm,?_⟩
      refine oj_run TT rfl ?_
      (repeat (first | refine oj_nil ?_ | refine nj_block ?_))
      refine nj_rowset 1 (restCells g.kind ⟨σ',decide (utfCheck sl<0),g.b,g.n,emptyS,la,g.l.length,lc,ma,g.ks.length,mc⟩) rfl (fun _=>rfl) (restCells_lt _ _ _) ?_
      refine nj_again ⟨σ',decide (utfCheck sl<0),g.b,g.n,emptyS,la,g.l.length,lc,ma,g.ks.length,mc⟩ ⟨?_,by dsimp only;omega⟩ Nat.zero_lt_one rfl (by (repeat first | exact trivial | refine ⟨rfl,?_⟩)) (by (repeat first | exact trivial | refine ⟨rfl,?_⟩)) rfl (by (repeat' (first | exact trivial | exact Nat.le_of_ble_eq_true rfl | constructor))) (by (repeat' (first | exact trivial | exact Nat.le_of_ble_eq_true rfl | refine AllLt.of ?_ | constructor)))
      rw [fieldsG_3 h3,dec_add,hsl]
      simp only [mkB_list,decide_true,Bool.and_true,Bool.and_assoc]
      congr
    have h3:g.kind≠3:=by simpa using h
    (repeat (first | refine cj_seq ?_ | refine cjr TT rfl ?_ | refine oj_then ?_))
    refine cj_if rfl (fun h=>?_) (fun h=>?_)
    · have h4:g.kind=4:=by simpa using h
      (repeat (first | refine cjr TT rfl ?_ | refine oj_nil ?_ | refine nj_block ?_))
      refine nj_set 4 (.a (.b true)) rfl trivial (fun _=>rfl) ?_
      refine nj_rowset 1 (restCells g.kind ⟨σ,true,g.b,g.n,g.s,none,0,0,ma,g.ks.length,mc⟩) rfl (fun _=>rfl) (restCells_lt _ _ _) ?_
      refine nj_again ⟨σ,true,g.b,g.n,g.s,none,0,0,ma,g.ks.length,mc⟩ ⟨?_,by dsimp only;omega⟩ Nat.zero_lt_one rfl (by (repeat first | exact trivial | refine ⟨rfl,?_⟩)) (by (repeat first | exact trivial | refine ⟨rfl,?_⟩)) rfl (by (repeat' (first | exact trivial | exact Nat.le_of_ble_eq_true rfl | constructor))) (by (repeat' (first | exact trivial | exact Nat.le_of_ble_eq_true rfl | refine AllLt.of ?_ | constructor)))
      rw [fieldsG_4 h4,dec_add]
      simp only [decide_true,Bool.true_and,Bool.and_assoc]
    have h4:g.kind≠4:=by simpa using h
    (repeat (first | refine cj_seq ?_ | refine cjr TT rfl ?_ | refine oj_then ?_))
    refine cj_if rfl (fun h=>?_) (fun h=>?_)
    · have h5:g.kind=5:=by simpa using h
      (repeat (first | refine cj_seq ?_ | refine cjr TT rfl ?_ | refine oj_then ?_))
      refine oj_callP rfl rfl rfl rfl rfl Tryz.call229 (by (repeat' (first | exact trivial | exact SV.lt_fn0 | constructor))) (containsKey_c σ g la lc lrows ma mc vrows V) fun v hv=>⟨.a (.b (!g.ks.all keyOk)),trivial,hv.symm,?_⟩
      refine oj_run TT rfl ?_
      (repeat (first | refine oj_nil ?_ | refine nj_block ?_))
      refine nj_rowset 1 (restCells g.kind ⟨σ,!!g.ks.all keyOk,g.b,g.n,g.s,la,g.l.length,lc,none,0,0⟩) rfl (fun _=>rfl) (restCells_lt _ _ _) ?_
      refine nj_again ⟨σ,!!g.ks.all keyOk,g.b,g.n,g.s,la,g.l.length,lc,none,0,0⟩ ⟨?_,by dsimp only;omega⟩ Nat.zero_lt_one rfl (by (repeat first | exact trivial | refine ⟨rfl,?_⟩)) (by (repeat first | exact trivial | refine ⟨rfl,?_⟩)) rfl (by (repeat' (first | exact trivial | exact Nat.le_of_ble_eq_true rfl | constructor))) (by (repeat' (first | exact trivial | exact Nat.le_of_ble_eq_true rfl | refine AllLt.of ?_ | constructor)))
      rw [fieldsG_5 h5,dec_add]
      simp only [Bool.not_not,decide_true,Bool.and_true,Bool.and_assoc]
    have h5:g.kind≠5:=by simpa using h
    (repeat (first | refine cj_seq ?_ | refine cjr TT rfl ?_ | refine oj_then ?_ | refine cj_ret ?_ | refine nj_then_ret ?_ | refine nj_block_ret ?_))
    refine nj_ret TT rfl fun β w' _ _=>?_
    rw [fieldsG_x h0 h1 h2 h3 h4 h5]
    rfl
  · (repeat (first | refine cj_seq ?_ | refine cjr TT rfl ?_))
    refine oj_split 39 rfl (fun h=>?_) (fun h=>?_)
    rotate_left
    · refine oj_run TT rfl ?_
      (repeat (first | refine oj_then ?_ | refine cj_ret ?_))
      refine nj_ret TT rfl fun β w' _ _=>?_
      rw [<-hx,h]
      rfl
    rw [h,Bool.true_and] at hx
    refine oj_run TT rfl ?_
    refine oj_split 44 rfl (fun h=>?_) (fun h=>?_)
    rotate_left
    · refine oj_run TT rfl ?_
      (repeat (first | refine oj_then ?_ | refine cj_ret ?_))
      refine nj_ret TT rfl fun β w' _ _=>?_
      rw [<-hx,h]
      rfl
    rw [h,Bool.true_and] at hx
    refine oj_run TT rfl ?_
    refine oj_eqDec x.n dec0 rfl rfl rfl rfl rfl rfl rfl (fun _=>rfl) (fun _=>rfl) (oj_run TT rfl ?_)
    refine oj_split 50 rfl (fun h=>?_) (fun h=>?_)
    rotate_left
    · refine oj_run TT rfl ?_
      (repeat (first | refine oj_then ?_ | refine cj_ret ?_))
      refine nj_ret TT rfl fun β w' _ _=>?_
      rw [<-hx,h]
      rfl
    rw [h,Bool.true_and] at hx
    refine oj_run TT rfl ?_
    refine oj_split 55 rfl (fun h=>?_) (fun h=>?_)
    rotate_left
    · refine oj_run TT rfl ?_
      (repeat (first | refine oj_then ?_ | refine cj_ret ?_))
      refine nj_ret TT rfl fun β w' _ _=>?_
      have h:decide (x.s=emptyS)=false:=h
      rw [<-hx,h]
      rfl
    have h:decide (x.s=emptyS)=true:=h
    rw [h,Bool.true_and] at hx
    refine oj_run TT rfl ?_
    (repeat (first | refine oj_then ?_ | refine cj_ret ?_ | (refine oj_add rfl rfl rfl rfl rfl rfl (by omega) ?_;refine oj_run TT rfl ?_)))
    refine nj_ret TT rfl fun β w' _ _=>?_
    show Value.bool _=_
    rw [<-hx]
    congr 1
    rw [Bool.eq_iff_iff]
    simp only [decide_eq_true_eq]
    omega
end Go.Sy
namespace Go.Sy
open Go.Proofs
theorem VAt.monoC {σ σ':Snap} {g:GVal} {la:Option Addr} {lc:Nat} {lrows:List (List AT)} {ma:Option Addr} {mc:Nat} {vrows:List (List AT)} (h:VAt σ g la lc lrows ma mc vrows) (hc:σ.cle σ'):VAt σ' g la lc lrows ma mc vrows :=
  ⟨h.L.monoC hc,RepL.monoC hc h.l,h.kv,h.M.monoC hc,RepL.monoC hc h.v,h.dg,h.s,h.ll,h.kl,h.kk⟩
def hasKey:List ByteArray->ByteArray->Bool
  | [],_=>false
  | x::l,k=>decide (x=k)||hasKey l k
theorem hasKey_iff:∀ {l:List ByteArray} {k:ByteArray},hasKey l k=true↔k∈l
  | [],k=>by simp [hasKey]
  | x::l,k=>by
    simp only [hasKey,Bool.or_eq_true,decide_eq_true_eq,hasKey_iff (l:=l),List.mem_cons]
    exact ⟨fun h=>h.imp Eq.symm id,fun h=>h.imp Eq.symm id⟩
def twiceFrom (met:List ByteArray):List ByteArray->Bool
  | []=>false
  | k::ks=>if hasKey met k then true else twiceFrom (met++[k]) ks
def twiceG (ks:List ByteArray):Bool:=twiceFrom [] ks
def trueMap (l:List ByteArray):List (ByteArray×Value):=l.map fun k=>(k,Value.bool true)
theorem mix_true:∀ (l:List ByteArray) (k:ByteArray) (i:Nat),(mix (trueMap l) k i).map (·.2)=if hasKey l k then some (Value.bool true) else none
  | [],k,i=>by simp [trueMap,mix,hasKey]
  | x::l,k,i=>by
    have ih:=mix_true l k (i+1)
    simp only [trueMap,List.map_cons,mix,hasKey] at ih ⊢
    by_cases h:x=k
    · simp [h]
    · rw [if_neg h,ih]
      simp [h]
theorem mlook_true (l:List ByteArray) (k:ByteArray):mlook (trueMap l) k=if hasKey l k then some (Value.bool true) else none:=mix_true l k 0
theorem mput_true {l:List ByteArray} {k:ByteArray} (h:hasKey l k=false):mput (trueMap l) k (.bool true)=trueMap (l++[k]):=by
  rw [mput_new]
  · simp [trueMap]
  · intro p hp
    obtain ⟨x,hx,rfl⟩:=List.mem_map.1 hp
    intro e
    have e:x=k:=e
    rw [e] at hx
    rw [hasKey_iff.2 hx] at h
    cases h
theorem und193:Tryz.prog.underlying 334=some (.map 9 4):=by kernel_rfl
theorem run_zeroI {P:Program} {t:TypeId} {z:Value} (h:(P.info? t).map (·.zero)=some (some z)) (w:World):(zeroValue t).run P w=.ok z w:=by
  cases hi:P.info? t with
  | none=>rw [hi] at h;cases h
  | some i =>
    rw [hi] at h
    injection h with h
    exact run_zero hi h w
theorem zero4 (w:World):(zeroValue 4).run Tryz.prog w=.ok (.bool false) w:=run_zeroI (by kernel_rfl) w
theorem RepL.rows {σ:Snap}:∀ {gs:List GVal} {rs:List (List AT)},RepL σ gs rs->∀ r∈rs,r.length=8/\(∀ c∈r,c.lt 0)/\r.all AT.one=true
  | [],rs,h,r,hr=>by simp only [RepL] at h;subst h;cases hr
  | g::gs,rs,h,r,hr=>by
    simp only [RepL] at h
    obtain ⟨r0,rs',rfl,h2,h3⟩:=h
    rcases List.mem_cons.1 hr with rfl | hr
    · exact ⟨h2.len,h2.clo,h2.one⟩
    · exact RepL.rows h3 r hr
set_option maxRecDepth 100000 in
set_option maxHeartbeats 1000000 in
theorem twice_c (σ:Snap) (g:GVal) (la:Option Addr) (lc:Nat) (lrows:List (List AT)) (ma:Option Addr) (mc:Nat) (vrows:List (List AT)) (V:VAt σ g la lc lrows ma mc vrows) :
    PlainS Tryz.prog 198 [.a (.v (.slice ma g.ks.length mc))] σ (fun v=>v=.bool (twiceG g.ks)):=by
  have hkl:=V.kl
  simp only [mostLen] at hkl
  refine enter_p Tryz.func198 rfl rfl (by (repeat' (first | exact trivial | constructor))) fun w=>?_
  (repeat (first | refine cj_seq ?_ | refine cjr TT rfl ?_ | refine oj_then ?_))
  refine oj_makeMap Value.string rfl rfl rfl rfl rfl fun b σ1 hb hle hM=>oj_run TT rfl ?_
  (repeat (first | refine cj_seq ?_ | refine cjr TT rfl ?_ | refine oj_then ?_ | refine cj_block ?_))
  refine cj_loop2 (fun (s:Snap) (_:Nat)=>s) (fun _ (k:Nat)=>[(3,.a (.v (.map (some b)))),(7,.a (.v (.slice ma g.ks.length mc))),(8,.a (.v (.int .i64 g.ks.length))),(9,.a (.v (.int .i64 k)))]) (fun _ _=>[]) (fun _ _=>[]) 0
    (fun s k=>k<=g.ks.length/\σ.cle s/\MapAt Value.string s b (trueMap (g.ks.take k))/\twiceFrom (g.ks.take k) (g.ks.drop k)=twiceG g.ks) (fun _ k=>g.ks.length - k) σ1 0 ⟨Nat.zero_le _,hle.cle,hM,rfl⟩ rfl (by (repeat first | exact trivial | refine ⟨rfl,?_⟩)) (by (repeat first | exact trivial | refine ⟨rfl,?_⟩)) rfl (by (repeat' (first | exact trivial | constructor))) (by (repeat' exact trivial)) fun s k ⟨hk,hs,hM,htw⟩=>?_
  (repeat (first | refine cj_seq ?_ | refine cjr TT rfl ?_ | refine oj_then ?_))
  refine cj_if rfl (fun h=>?_) (fun h=>?_)
  · have hkl':k<g.ks.length:=by simpa using h
    have V:=V.monoC hs
    obtain ⟨r,hr1,hr2⟩:=V.v.get (List.getElem?_eq_getElem (l:=g.vs) (i:=k) (by have:=V.kv;omega))
    have hrow:=keyRows_get (List.getElem?_eq_getElem hkl') hr1
    obtain ⟨la',lc',lrows',ma',mc',vrows',rfl,V'⟩:=hr2.open
    rw [List.drop_eq_getElem_cons hkl',twiceFrom] at htw
    (repeat (first | refine cj_seq ?_ | refine cjr TT rfl ?_ | refine cj_skip ?_ | refine cj_block ?_ | refine nj_then ?_))
    refine oj_idx TT rfl rfl rfl rfl rfl rfl rfl rfl rfl V.M (by omega) hrow (oj_run TT rfl ?_)
    (repeat (first | refine cj_seq ?_ | refine cjr TT rfl ?_ | refine oj_then ?_))
    refine oj_lookup (y:=.a (.b (hasKey (g.ks.take k) g.ks[k]))) (kk:=g.ks[k]) (z:=.bool false) (string_key rfl) und193 und9 zero4 rfl rfl rfl rfl rfl rfl ⟨_,rfl,fun _=>rfl⟩ hM trivial ?_ (oj_run TT rfl ?_)
    · rw [mlook_true]
      cases hasKey (g.ks.take k) g.ks[k]<;>rfl
    (repeat refine oj_then ?_)
    refine cj_if rfl (fun h=>?_) (fun h=>?_)
    · (repeat (first | refine cj_seq ?_ | refine cjr TT rfl ?_ | refine oj_then ?_ | refine cj_ret ?_ | refine nj_then_ret ?_ | refine nj_block_ret ?_))
      refine nj_ret TT rfl fun β w' _ _=>?_
      rw [if_pos h] at htw
      rw [<-htw]
      rfl
    · have hm:hasKey (g.ks.take k) g.ks[k]=false:=h
      rw [if_neg (by simp [hm])] at htw
      (repeat (first | refine cjr TT rfl ?_ | refine cj_skip ?_ | refine nj_then ?_))
      refine oj_mapUpdate (kk:=g.ks[k]) (vv:=.bool true) (string_key rfl) und193 und9 rfl rfl rfl rfl rfl ⟨_,rfl,fun _=>rfl⟩ ⟨_,rfl,fun _=>rfl⟩ hM (Snap.none_of_le (Snap.le_refl _) hb) fun s' hs' _ hM'=>oj_run TT rfl ?_
      (repeat (first | refine cjr TT rfl ?_ | refine oj_nil ?_ | refine nj_then ?_ | refine nj_block ?_ | (refine oj_add rfl rfl rfl rfl rfl rfl (by omega) ?_;refine oj_run TT rfl ?_)))
      rw [mput_true hm] at hM'
      refine nj_again (s',k+1) ⟨hkl',Snap.cle_trans hs hs',?_,?_⟩ (by dsimp only;omega) rfl (by (repeat first | exact trivial | refine ⟨rfl,?_⟩)) (by (repeat first | exact trivial | refine ⟨rfl,?_⟩)) rfl (by (repeat' (first | exact trivial | constructor))) (by (repeat' exact trivial))
      · rw [List.take_succ_eq_append_getElem hkl'];exact hM'
      · rw [List.take_succ_eq_append_getElem hkl'];exact htw
  · have hk0:k=g.ks.length:=by simp at h;omega
    subst hk0
    rw [List.drop_length] at htw
    (repeat (first | refine cj_seq ?_ | refine cjr TT rfl ?_ | refine oj_then ?_ | refine cj_exit ?_ | refine cj_ret ?_ | refine nj_then ?_ | refine nj_then_exit ?_ | refine nj_block_out ?_))
    refine nj_ret TT rfl fun β w' _ _=>?_
    rw [<-htw]
    rfl
set_option maxRecDepth 100000 in
set_option maxHeartbeats 1000000 in
theorem cloneV_c (σ:Snap) (ao:Option Addr) (n cap:Nat) (rows:List (List AT)) (H:SlAt σ ao n cap 8 rows) (hn:n<=1000000) (hone:∀ r∈rows,r.all AT.one=true) :
    FnS Tryz.prog 178 [.a (.v (.slice ao n cap))] σ [] (fun v _ A'=>∃ ao' cap',v=.slice ao' n cap'/\n<=cap'/\A'=[⟨ao',n,cap',28,8,rows.flatten.map AT.val⟩]):=by
  refine enter_f Tryz.func178 rfl rfl (by (repeat' (first | exact trivial | constructor))) fun w=>?_
  (repeat (first | refine cj_seq ?_ | refine cjr TT rfl ?_ | refine oj_then ?_ | (refine oj_slnil TT rfl rfl rfl rfl rfl rfl rfl rfl ?_;refine oj_run TT rfl ?_)))
  refine cj_if rfl (fun h=>?_) (fun h=>?_)
  · have h0:ao=none:=by simpa using h
    have hn0:n=0:=by
      rcases H.at_ with h1 | ⟨ad,h1,_⟩
      · exact h1
      · rw [h0] at h1;cases h1
    subst hn0
    have hr:rows=[]:=by have:=H.len;exact List.eq_nil_of_length_eq_zero this
    subst hr
    (repeat (first | refine cj_seq ?_ | refine cjr TT rfl ?_ | refine oj_then ?_ | refine cj_ret ?_ | refine nj_then_ret ?_))
    refine nj_nilarr 28 8 ?_
    refine nj_fret TT rfl fun β w' _ _=>?_
    exact ⟨none,0,rfl,Nat.le_refl _,rfl⟩
  (repeat (first | refine cj_seq ?_ | refine cjr TT rfl ?_ | refine cj_skip ?_ | refine nj_then ?_))
  refine oj_own 0 0 8 rfl (by (repeat' (first | exact trivial | refine AllLt.of ?_))) rfl (by decide) fun gb=>?_
  refine oj_append_sl TT 0 rfl rfl rfl rfl rfl rfl rfl H rfl rfl rfl rfl rfl rfl rfl rfl rfl hone (by omega) (by show (0+n)*112<=_;omega) fun ao' cap' hcap'=>oj_run TT rfl ?_
  (repeat (first | refine oj_then ?_ | refine cj_ret ?_))
  refine nj_fret TT rfl fun β w' _ _=>?_
  refine ⟨ao',cap',by show Value.slice ao' (0+n) cap'=_;rw [Nat.zero_add],by omega,?_⟩
  show [_]=[_]
  rw [Nat.zero_add]
  rfl
set_option maxRecDepth 100000 in
set_option maxHeartbeats 1000000 in
theorem inside_c (σ:Snap) (g:GVal) (la:Option Addr) (lc:Nat) (lrows:List (List AT)) (ma:Option Addr) (mc:Nat) (vrows:List (List AT)) (V:VAt σ g la lc lrows ma mc vrows) (hn:g.l.length+g.ks.length<=1000000) :
    PureS Tryz.prog 115 [.agg (vCells g la lc ma mc)] σ (fun v σ'=>∃ ao cap,v=.slice ao (g.l.length+g.ks.length) cap/\SlAt σ' ao (g.l.length+g.ks.length) cap 8 (lrows++vrows)):=by
  have hll:=V.l.len
  have hvl:=V.vlen
  refine enter_s Tryz.func115 rfl rfl (by (repeat' (first | exact trivial | exact vCells_lt _ _ _ _ _ _ | constructor))) fun w=>?_
  (repeat (first | refine cj_seq ?_ | refine cjr TT rfl ?_ | refine oj_then ?_))
  refine oj_callF [] (A0:=[]) (Ar:=[]) rfl rfl rfl rfl rfl rfl rfl Tryz.call178 (by (repeat' (first | exact trivial | constructor))) (cloneV_c σ la g.l.length lc lrows V.L (by omega) fun r hr=>(V.l.rows r hr).2.2) fun v σ1 A1 hle ⟨ao,cap,hv,hcap,hA⟩=>⟨.a (.v (.slice ao g.l.length cap)),trivial,hv.symm,?_⟩
  subst hA
  have V:=V.monoC hle.cle
  refine oj_run TT rfl ?_
  (repeat (first | refine cj_seq ?_ | refine cjr TT rfl ?_ | refine oj_then ?_ | refine cj_block ?_))
  refine cj_loop2 (fun _ _=>σ1) (fun (k:Nat) (p:Option Addr×Nat)=>[(3,.a (.v (.slice p.1 (g.l.length+k) p.2))),(10,.a (.v (.slice ma g.ks.length mc))),(11,.a (.v (.int .i64 g.ks.length))),(12,.a (.v (.int .i64 k)))]) (fun _ _=>[])
    (fun k p=>[⟨p.1,g.l.length+k,p.2,28,8,(lrows++vrows.take k).flatten.map AT.val⟩]) 0
    (fun k p=>k<=g.ks.length/\g.l.length+k<=p.2) (fun k _=>g.ks.length - k) 0 (ao,cap) ⟨Nat.zero_le _,hcap⟩ rfl (by (repeat first | exact trivial | refine ⟨rfl,?_⟩)) (by (repeat first | exact trivial | refine ⟨rfl,?_⟩)) (by simp) (by (repeat' (first | exact trivial | constructor))) (by (repeat' exact trivial)) fun k p ⟨hk,hkc⟩=>?_
  (repeat (first | refine cj_seq ?_ | refine cjr TT rfl ?_ | refine oj_then ?_))
  refine cj_if rfl (fun h=>?_) (fun h=>?_)
  · have hkl':k<g.ks.length:=by simpa using h
    obtain ⟨r,hr1,hr2⟩:=V.v.get (List.getElem?_eq_getElem (l:=g.vs) (i:=k) (by have:=V.kv;omega))
    have hrow:=keyRows_get (List.getElem?_eq_getElem hkl') hr1
    obtain ⟨la',lc',lrows',ma',mc',vrows',rfl,V'⟩:=hr2.open
    (repeat (first | refine cj_seq ?_ | refine cjr TT rfl ?_ | refine cj_skip ?_ | refine cj_block ?_ | refine nj_then ?_))
    refine oj_idx TT rfl rfl rfl rfl rfl rfl rfl rfl rfl V.M (by omega) hrow (oj_run TT rfl ?_)
    (repeat (first | refine cjr TT rfl ?_ | refine oj_then ?_))
    refine oj_append_lit TT 0 rfl rfl rfl rfl rfl rfl rfl rfl rfl rfl rfl rfl rfl rfl rfl rfl rfl rfl (by (repeat' exact vCells_lt _ _ _ _ _ _)) rfl (by omega) (by show (g.l.length+k+1)*112<=_;omega) fun ao' cap' hcap'=>oj_run TT rfl ?_
    (repeat (first | refine cjr TT rfl ?_ | refine oj_nil ?_ | refine nj_then ?_ | refine nj_block ?_ | (refine oj_add rfl rfl rfl rfl rfl rfl (by omega) ?_;refine oj_run TT rfl ?_)))
    refine nj_again (k+1,ao',cap') ⟨hkl',hcap'⟩ (by dsimp only;omega) rfl (by (repeat first | exact trivial | refine ⟨rfl,?_⟩)) (by (repeat first | exact trivial | refine ⟨rfl,?_⟩)) ?_ (by (repeat' (first | exact trivial | constructor))) (by (repeat' exact trivial))
    show [_]=[_]
    have e:vrows.take (k+1)=vrows.take k++[vCells (g.vs[k]'(by have:=V.kv;omega)) la' lc' ma' mc']:=by
      rw [List.take_succ_eq_append_getElem (by omega)]
      congr 2
      exact (List.getElem?_eq_some_iff.1 hr1).2
    rw [e]
    simp only [List.flatten_append,List.map_append,List.flatten_cons,List.flatten_nil,List.append_nil,List.append_assoc]
    rfl
  · have hk0:k=g.ks.length:=by simp at h;omega
    subst hk0
    (repeat (first | refine cj_seq ?_ | refine cjr TT rfl ?_ | refine oj_then ?_ | refine cj_exit ?_ | refine cj_ret ?_ | refine nj_then ?_ | refine nj_then_exit ?_ | refine nj_block_out ?_))
    refine nj_seal 0 rfl rfl fun σ' hle' hS=>?_
    refine nj_ret TT rfl fun β w' _ _=>?_
    refine ⟨p.1,p.2,rfl,?_⟩
    refine hS.sl (rows:=lrows++vrows) ?_ (fun r hr=>?_) (by rw [List.length_append];omega) rfl hkc
    · rw [<-hvl,List.take_length]
    · rcases List.mem_append.1 hr with hr | hr
      · exact ⟨(V.l.rows r hr).1,(V.l.rows r hr).2.1⟩
      · exact ⟨(V.v.rows r hr).1,(V.v.rows r hr).2.1⟩
end Go.Sy
namespace Go.Sy
open Go.Proofs
mutual
def saneG:GVal->Int->Int->Int×Int
  | .mk k b n s l ks vs,deep,c =>
    if fieldsG (.mk k b n s l ks vs)=false then (1,c+1)
    else if twiceG ks=true then (7,c+1)
    else if 4<=k/\64<=deep then (3,c+1)
    else if 4096<c+1 then (4,c+1)
    else if (saneL l deep (c+1)).1≠0 then saneL l deep (c+1) else saneL vs deep (saneL l deep (c+1)).2
def saneL:List GVal->Int->Int->Int×Int
  | [],_,c=>(0,c)
  | g::gs,deep,c=>if (saneG g (deep+1) c).1≠0 then saneG g (deep+1) c else saneL gs deep (saneG g (deep+1) c).2
end
theorem saneL_append:∀ (a b:List GVal) (deep c:Int),saneL (a++b) deep c=if (saneL a deep c).1≠0 then saneL a deep c else saneL b deep (saneL a deep c).2
  | [],b,deep,c=>by simp [saneL]
  | g::a,b,deep,c=>by
    simp only [List.cons_append,saneL]
    by_cases h:(saneG g (deep+1) c).1≠0
    · simp only [if_pos h]
    · simp only [if_neg h,saneL_append a b]
theorem saneG_eq (g:GVal) (deep c:Int):saneG g deep c=if fieldsG g=false then (1,c+1) else if twiceG g.ks=true then (7,c+1) else if 4<=g.kind/\64<=deep then (3,c+1)
    else if 4096<c+1 then (4,c+1) else saneL (g.l++g.vs) deep (c+1):=by
  cases g
  simp only [saneG,GVal.kind,GVal.ks,GVal.l,GVal.vs,saneL_append]
mutual
theorem saneG_bd:∀ (g:GVal) (deep c:Int),c<=4096->c<=(saneG g deep c).2/\(saneG g deep c).2<=4097/\((saneG g deep c).1=0->(saneG g deep c).2<=4096)
  | .mk k b n s l ks vs,deep,c,hc=>by
    simp only [saneG]
    split
    · simp;omega
    split
    · simp;omega
    split
    · simp;omega
    split
    · simp;omega
    have h1:=saneL_bd l deep (c+1) (by omega)
    split
    · rename_i h;exact ⟨by omega,h1.2.1,fun h0=>absurd h0 h⟩
    · rename_i h
      have h0:(saneL l deep (c+1)).1=0:=by omega
      have h2:=saneL_bd vs deep (saneL l deep (c+1)).2 (h1.2.2 h0)
      exact ⟨by omega,h2.2.1,h2.2.2⟩
theorem saneL_bd:∀ (gs:List GVal) (deep c:Int),c<=4096->c<=(saneL gs deep c).2/\(saneL gs deep c).2<=4097/\((saneL gs deep c).1=0->(saneL gs deep c).2<=4096)
  | [],deep,c,hc=>by simp [saneL];omega
  | g::gs,deep,c,hc=>by
    simp only [saneL]
    have h1:=saneG_bd g (deep+1) c hc
    split
    · rename_i h;exact ⟨h1.1,h1.2.1,fun h0=>absurd h0 h⟩
    · rename_i h
      have h0:(saneG g (deep+1) c).1=0:=by omega
      have h2:=saneL_bd gs deep (saneG g (deep+1) c).2 (h1.2.2 h0)
      exact ⟨by omega,h2.2.1,h2.2.2⟩
end
def cE (gc:Nat) (c:Int):AE:=⟨some ⟨gc,0,none⟩,1,1,241,1,[.int .i64 c]⟩
theorem in_len (g:GVal):g.l.length+g.vs.length<=g.weight:=by
  have:=g.weight_eq
  have:=weights_len g.l
  have:=weights_len g.vs
  omega
theorem in_weight {g x:GVal} (h:x∈g.l++g.vs):x.weight<g.weight:=by
  rcases List.mem_append.1 h with h | h
  · exact weight_l h
  · exact weight_v h
set_option maxRecDepth 100000 in
set_option maxHeartbeats 1000000 in
theorem sane_c (g:GVal):∀ (σ:Snap) (r:List AT) (deep c:Int) (gc:Nat),RepV σ g r->0<=deep->deep+g.weight<=1099511627776->g.weight<=1000000->0<=c->c<=4096 ->
    FnS Tryz.prog 138 [.a (.v (.pointer (some ⟨gc,0,none⟩))),.agg r,.a (.v (.int .i64 deep))] σ [cE gc c] (fun v _ A'=>v=.int .i64 (saneG g deep c).1/\A'=[cE gc (saneG g deep c).2]):=by
  induction g using GVal.byWeight with | _ g ih=>?_
  intro σ r deep c gc hr hd1 hd2 hw hc1 hc2
  obtain ⟨la,lc,lrows,ma,mc,vrows,rfl,V⟩:=hr.open
  have hil:=in_len g
  have hkv:=V.kv
  have hbd:=saneG_eq g deep c
  refine enter_f Tryz.func138 rfl rfl (by (repeat' (first | exact trivial | exact vCells_lt _ _ _ _ _ _ | constructor))) fun w=>?_
  (repeat (first | refine cj_seq ?_ | refine cjr TT rfl ?_ | refine oj_then ?_))
  refine oj_ldA 0 (c:=.v (.int .i64 c)) TT rfl rfl rfl rfl rfl rfl rfl rfl rfl rfl rfl trivial (oj_run TT rfl ?_)
  (repeat (refine oj_add rfl rfl rfl rfl rfl rfl (by omega) ?_;refine oj_run TT rfl ?_))
  refine oj_stA 0 (A':=[cE gc (c+1)]) TT rfl rfl rfl rfl rfl rfl rfl rfl rfl rfl Nat.zero_lt_one trivial rfl rfl (oj_run TT rfl ?_)
  (repeat (first | refine cj_seq ?_ | refine cjr TT rfl ?_ | refine oj_then ?_ | refine cj_block ?_))
  refine oj_callP rfl rfl rfl rfl rfl Tryz.call197 (by (repeat' (first | exact trivial | exact vCells_lt _ _ _ _ _ _ | constructor))) (fields_c σ g _ hr) fun v hv=>⟨.a (.b (fieldsG g)),trivial,hv.symm,?_⟩
  refine oj_run TT rfl ?_
  (repeat refine oj_then ?_)
  refine cj_if rfl (fun h=>?_) (fun h=>?_)
  · have h:fieldsG g=false:=by simpa using h
    rw [if_pos h] at hbd
    (repeat (first | refine cj_seq ?_ | refine cjr TT rfl ?_ | refine oj_then ?_ | refine cj_ret ?_ | refine nj_then_ret ?_ | refine nj_block_ret ?_))
    refine nj_fret TT rfl fun β w' _ _=>?_
    rw [hbd]
    exact ⟨rfl,rfl⟩
  have h:fieldsG g=true:=by simpa using h
  rw [if_neg (by simp [h])] at hbd
  (repeat (first | refine cj_seq ?_ | refine cjr TT rfl ?_))
  refine oj_callP rfl rfl rfl rfl rfl Tryz.call198 (by (repeat' (first | exact trivial | constructor))) (twice_c σ g la lc lrows ma mc vrows V) fun v hv=>⟨.a (.b (twiceG g.ks)),trivial,hv.symm,?_⟩
  refine oj_run TT rfl ?_
  (repeat refine oj_then ?_)
  refine cj_if rfl (fun h=>?_) (fun h=>?_)
  · rw [if_pos h] at hbd
    (repeat (first | refine cj_seq ?_ | refine cjr TT rfl ?_ | refine oj_then ?_ | refine cj_ret ?_ | refine nj_then_ret ?_ | refine nj_block_ret ?_))
    refine nj_fret TT rfl fun β w' _ _=>?_
    rw [hbd]
    exact ⟨rfl,rfl⟩
  rw [if_neg (by simp [h])] at hbd
  refine cj_cutB (α:=Unit) (fun _=>σ) (fun _=>[(0,.a (.v (.pointer (some ⟨gc,0,none⟩)))),(2,.a (.v (.int .i64 deep))),(4,.a (.p 0 0))]) (fun _=>[(0,.loc 28,vCells g la lc ma mc)]) (fun _=>[cE gc (c+1)]) 1
    (fun _=>¬ (4<=g.kind/\64<=deep)/\¬ 4096<c+1) ?_ (fun _ ⟨hx1,hx2⟩=>?_)
  · have tail:∀ {env:Env} {hp:HP} {nh:Nat} {Q:Exit->Act->World->Prop},True->True:=fun _=>trivial
    (repeat (first | refine cj_seq ?_ | refine cjr TT rfl ?_))
    refine oj_split 29 rfl (fun h=>?_) (fun h=>?_)
    · have h4:4<=g.kind:=of_decide_eq_true h
      refine oj_run TT rfl ?_
      (repeat refine oj_then ?_)
      refine cj_if rfl (fun h=>?_) (fun h=>?_)
      · have h64:64<=deep:=of_decide_eq_true h
        rw [if_pos ⟨h4,h64⟩] at hbd
        (repeat (first | refine cj_seq ?_ | refine cjr TT rfl ?_ | refine oj_then ?_ | refine cj_ret ?_ | refine nj_then_ret ?_ | refine nj_block_ret ?_))
        refine nj_fret TT rfl fun β w' _ _=>?_
        rw [hbd]
        exact ⟨rfl,rfl⟩
      have h64:¬ 64<=deep:=of_decide_eq_false h
      have hn:¬ (4<=g.kind/\64<=deep):=fun h=>h64 h.2
      rw [if_neg hn] at hbd
      (repeat (first | refine cj_seq ?_ | refine cjr TT rfl ?_))
      refine oj_ldA 0 (c:=.v (.int .i64 (c+1))) TT rfl rfl rfl rfl rfl rfl rfl rfl rfl rfl rfl trivial (oj_run TT rfl ?_)
      (repeat refine oj_then ?_)
      refine cj_if rfl (fun h=>?_) (fun h=>?_)
      · have h:4096<c+1:=of_decide_eq_true h
        rw [if_pos h] at hbd
        (repeat (first | refine cj_seq ?_ | refine cjr TT rfl ?_ | refine oj_then ?_ | refine cj_ret ?_ | refine nj_then_ret ?_ | refine nj_block_ret ?_))
        refine nj_fret TT rfl fun β w' _ _=>?_
        rw [hbd]
        exact ⟨rfl,rfl⟩
      have h:¬ 4096<c+1:=of_decide_eq_false h
      (repeat (first | refine cj_skip ?_ | refine nj_block ?_))
      refine nj_again () ⟨hn,h⟩ Nat.zero_lt_one rfl (by (repeat first | exact trivial | refine ⟨rfl,?_⟩)) (by (repeat first | exact trivial | refine ⟨rfl,?_⟩)) rfl (by (repeat' (first | exact trivial | exact Nat.le_of_ble_eq_true rfl | constructor))) (by (repeat' (first | exact trivial | exact Nat.le_of_ble_eq_true rfl | exact vCells_lt _ _ _ _ _ _ | constructor)))
    · have h4:¬ 4<=g.kind:=of_decide_eq_false h
      have hn:¬ (4<=g.kind/\64<=deep):=fun h=>h4 h.1
      rw [if_neg hn] at hbd
      refine oj_run TT rfl ?_
      (repeat (first | refine cj_seq ?_ | refine cjr TT rfl ?_ | refine oj_then ?_ | refine cj_if_f rfl ?_))
      refine oj_ldA 0 (c:=.v (.int .i64 (c+1))) TT rfl rfl rfl rfl rfl rfl rfl rfl rfl rfl rfl trivial (oj_run TT rfl ?_)
      (repeat refine oj_then ?_)
      refine cj_if rfl (fun h=>?_) (fun h=>?_)
      · have h:4096<c+1:=of_decide_eq_true h
        rw [if_pos h] at hbd
        (repeat (first | refine cj_seq ?_ | refine cjr TT rfl ?_ | refine oj_then ?_ | refine cj_ret ?_ | refine nj_then_ret ?_ | refine nj_block_ret ?_))
        refine nj_fret TT rfl fun β w' _ _=>?_
        rw [hbd]
        exact ⟨rfl,rfl⟩
      have h:¬ 4096<c+1:=of_decide_eq_false h
      (repeat (first | refine cj_skip ?_ | refine nj_block ?_))
      refine nj_again () ⟨hn,h⟩ Nat.zero_lt_one rfl (by (repeat first | exact trivial | refine ⟨rfl,?_⟩)) (by (repeat first | exact trivial | refine ⟨rfl,?_⟩)) rfl (by (repeat' (first | exact trivial | exact Nat.le_of_ble_eq_true rfl | constructor))) (by (repeat' (first | exact trivial | exact Nat.le_of_ble_eq_true rfl | exact vCells_lt _ _ _ _ _ _ | constructor)))
  rw [if_neg hx1,if_neg hx2] at hbd
  (repeat (first | refine cj_seq ?_ | refine cjr TT rfl ?_))
  refine oj_callS rfl rfl rfl rfl rfl Tryz.call115 (by (repeat' (first | exact trivial | exact vCells_lt _ _ _ _ _ _ | constructor))) (inside_c σ g la lc lrows ma mc vrows V (by omega)) fun v σ' hle ⟨ao,cap,hv,H⟩=>⟨.a (.v (.slice ao (g.l.length+g.ks.length) cap)),trivial,hv.symm,?_⟩
  have R:RepL σ' (g.l++g.vs) (lrows++vrows):=RepL.append (V.l.mono hle) (V.v.mono hle)
  have hlen:(g.l++g.vs).length=g.l.length+g.ks.length:=by rw [List.length_append,hkv]
  refine oj_run TT rfl ?_
  (repeat (first | refine oj_then ?_ | refine cj_block ?_))
  refine cj_loop2 (fun (s:Snap) (_:Nat×Int)=>s) (fun _ p=>[(0,.a (.v (.pointer (some ⟨gc,0,none⟩)))),(2,.a (.v (.int .i64 deep))),(40,.a (.v (.slice ao (g.l.length+g.ks.length) cap))),(41,.a (.v (.int .i64 (g.l.length+g.ks.length:Nat)))),(42,.a (.v (.int .i64 p.1)))])
    (fun _ _=>[]) (fun _ p=>[cE gc p.2]) 0
    (fun s p=>p.1<=g.l.length+g.ks.length/\σ'.le s/\0<=p.2/\p.2<=4096/\saneL ((g.l++g.vs).drop p.1) deep p.2=saneG g deep c) (fun _ p=>g.l.length+g.ks.length - p.1) σ' (0,c+1)
    ⟨Nat.zero_le _,Snap.le_refl _,by dsimp only;omega,by dsimp only;omega,hbd.symm⟩ rfl (by (repeat first | exact trivial | refine ⟨rfl,?_⟩)) (by (repeat first | exact trivial | refine ⟨rfl,?_⟩)) rfl (by (repeat' (first | exact trivial | constructor))) (by (repeat' exact trivial)) fun s ⟨k,c'⟩ ⟨hk,hs,hc1',hc2',hbd'⟩=>?_
  dsimp only at hk hc1' hc2' hbd' ⊢
  (repeat (first | refine cj_seq ?_ | refine cjr TT rfl ?_ | refine oj_then ?_))
  refine cj_if rfl (fun h=>?_) (fun h=>?_)
  · have hkl:k<g.l.length+g.ks.length:=by have:=of_decide_eq_true h;omega
    have hkl':k<(g.l++g.vs).length:=by omega
    obtain ⟨r,hr1,hr2⟩:=(R.mono hs).get (List.getElem?_eq_getElem hkl')
    obtain ⟨la',lc',lrows',ma',mc',vrows',rfl,V'⟩:=hr2.open
    have hwx:=in_weight (List.getElem_mem hkl')
    have hb:=saneG_bd (g.l++g.vs)[k] (deep+1) c' hc2'
    rw [List.drop_eq_getElem_cons hkl',saneL] at hbd'
    (repeat (first | refine cj_seq ?_ | refine cjr TT rfl ?_ | refine cj_skip ?_ | refine cj_block ?_ | refine nj_then ?_))
    refine oj_idx TT rfl rfl rfl rfl rfl rfl rfl rfl rfl (H.mono hs) (by omega) hr1 (oj_run TT rfl ?_)
    (repeat (first | refine cj_seq ?_ | refine cjr TT rfl ?_ | refine oj_then ?_ | (refine oj_add rfl rfl rfl rfl rfl rfl (by omega) ?_;refine oj_run TT rfl ?_)))
    refine oj_callF [0] (A0:=[cE gc c']) (Ar:=[]) rfl rfl rfl rfl rfl rfl rfl Tryz.call138 (by (repeat' (first | exact trivial | exact vCells_lt _ _ _ _ _ _ | constructor))) (ih _ hwx s _ (deep+1) c' gc V'.rep (by omega) (by omega) (by omega) hc1' hc2') fun v σ2 A2 hle2 ⟨hv,hA⟩=>⟨.a (.v (.int .i64 (saneG (g.l++g.vs)[k] (deep+1) c').1)),trivial,hv.symm,?_⟩
    subst hA
    refine oj_run TT rfl ?_
    (repeat (first | refine cj_seq ?_ | refine cjr TT rfl ?_ | refine oj_then ?_))
    refine cj_if rfl (fun h=>?_) (fun h=>?_)
    · have h:(saneG (g.l++g.vs)[k] (deep+1) c').1≠0:=by simpa using h
      rw [if_pos h] at hbd'
      (repeat (first | refine cj_seq ?_ | refine cjr TT rfl ?_ | refine oj_then ?_ | refine cj_ret ?_ | refine nj_then_ret ?_ | refine nj_block_ret ?_))
      refine nj_fret TT rfl fun β w' _ _=>?_
      rw [<-hbd']
      exact ⟨rfl,rfl⟩
    · have h:(saneG (g.l++g.vs)[k] (deep+1) c').1=0:=by simpa using h
      rw [if_neg (by simp [h])] at hbd'
      (repeat (first | refine cjr TT rfl ?_ | refine oj_nil ?_ | refine cj_skip ?_ | refine nj_then ?_ | refine nj_block ?_ | (refine oj_add rfl rfl rfl rfl rfl rfl (by omega) ?_;refine oj_run TT rfl ?_)))
      refine nj_again (σ2,k+1,(saneG (g.l++g.vs)[k] (deep+1) c').2) ⟨hkl,Snap.le_trans hs hle2,by dsimp only;omega,hb.2.2 h,hbd'⟩ (by dsimp only;omega) rfl (by (repeat first | exact trivial | refine ⟨rfl,?_⟩)) (by (repeat first | exact trivial | refine ⟨rfl,?_⟩)) rfl (by (repeat' (first | exact trivial | constructor))) (by (repeat' exact trivial))
  · have hk0:k=(g.l++g.vs).length:=by simp at h;omega
    subst hk0
    rw [List.drop_length,saneL] at hbd'
    (repeat (first | refine cj_seq ?_ | refine cjr TT rfl ?_ | refine oj_then ?_ | refine cj_exit ?_ | refine cj_ret ?_ | refine nj_then ?_ | refine nj_then_exit ?_ | refine nj_block_out ?_))
    refine nj_fret TT rfl fun β w' _ _=>?_
    rw [<-hbd']
    exact ⟨rfl,rfl⟩
def sane (g:GVal):Int:=(saneG g 0 0).1
set_option maxRecDepth 100000 in
set_option maxHeartbeats 1000000 in
theorem Sane_c (σ:Snap) (g:GVal) (r:List AT) (hr:RepV σ g r) (hw:g.weight<=1000000):PlainS Tryz.prog 60 [.agg r] σ (fun v=>v=.int .i64 (sane g)):=by
  obtain ⟨la,lc,lrows,ma,mc,vrows,rfl,V⟩:=hr.open
  refine enter_p Tryz.func60 rfl rfl (by (repeat' (first | exact trivial | exact vCells_lt _ _ _ _ _ _ | constructor))) fun w=>?_
  (repeat (first | refine cj_seq ?_ | refine cjr TT rfl ?_ | refine oj_then ?_))
  refine oj_own 1 1 1 rfl (by (repeat' (first | exact trivial | refine AllLt.of ?_ | constructor))) rfl (by decide) fun gc=>?_
  refine oj_callF [0] (A0:=[cE gc 0]) (Ar:=[]) rfl rfl rfl rfl rfl rfl rfl Tryz.call138 (by (repeat' (first | exact trivial | exact vCells_lt _ _ _ _ _ _ | constructor))) (sane_c g σ _ 0 0 gc V.rep (by omega) (by omega) hw (by omega) (by omega)) fun v σ2 A2 hle2 ⟨hv,hA⟩=>⟨.a (.v (.int .i64 (sane g))),trivial,hv.symm,?_⟩
  refine oj_run TT rfl ?_
  (repeat (first | refine oj_then ?_ | refine cj_ret ?_))
  refine nj_ret TT rfl fun β w' _ _=>?_
  rfl
end Go.Sy
/- Records, and a value's records. No program in sight. -/
namespace Go.Sy
structure GRec where
  st:Int
  en:Int
  lv:Int
  kd:Int
  nm:Bool
  name:ByteArray
  b:Bool
  n:GDec
  s:ByteArray
deriving DecidableEq
def recCells (r:GRec):List AT:=[.v (.int .i64 r.st),.v (.int .i64 r.en),.v (.int .i64 r.lv),.v (.int .i64 r.kd),.b r.nm,.v (.string r.name),.b r.b,.b r.n.neg,.v (.string r.n.dg),.v (.int .i64 r.n.ex),.v (.string r.s)]
theorem recCells_lt (n:Nat) (r:GRec):∀ c∈recCells r,c.lt n:=by simp [recCells,AT.lt]
def recRows (l:List GRec):List (List AT):=l.map recCells
theorem recRows_get {l:List GRec} {i:Nat} {r:GRec} (h:l[i]?=some r):(recRows l)[i]?=some (recCells r):=by simp [recRows,h]
theorem recRows_append (a b:List GRec):recRows (a++b)=recRows a++recRows b:=by simp [recRows]
theorem recRows_len (a:List GRec):(recRows a).length=a.length:=by simp [recRows]
theorem recRows_all (a:List GRec):∀ r∈recRows a,r.length=11/\(∀ c∈r,c.lt 0)/\r.all AT.one=true:=by
  intro r hr
  obtain ⟨x,_,rfl⟩:=List.mem_map.1 hr
  exact ⟨rfl,recCells_lt 0 x,rfl⟩
def recXs (l:List GRec):List Value:=(recRows l).flatten.map AT.val
theorem recXs_append (a b:List GRec):recXs (a++b)=recXs a++recXs b:=by simp [recXs,recRows_append]
theorem recXs_len (a:List GRec):(recXs a).length=a.length*11:=by
  unfold recXs
  rw [List.length_map,flat_len (sz:=11) (fun r hr=>(recRows_all a r hr).1),recRows_len]
theorem recXs_get {l:List GRec} {i j:Nat} {r:GRec} {c:AT} (h:l[i]?=some r) (hj:(recCells r)[j]?=some c):(recXs l)[i*11+j]?=some c.val:=by
  unfold recXs
  rw [List.getElem?_map,flat_get (sz:=11) (fun r hr=>(recRows_all l r hr).1) (recRows_get h) hj]
  rfl
theorem recXs_set {l:List GRec} {i j:Nat} {r r':GRec} (c:AT) (h:l[i]?=some r) (hj:j<11) (hr:(recCells r).set j c=recCells r'):(recXs l).set (i*11+j) c.val=recXs (l.set i r'):=by
  unfold recXs
  rw [<-List.map_set,flat_set (sz:=11) (fun r hr=>(recRows_all l r hr).1) c (recRows_get h) hj,hr]
  congr 2
  unfold recRows
  rw [List.map_set]
mutual
def shredV (gap:Int):GVal->Int->Bool->ByteArray->Int->List GRec×Int
  | .mk k b n s l ks vs,lv,nm,name,now =>
    let p:=shredL gap l (lv+1) (now+gap)
    let q:=shredM gap vs ks (lv+1) p.2
    (⟨now+gap,q.2+gap,lv,k,nm,name,b,n,s⟩::(p.1++q.1),q.2+gap)
def shredL (gap:Int):List GVal->Int->Int->List GRec×Int
  | [],_,now=>([],now)
  | g::gs,lv,now =>
    let p:=shredV gap g lv false ⟨#[]⟩ now
    let q:=shredL gap gs lv p.2
    (p.1++q.1,q.2)
def shredM (gap:Int):List GVal->List ByteArray->Int->Int->List GRec×Int
  | [],_,_,now=>([],now)
  | _::_,[],_,now=>([],now)
  | g::gs,k::ks,lv,now =>
    let p:=shredV gap g lv true k now
    let q:=shredM gap gs ks lv p.2
    (p.1++q.1,q.2)
end
theorem shredV_eq (gap:Int) (g:GVal) (lv:Int) (nm:Bool) (name:ByteArray) (now:Int) :
    shredV gap g lv nm name now=(⟨now+gap,(shredM gap g.vs g.ks (lv+1) (shredL gap g.l (lv+1) (now+gap)).2).2+gap,lv,g.kind,nm,name,g.b,g.n,g.s⟩ ::
      ((shredL gap g.l (lv+1) (now+gap)).1++(shredM gap g.vs g.ks (lv+1) (shredL gap g.l (lv+1) (now+gap)).2).1),
      (shredM gap g.vs g.ks (lv+1) (shredL gap g.l (lv+1) (now+gap)).2).2+gap):=by
  cases g;rfl
mutual
theorem shredV_len (gap:Int):∀ (g:GVal) (lv:Int) (nm:Bool) (name:ByteArray) (now:Int),(shredV gap g lv nm name now).1.length<=g.weight/\(shredV gap g lv nm name now).2=now+2*gap*(shredV gap g lv nm name now).1.length
  | .mk k b n s l ks vs,lv,nm,name,now=>by
    simp only [shredV,List.length_cons,List.length_append,GVal.weight]
    obtain ⟨h1,h2⟩:=shredL_len gap l (lv+1) (now+gap)
    obtain ⟨h3,h4⟩:=shredM_len gap vs ks (lv+1) (shredL gap l (lv+1) (now+gap)).2
    refine ⟨by omega,?_⟩
    rw [h4,h2]
    simp only [Int.natCast_add,Int.mul_add]
    omega
theorem shredL_len (gap:Int):∀ (gs:List GVal) (lv now:Int),(shredL gap gs lv now).1.length<=GVal.weights gs/\(shredL gap gs lv now).2=now+2*gap*(shredL gap gs lv now).1.length
  | [],lv,now=>by simp [shredL,GVal.weights]
  | g::gs,lv,now=>by
    simp only [shredL,List.length_append,GVal.weights]
    obtain ⟨h1,h2⟩:=shredV_len gap g lv false ⟨#[]⟩ now
    obtain ⟨h3,h4⟩:=shredL_len gap gs lv (shredV gap g lv false ⟨#[]⟩ now).2
    refine ⟨by omega,?_⟩
    rw [h4,h2]
    simp only [Int.natCast_add,Int.mul_add]
    omega
theorem shredM_len (gap:Int):∀ (gs:List GVal) (ks:List ByteArray) (lv now:Int),(shredM gap gs ks lv now).1.length<=GVal.weights gs/\(shredM gap gs ks lv now).2=now+2*gap*(shredM gap gs ks lv now).1.length
  | [],ks,lv,now=>by simp [shredM]
  | g::gs,[],lv,now=>by simp [shredM]
  | g::gs,k::ks,lv,now=>by
    simp only [shredM,List.length_append,GVal.weights]
    obtain ⟨h1,h2⟩:=shredV_len gap g lv true k now
    obtain ⟨h3,h4⟩:=shredM_len gap gs ks lv (shredV gap g lv true k now).2
    refine ⟨by omega,?_⟩
    rw [h4,h2]
    simp only [Int.natCast_add,Int.mul_add]
    omega
end
theorem shredV_now {gap:Int} (g:GVal) (lv:Int) (nm:Bool) (name:ByteArray) (now:Int) (h0:0<=gap) (h1:gap<=1000):now<=(shredV gap g lv nm name now).2/\(shredV gap g lv nm name now).2<=now+2000*g.weight:=by
  obtain ⟨h2,h3⟩:=shredV_len gap g lv nm name now
  generalize (shredV gap g lv nm name now).1.length=m at *
  have e1:0<=2*gap*(m:Int):=Int.mul_nonneg (by omega) (by omega)
  have e2:2*gap*(m:Int)<=2000*(m:Int):=Int.mul_le_mul_of_nonneg_right (by omega) (by omega)
  have e3:2000*(m:Int)<=2000*(g.weight:Int):=Int.mul_le_mul_of_nonneg_left (by omega) (by omega)
  omega
theorem shredL_now {gap:Int} (gs:List GVal) (lv:Int) (now:Int) (h0:0<=gap) (h1:gap<=1000):now<=(shredL gap gs lv now).2/\(shredL gap gs lv now).2<=now+2000*GVal.weights gs:=by
  obtain ⟨h2,h3⟩:=shredL_len gap gs lv now
  generalize (shredL gap gs lv now).1.length=m at *
  have e1:0<=2*gap*(m:Int):=Int.mul_nonneg (by omega) (by omega)
  have e2:2*gap*(m:Int)<=2000*(m:Int):=Int.mul_le_mul_of_nonneg_right (by omega) (by omega)
  have e3:2000*(m:Int)<=2000*(GVal.weights gs:Int):=Int.mul_le_mul_of_nonneg_left (by omega) (by omega)
  omega
theorem shredM_now {gap:Int} (gs:List GVal) (ks:List ByteArray) (lv:Int) (now:Int) (h0:0<=gap) (h1:gap<=1000):now<=(shredM gap gs ks lv now).2/\(shredM gap gs ks lv now).2<=now+2000*GVal.weights gs:=by
  obtain ⟨h2,h3⟩:=shredM_len gap gs ks lv now
  generalize (shredM gap gs ks lv now).1.length=m at *
  have e1:0<=2*gap*(m:Int):=Int.mul_nonneg (by omega) (by omega)
  have e2:2*gap*(m:Int)<=2000*(m:Int):=Int.mul_le_mul_of_nonneg_right (by omega) (by omega)
  have e3:2000*(m:Int)<=2000*(GVal.weights gs:Int):=Int.mul_le_mul_of_nonneg_left (by omega) (by omega)
  omega
mutual
def GVal.wf:GVal->Prop
  | .mk _ _ _ _ l ks vs=>ks.length=vs.length/\GVal.wfs l/\GVal.wfs vs
def GVal.wfs:List GVal->Prop
  | []=>True
  | g::gs=>g.wf/\GVal.wfs gs
end
mutual
theorem RepV.wf {σ:Snap}:∀ {g:GVal} {r:List AT},RepV σ g r->g.wf
  | .mk k b n s l ks vs,r,h=>by
    simp only [RepV] at h
    obtain ⟨_,_,_,_,_,_,_,_,h3,h4,_,h6,_⟩:=h
    exact ⟨h4,RepL.wfs h3,RepL.wfs h6⟩
theorem RepL.wfs {σ:Snap}:∀ {gs:List GVal} {rs:List (List AT)},RepL σ gs rs->GVal.wfs gs
  | [],_,_=>trivial
  | g::gs,rs,h=>by
    simp only [RepL] at h
    obtain ⟨r,rs',_,h2,h3⟩:=h
    exact ⟨RepV.wf h2,RepL.wfs h3⟩
end
end Go.Sy
