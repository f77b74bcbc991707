/- Parts of the proof of CStreamsGone: F29, F35, F36, F37, F38, Lg, Jb, Jd, F30, H1, H5. No conditions. -/
import Derived.Test.YtlonlnagmfdlbaaGreatDoorM8
namespace Go.Sy
open Go.Proofs
def strXs (l:List ByteArray):List Value:=l.map fun s=>Value.string s
def stE9 (bo:Option Addr) (bc:Nat) (l:List ByteArray):AE:=⟨bo,l.length,bc,9,1,strXs l⟩
theorem strRows_flat:∀ o:List ByteArray,strXs o=(strRows o).flatten.map AT.val
  | []=>rfl
  | k::o=>by
    show Value.string k::strXs o=_
    rw [strRows_flat o]
    rfl
theorem strRows_all (a:List ByteArray):∀ r∈strRows a,r.length=1/\(∀ c∈r,c.lt 0)/\r.all AT.one=true:=by
  intro r hr
  obtain ⟨x,_,rfl⟩:=List.mem_map.1 hr
  exact ⟨rfl,fun c hc=>(by cases hc with | head=>trivial | tail _ h=>cases h),rfl⟩
theorem st9_sealed {σ:Snap} {oo:Option Addr} {oc:Nat} {o:List ByteArray} (h:ArrSealed σ (stE9 oo oc o)) (hc:o.length<=oc):SlAt σ oo o.length oc 1 (strRows o) :=
  h.sl (E:=stE9 oo oc o) (strRows_flat o) (fun r hr=>⟨(strRows_all o r hr).1,(strRows_all o r hr).2.1⟩) (by simp [strRows]) rfl hc
def srXs (l:List SRow):List Value:=(srRows l).flatten.map AT.val
def srE (bo:Option Addr) (bc:Nat) (l:List SRow):AE:=⟨bo,l.length,bc,209,1,srXs l⟩
theorem srXs_append (a b:List SRow):srXs (a++b)=srXs a++srXs b:=by simp [srXs,srRows]
theorem srRows_all (a:List SRow):∀ r∈srRows a,r.length=1/\(∀ c∈r,c.lt 0)/\r.all AT.one=true:=by
  intro r hr
  obtain ⟨x,_,rfl⟩:=List.mem_map.1 hr
  exact ⟨rfl,fun c hc=>(by cases hc with | head=>trivial | tail _ h=>cases h),rfl⟩
theorem sr_sealed {σ:Snap} {oo:Option Addr} {oc:Nat} {o:List SRow} (h:ArrSealed σ (srE oo oc o)) (hc:o.length<=oc):SlAt σ oo o.length oc 1 (srRows o) :=
  h.sl (E:=srE oo oc o) rfl (fun r hr=>⟨(srRows_all o r hr).1,(srRows_all o r hr).2.1⟩) (by simp [srRows]) rfl hc
set_option maxRecDepth 100000 in
set_option maxHeartbeats 1000000 in
theorem CloneSt_c (σ:Snap) (xs:List ByteArray) (hl:xs.length<=1000000) (ao:Option Addr) (cap:Nat) (H:SlAt σ ao xs.length cap 1 (strRows xs)) :
    FnS Tryz.prog 171 [.a (.v (.slice ao xs.length cap))] σ [] (fun v _ A'=>∃ bo bc,v=.slice bo xs.length bc/\xs.length<=bc/\A'=[stE9 bo bc xs]):=by
  refine enter_f Tryz.func171 rfl rfl (by (repeat' (first | exact trivial | constructor))) fun w=>?_
  (repeat (first | refine cj_seq ?_ | refine cjr TT rfl ?_ | refine oj_then ?_ | (refine oj_slnil TT rfl rfl rfl rfl rfl rfl rfl rfl ?_;refine oj_run TT rfl ?_)))
  refine cj_if rfl (fun h=>?_) (fun h=>?_)
  · have h0:ao=none:=by simpa using h
    have hn0:xs.length=0:=by
      rcases H.at_ with h1 | ⟨ad,h1,_⟩
      · exact h1
      · rw [h0] at h1;cases h1
    have hr:xs=[]:=List.eq_nil_of_length_eq_zero hn0
    subst hr
    (repeat (first | refine cj_seq ?_ | refine cjr TT rfl ?_ | refine oj_then ?_ | refine cj_ret ?_ | refine nj_then_ret ?_))
    refine nj_nilarr 9 1 ?_
    refine nj_fret TT rfl fun β w' _ _=>?_
    exact ⟨none,0,rfl,Nat.le_refl _,rfl⟩
  (repeat (first | refine cj_seq ?_ | refine cjr TT rfl ?_ | refine cj_skip ?_ | refine nj_then ?_))
  refine oj_own 0 0 1 rfl (by (repeat' (first | exact trivial | refine AllLt.of ?_))) rfl (by decide) fun gb=>?_
  refine oj_append_sl TT 0 rfl rfl rfl rfl rfl rfl rfl H rfl rfl rfl rfl rfl rfl rfl rfl rfl (fun r hr=>(strRows_all xs r hr).2.2) (by omega) (by show (0+xs.length)*16<=_;omega) fun ao' cap' hcap'=>oj_run TT rfl ?_
  (repeat (first | refine oj_then ?_ | refine cj_ret ?_))
  refine nj_fret TT rfl fun β w' _ _=>?_
  refine ⟨ao',cap',by show Value.slice ao' (0+xs.length) cap'=_;rw [Nat.zero_add],by omega,?_⟩
  show [_]=[_]
  rw [Nat.zero_add]
  unfold stE9
  rw [strRows_flat]
  rfl
def dotS:ByteArray:=⟨#[46]⟩
def elemS:ByteArray:=⟨#[91,93]⟩
def pathStep (way:List ByteArray) (r:GRec):List ByteArray :=
  way.take (r.lv - 1).toNat++(if r.nm then [dotS++r.name] else if 0<r.lv then [elemS] else [])
def pathsF:List ByteArray->List GRec->List (List ByteArray)
  | _,[]=>[]
  | way,r::l=>pathStep way r::pathsF (pathStep way r) l
def pathsG (L:List GRec):List (List ByteArray):=pathsF [] L
theorem levelsOk.mono:∀ {l:List GRec} {m n:Nat},levelsOk m l->m<=n->levelsOk n l
  | [],_,_,_,_=>trivial
  | _::_,_,_,⟨h1,h2,h3⟩,hmn=>⟨h1,by omega,h3⟩
structure PaW where
  way:List ByteArray
  wo:Option Addr
  wc:Nat
structure PaS where
  way:List ByteArray
  wo:Option Addr
  wc:Nat
  out:List SRow
  oo:Option Addr
  oc:Nat
set_option maxRecDepth 100000 in
set_option maxHeartbeats 1000000 in
theorem Paths_c (σ:Snap) (L:List GRec) (R:RecsOk L) (hL:L.length<=100000) (hs:soundG L=true) (hlev:levelsOk 0 L) (ao:Option Addr) (cap:Nat) (H:SlAt σ ao L.length cap 11 (recRows L)) :
    PureS Tryz.prog 107 [.a (.v (.slice ao L.length cap))] σ (fun v σ'=>∃ ps oo oc,v=.slice oo ps.length oc/\SlAt σ' oo ps.length oc 1 (srRows ps)/\(∀ p∈ps,SrOk σ' p)/\ps.map SRow.ss=pathsG L):=by
  refine enter_s Tryz.func107 rfl rfl (by (repeat' (first | exact trivial | constructor))) fun w=>?_
  (repeat (first | refine cj_seq ?_ | refine cjr TT rfl ?_ | refine oj_then ?_))
  refine oj_callP rfl rfl rfl rfl rfl Tryz.call105 (by (repeat' (first | exact trivial | constructor))) (Sound_c σ L R.len R.fit R.bw ao cap H) fun v hv=>⟨.a .tt,trivial,by rw [hv,hs];rfl,?_⟩
  refine oj_run TT rfl ?_
  (repeat (first | refine cj_seq ?_ | refine cjr TT rfl ?_ | refine oj_then ?_ | refine cj_if_f rfl ?_ | refine cj_skip ?_ | refine cj_block ?_ | refine nj_then ?_))
  refine cj_nilarr 9 1 ?_
  refine cj_nilarr 209 1 ?_
  refine cj_cutB (fun (p:Snap×PaS)=>p.1) (fun p=>[(3,.a (.v (.slice p.2.oo p.2.out.length p.2.oc)))]) (fun _=>[]) (fun p=>[stE9 p.2.wo p.2.wc p.2.way,srE p.2.oo p.2.oc p.2.out]) 0
    (fun p=>p.2.out.map SRow.ss=pathsG L/\(∀ q∈p.2.out,SrOk p.1 q)/\p.2.out.length<=p.2.oc) ?_ (fun p hp=>?_)
  rotate_left
  · obtain ⟨s,way,wo,wc,out,oo,oc⟩:=p
    obtain ⟨h1,h2,h3⟩:=hp
    dsimp only at h1 h2 h3 ⊢
    (repeat (first | refine cj_seq ?_ | refine cjr TT rfl ?_ | refine oj_then ?_ | refine cj_ret ?_))
    refine nj_seal 1 rfl rfl fun σ2 hle2 hS=>?_
    refine nj_ret TT rfl fun β w' _ _=>?_
    exact ⟨out,oo,oc,rfl,sr_sealed hS h3,fun q hq=>(h2 q hq).mono hle2,h1⟩
  refine cj_loop2 (fun (s:Snap) (_:Nat×PaS)=>s) (fun _ t=>[(3,.a (.v (.slice t.2.oo t.2.out.length t.2.oc))),(4,.a (.v (.slice t.2.wo t.2.way.length t.2.wc))),(10,.a (.v (.slice ao L.length cap))),(11,.a (.v (.int .i64 L.length))),(12,.a (.v (.int .i64 (t.1:Nat))))])
    (fun _ _=>[]) (fun _ t=>[stE9 t.2.wo t.2.wc t.2.way,srE t.2.oo t.2.oc t.2.out]) 0
    (fun s t=>σ.le s/\t.1<=L.length/\t.2.out.map SRow.ss++pathsF t.2.way (L.drop t.1)=pathsG L/\levelsOk (t.2.way.length+1) (L.drop t.1)/\t.2.way.length<=t.1/\t.2.way.length<=t.2.wc/\t.2.out.length<=t.2.oc/\t.2.out.length<=t.1/\∀ q∈t.2.out,SrOk s q)
    (fun _ t=>L.length - t.1) σ (0,⟨[],none,0,[],none,0⟩) ⟨Snap.le_refl _,Nat.zero_le _,rfl,hlev.mono (Nat.zero_le _),Nat.le_refl _,Nat.le_refl _,Nat.le_refl _,Nat.le_refl _,fun _ h=>(by cases h)⟩ rfl (by (repeat first | exact trivial | refine ⟨rfl,?_⟩)) (by (repeat first | exact trivial | refine ⟨rfl,?_⟩)) rfl (by (repeat' (first | exact trivial | constructor))) (by (repeat' exact trivial)) fun s ⟨k,way,wo,wc,out,oo,oc⟩ ⟨hle,hk,hp,hlv,hwk,hwc,hoc,hok,hout⟩=>?_
  dsimp only at hk hp hlv hwk hwc hoc hok hout ⊢
  have H:=H.mono hle
  (repeat (first | refine cj_seq ?_ | refine cjr TT rfl ?_ | refine oj_then ?_))
  refine cj_if rfl (fun h=>?_) (fun h=>?_)
  rotate_left
  · have hk0:k=L.length:=by have:=of_decide_eq_false h;omega
    subst hk0
    rw [List.drop_length,pathsF,List.append_nil] at hp
    (repeat (first | refine cj_exit ?_ | refine nj_then_exit ?_ | refine nj_block_out ?_))
    refine nj_again (s,(⟨way,wo,wc,out,oo,oc⟩:PaS)) ⟨hp,hout,hoc⟩ Nat.zero_lt_one rfl (by (repeat first | exact trivial | refine ⟨rfl,?_⟩)) (by (repeat first | exact trivial | refine ⟨rfl,?_⟩)) rfl (by (repeat' (first | exact trivial | constructor))) (by (repeat' exact trivial))
  have hkl:k<L.length:=by have:=of_decide_eq_true h;omega
  have hrow:=recRows_get (List.getElem?_eq_getElem hkl)
  have hfit:=R.fit L[k] (List.getElem_mem hkl)
  rw [List.drop_eq_getElem_cons hkl] at hp hlv
  rw [pathsF] at hp
  generalize L[k]=x at *
  obtain ⟨hlv1,hlv2,hlv3⟩:=hlv
  obtain ⟨j,hj⟩:∃ j:Nat,(x.lv - 1).toNat=j:=⟨_,rfl⟩
  have hjw:j<=way.length:=by omega
  have hps:pathStep way x=way.take j++(if x.nm then [dotS++x.name] else if 0<x.lv then [elemS] else []):=by unfold pathStep;rw [hj]
  rw [hps] at hp
  (repeat (first | refine cj_seq ?_ | refine cjr TT rfl ?_ | refine cj_skip ?_ | refine cj_block ?_ | refine nj_then ?_))
  refine oj_idx TT rfl rfl rfl rfl rfl rfl rfl rfl rfl H (by omega) hrow (oj_run TT rfl ?_)
  (repeat (first | refine cj_seq ?_ | refine cjr TT rfl ?_ | refine oj_then ?_ | (refine oj_minus rfl rfl rfl rfl rfl rfl (by omega) ?_;refine oj_run TT rfl ?_)))
  have hmx:(if x.lv - 1 > 0 then x.lv - 1 else 0)=(j:Int):=by split<;>omega
  refine oj_mm rfl rfl rfl rfl rfl rfl rfl (oj_run TT rfl ?_)
  refine oj_slice_to TT j rfl rfl rfl rfl rfl rfl rfl rfl rfl hmx (by omega) hwc (oj_run TT rfl ?_)
  have hl1:(way.take j).length=j:=by rw [List.length_take];omega
  have hcut:[stE9 wo wc way,srE oo oc out].set 0 (AE.cut (stE9 wo wc way) j)=[stE9 wo wc (way.take j),srE oo oc out]:=by
    show [_,_]=[_,_]
    unfold stE9
    rw [hl1]
    simp [AE.cut,strXs,List.map_take]
  refine oj_cutArr 0 j rfl rfl hjw hcut ?_
  have hwcj:j<=wc:=by omega
  have hjk:j<=k:=by omega
  generalize way.take j=w1 at *
  subst hl1
  have hname:=hfit.2.2
  simp only [mostLen] at hname
  refine oj_then ?_
  refine cj_cut (fun (_:PaW)=>s) (fun q=>[(3,.a (.v (.slice oo out.length oc))),(4,.a (.v (.slice q.wo q.way.length q.wc))),(10,.a (.v (.slice ao L.length cap))),(11,.a (.v (.int .i64 L.length))),(12,.a (.v (.int .i64 k)))]) (fun _=>[])
    (fun q=>[stE9 q.wo q.wc q.way,srE oo oc out]) 0 (fun q=>q.way=w1++(if x.nm then [dotS++x.name] else if 0<x.lv then [elemS] else [])/\q.way.length<=q.wc) ?_ (fun q hq=>?_)
  · (repeat (first | refine cj_seq ?_ | refine cjr TT rfl ?_ | refine oj_then ?_ | refine cj_block ?_))
    refine cj_if rfl (fun h=>?_) (fun h=>?_)
    · (repeat refine cjr TT rfl ?_)
      refine oj_strcat rfl rfl rfl rfl rfl rfl (by show 1+x.name.size<=_;omega) (oj_run TT rfl ?_)
      refine oj_append_lit TT 0 rfl rfl rfl rfl rfl rfl rfl rfl rfl rfl rfl rfl rfl rfl rfl rfl rfl rfl (by (repeat' (first | exact trivial | refine AllLt.of ?_ | constructor))) rfl (by omega) (by show (w1.length+1)*16<=_;omega) fun wo' wc' hwc'=>oj_run TT rfl ?_
      (repeat (first | refine oj_nil ?_ | refine nj_block ?_))
      refine nj_again (⟨w1++[dotS++x.name],wo',wc'⟩:PaW) ⟨by dsimp only;rw [if_pos h],by dsimp only;rw [List.length_append];exact hwc'⟩ Nat.zero_lt_one rfl ?_ (by (repeat first | exact trivial | refine ⟨rfl,?_⟩)) ?_ (by (repeat' (first | exact trivial | constructor))) (by (repeat' exact trivial))
      · dsimp only
        rw [List.length_append]
        (repeat first | exact trivial | refine ⟨rfl,?_⟩)
      · show [_,_]=[_,_]
        dsimp only
        unfold stE9 strXs
        rw [List.map_append,List.length_append]
        rfl
    · (repeat (first | refine cj_seq ?_ | refine cjr TT rfl ?_ | refine oj_then ?_))
      refine cj_if rfl (fun h2=>?_) (fun h2=>?_)
      · have h2:=of_decide_eq_true h2
        (repeat refine cjr TT rfl ?_)
        refine oj_append_lit TT 0 rfl rfl rfl rfl rfl rfl rfl rfl rfl rfl rfl rfl rfl rfl rfl rfl rfl rfl (by (repeat' (first | exact trivial | refine AllLt.of ?_ | constructor))) rfl (by omega) (by show (w1.length+1)*16<=_;omega) fun wo' wc' hwc'=>oj_run TT rfl ?_
        (repeat (first | refine oj_nil ?_ | refine nj_block ?_))
        refine nj_again (⟨w1++[elemS],wo',wc'⟩:PaW) ⟨by dsimp only;rw [h,if_neg (by simp),if_pos (by omega)],by dsimp only;rw [List.length_append];exact hwc'⟩ Nat.zero_lt_one rfl ?_ (by (repeat first | exact trivial | refine ⟨rfl,?_⟩)) ?_ (by (repeat' (first | exact trivial | constructor))) (by (repeat' exact trivial))
        · dsimp only
          rw [List.length_append]
          (repeat first | exact trivial | refine ⟨rfl,?_⟩)
        · show [_,_]=[_,_]
          dsimp only
          unfold stE9 strXs
          rw [List.map_append,List.length_append]
          rfl
      · have h2:=of_decide_eq_false h2
        (repeat (first | refine cj_skip ?_ | refine nj_block ?_))
        refine nj_again (⟨w1,wo,wc⟩:PaW) ⟨by dsimp only;rw [h,if_neg (by simp),if_neg (by omega),List.append_nil],hwcj⟩ Nat.zero_lt_one rfl (by (repeat first | exact trivial | refine ⟨rfl,?_⟩)) (by (repeat first | exact trivial | refine ⟨rfl,?_⟩)) rfl (by (repeat' (first | exact trivial | constructor))) (by (repeat' exact trivial))
  obtain ⟨way',wo',wc'⟩:=q
  obtain ⟨hq,hqc⟩:=hq
  dsimp only at hq hqc ⊢
  rw [<-hq] at hp
  have hwl:x.lv.toNat<=way'.length/\way'.length<=k+1:=by
    rw [hq,List.length_append]
    split
    · rw [List.length_singleton];omega
    · split
      · rw [List.length_singleton];omega
      · rw [List.length_nil];omega
  clear hq hps
  (repeat refine cjr TT rfl ?_)
  refine oj_peekF (Φ:=fun v A'=>∃ bo bc,v=.slice bo way'.length bc/\way'.length<=bc/\A'=[stE9 bo bc way']) rfl rfl rfl rfl rfl Tryz.call171 (by (repeat' (first | exact trivial | constructor))) (fun σ' h1 h2=>CloneSt_c σ' way' (by omega) wo' wc' (st9_sealed (h2 0 _ rfl) hqc)) fun v A' ⟨bo,bc,hv,hbc,hA⟩=>⟨.a (.v (.slice bo way'.length bc)),trivial,hv.symm,?_⟩
  subst hA
  refine oj_seal 2 rfl rfl rfl fun σ2 hle2 hS=>?_
  have hnew:SrOk σ2 ⟨bo,bc,way'⟩:=⟨by dsimp only;omega,st9_sealed hS hbc⟩
  refine oj_run TT rfl ?_
  refine oj_append_lit TT 1 rfl rfl rfl rfl rfl rfl rfl rfl rfl rfl rfl rfl rfl rfl rfl rfl rfl rfl (by (repeat' (first | exact trivial | refine AllLt.of ?_ | constructor))) rfl (by omega) (by show (out.length+1)*24<=_;omega) fun oo' oc' hoc'=>oj_run TT rfl ?_
  (repeat (first | refine cjr TT rfl ?_ | refine oj_nil ?_ | refine nj_then ?_ | refine nj_block ?_ | (refine oj_add rfl rfl rfl rfl rfl rfl (by omega) ?_;refine oj_run TT rfl ?_)))
  refine nj_again (σ2,k+1,(⟨way',wo',wc',out++[⟨bo,bc,way'⟩],oo',oc'⟩:PaS)) ⟨Snap.le_trans hle hle2,hkl,by dsimp only;rw [List.map_append,List.append_assoc];exact hp,hlv3.mono (by dsimp only;omega),hwl.2,hqc,by dsimp only;rw [List.length_append];exact hoc',by dsimp only;rw [List.length_append,List.length_singleton];omega,fun q hq=>?_⟩ (by dsimp only;omega) rfl ?_ (by (repeat first | exact trivial | refine ⟨rfl,?_⟩)) ?_ (by (repeat' (first | exact trivial | constructor))) (by (repeat' exact trivial))
  · rcases List.mem_append.1 hq with hq | hq
    · exact (hout q hq).mono hle2
    · rw [List.mem_singleton] at hq;subst hq;exact hnew
  · dsimp only
    rw [List.length_append]
    (repeat first | exact trivial | refine ⟨rfl,?_⟩)
  · show [_,_]=[_,_]
    dsimp only
    unfold srE
    rw [srXs_append,List.length_append]
    rfl
end Go.Sy
namespace Go.Sy
open Go.Proofs
def prefB (s p:ByteArray):Bool:=decide ((s.size:Int)≥p.size)&&decide (s.extract 0 p.size=p)
set_option maxRecDepth 100000 in
set_option maxHeartbeats 1000000 in
theorem HasPrefix_c (σ:Snap) (s p:ByteArray):PlainS Tryz.prog 257 [.a (.v (.string s)),.a (.v (.string p))] σ (fun v=>v=.bool (prefB s p)):=by
  refine enter_p Tryz.func257 rfl rfl (by (repeat' (first | exact trivial | constructor))) fun w=>?_
  (repeat (first | refine cj_seq ?_ | refine cjr TT rfl ?_ | refine oj_then ?_))
  refine oj_split 10 rfl (fun h=>?_) (fun h=>?_)
  · have h:decide ((s.size:Int)≥p.size)=true:=h
    have hle:=of_decide_eq_true h
    refine oj_run TT rfl ?_
    refine oj_slice_str TT 0 p.size rfl rfl rfl rfl rfl rfl rfl rfl rfl (.inl ⟨rfl,rfl⟩) (.inr ⟨_,_,rfl,rfl⟩) (Nat.zero_le _) (by omega) (oj_run TT rfl ?_)
    (repeat (first | refine oj_then ?_ | refine cj_ret ?_))
    refine nj_ret TT rfl fun β w' _ _=>?_
    unfold prefB
    rw [h,Bool.true_and]
    rfl
  · have h:decide ((s.size:Int)≥p.size)=false:=h
    refine oj_run TT rfl ?_
    (repeat (first | refine oj_then ?_ | refine cj_ret ?_))
    refine nj_ret TT rfl fun β w' _ _=>?_
    unfold prefB
    rw [h,Bool.false_and]
    rfl
def cutB (s p:ByteArray):ByteArray:=if prefB s p then s.extract p.size s.size else s
set_option maxRecDepth 100000 in
set_option maxHeartbeats 1000000 in
theorem CutPrefix0_c (σ:Snap) (s p:ByteArray):PlainS Tryz.prog 247 [.a (.v (.string s)),.a (.v (.string p))] σ (fun v=>v=.tuple #[.string (cutB s p),.bool (prefB s p)]):=by
  refine enter_p Tryz.func247 rfl rfl (by (repeat' (first | exact trivial | constructor))) fun w=>?_
  (repeat (first | refine cj_seq ?_ | refine cjr TT rfl ?_ | refine oj_then ?_))
  refine oj_callP rfl rfl rfl rfl rfl Tryz.call257 (by (repeat' (first | exact trivial | constructor))) (HasPrefix_c σ s p) fun v hv=>⟨.a (.b (prefB s p)),trivial,hv.symm,?_⟩
  refine oj_run TT rfl ?_
  (repeat refine oj_then ?_)
  refine cj_if rfl (fun h=>?_) (fun h=>?_)
  · have h:prefB s p=false:=by simpa using h
    (repeat (first | refine cj_seq ?_ | refine cjr TT rfl ?_ | refine oj_then ?_ | refine cj_ret ?_ | refine nj_then_ret ?_))
    refine nj_ret TT rfl fun β w' _ _=>?_
    unfold cutB
    rw [h]
    rfl
  · have h:prefB s p=true:=by simpa using h
    have hle:p.size<=s.size:=by
      unfold prefB at h
      rw [Bool.and_eq_true] at h
      have:=of_decide_eq_true h.1
      omega
    (repeat (first | refine cj_seq ?_ | refine cjr TT rfl ?_ | refine cj_skip ?_ | refine nj_then ?_))
    refine oj_slice_str TT p.size s.size rfl rfl rfl rfl rfl rfl rfl rfl rfl (.inr ⟨_,_,rfl,rfl⟩) (.inl ⟨rfl,rfl⟩) hle (Nat.le_refl _) (oj_run TT rfl ?_)
    (repeat (first | refine oj_then ?_ | refine cj_ret ?_))
    refine nj_ret TT rfl fun β w' _ _=>?_
    unfold cutB
    rw [h]
    rfl
set_option maxRecDepth 100000 in
set_option maxHeartbeats 1000000 in
theorem CutPrefix_c (σ:Snap) (s p:ByteArray):PlainS Tryz.prog 234 [.a (.v (.string s)),.a (.v (.string p))] σ (fun v=>v=.tuple #[.string (cutB s p),.bool (prefB s p)]):=by
  refine enter_p Tryz.func234 rfl rfl (by (repeat' (first | exact trivial | constructor))) fun w=>?_
  (repeat (first | refine cj_seq ?_ | refine cjr TT rfl ?_ | refine oj_then ?_))
  refine oj_callP rfl rfl rfl rfl rfl Tryz.call247 (by (repeat' (first | exact trivial | constructor))) (CutPrefix0_c σ s p) fun v hv=>⟨.tup [.a (.v (.string (cutB s p))),.a (.b (prefB s p))],(by (repeat' (first | exact trivial | refine SV.lt_tup ?_ | constructor))),hv.symm,?_⟩
  refine oj_run TT rfl ?_
  (repeat (first | refine oj_then ?_ | refine cj_ret ?_))
  refine nj_ret TT rfl fun β w' _ _=>?_
  rfl
structure GPat where
  what:Int
  name:ByteArray
def ptCells (p:GPat):List AT:=[.v (.int .i64 p.what),.v (.string p.name)]
def ptRows (l:List GPat):List (List AT):=l.map ptCells
theorem ptRows_get {l:List GPat} {i:Nat} {x:GPat} (h:l[i]?=some x):(ptRows l)[i]?=some (ptCells x):=by unfold ptRows;rw [List.getElem?_map,h];rfl
def dotP:ByteArray:=⟨#[46]⟩
def elemP:ByteArray:=⟨#[91,93]⟩
def fitsP (p:GPat) (s:ByteArray):Bool:=if p.what=1 then (prefB s dotP&&decide (cutB s dotP=p.name)) else if p.what=2 then true else if p.what=3 then decide (s=elemP) else false
set_option maxRecDepth 100000 in
set_option maxHeartbeats 1000000 in
theorem fitsP_c (σ:Snap) (p:GPat) (s:ByteArray):PlainS Tryz.prog 212 [.agg (ptCells p),.a (.v (.string s))] σ (fun v=>v=.bool (fitsP p s)):=by
  have hf:fitsP p s=if p.what=1 then (prefB s dotP&&decide (cutB s dotP=p.name)) else if p.what=2 then true else if p.what=3 then decide (s=elemP) else false:=rfl
  refine enter_p Tryz.func212 rfl rfl ⟨(by unfold ptCells;(repeat' (first | exact trivial | refine AllLt.of ?_ | constructor))),trivial,trivial⟩ fun w=>?_
  (repeat (first | refine cj_seq ?_ | refine cjr TT rfl ?_ | refine oj_then ?_ | refine cj_block ?_))
  refine cj_if rfl (fun h=>?_) (fun h=>?_)
  · rw [if_pos (of_decide_eq_true h)] at hf
    (repeat (first | refine cj_seq ?_ | refine cjr TT rfl ?_))
    refine oj_callP rfl rfl rfl rfl rfl Tryz.call234 (by (repeat' (first | exact trivial | constructor))) (CutPrefix_c σ s dotP) fun v hv=>⟨.tup [.a (.v (.string (cutB s dotP))),.a (.b (prefB s dotP))],(by (repeat' (first | exact trivial | refine SV.lt_tup ?_ | constructor))),hv.symm,?_⟩
    refine oj_run TT rfl ?_
    (repeat (first | refine cj_seq ?_ | refine cjr TT rfl ?_ | refine oj_then ?_))
    refine oj_split 17 rfl (fun h=>?_) (fun h=>?_)
    · have h:prefB s dotP=true:=h
      refine oj_run TT rfl ?_
      (repeat (first | refine oj_then ?_ | refine cj_ret ?_ | refine nj_then_ret ?_ | refine nj_block_ret ?_))
      refine nj_ret TT rfl fun β w' _ _=>?_
      rw [hf,h,Bool.true_and]
      rfl
    · have h:prefB s dotP=false:=h
      refine oj_run TT rfl ?_
      (repeat (first | refine oj_then ?_ | refine cj_ret ?_ | refine nj_then_ret ?_ | refine nj_block_ret ?_))
      refine nj_ret TT rfl fun β w' _ _=>?_
      rw [hf,h,Bool.false_and]
      rfl
  rw [if_neg (of_decide_eq_false h)] at hf
  (repeat (first | refine cj_seq ?_ | refine cjr TT rfl ?_ | refine oj_then ?_))
  refine cj_if rfl (fun h=>?_) (fun h=>?_)
  · rw [if_pos (of_decide_eq_true h)] at hf
    (repeat (first | refine cj_seq ?_ | refine cjr TT rfl ?_ | refine oj_then ?_ | refine cj_ret ?_ | refine nj_then_ret ?_ | refine nj_block_ret ?_))
    refine nj_ret TT rfl fun β w' _ _=>?_
    rw [hf]
    rfl
  rw [if_neg (of_decide_eq_false h)] at hf
  (repeat (first | refine cj_seq ?_ | refine cjr TT rfl ?_ | refine oj_then ?_))
  refine cj_if rfl (fun h=>?_) (fun h=>?_)
  · rw [if_pos (of_decide_eq_true h)] at hf
    (repeat (first | refine cj_seq ?_ | refine cjr TT rfl ?_ | refine oj_then ?_ | refine cj_ret ?_ | refine nj_then_ret ?_ | refine nj_block_ret ?_))
    refine nj_ret TT rfl fun β w' _ _=>?_
    rw [hf]
    rfl
  rw [if_neg (of_decide_eq_false h)] at hf
  (repeat (first | refine cj_seq ?_ | refine cjr TT rfl ?_ | refine oj_then ?_ | refine cj_skip ?_ | refine cj_ret ?_ | refine nj_then ?_ | refine nj_block ?_))
  refine nj_ret TT rfl fun β w' _ _=>?_
  rw [hf]
  rfl
structure AlS where
  k:Nat
  o:List Int
  oo:Option Addr
  oc:Nat
def allG (q:Nat->GLine->Bool):List GLine->Nat->List Int
  | [],_=>[]
  | x::l,k=>if q k x then x.id::allG q l (k+1) else allG q l (k+1)
set_option maxRecDepth 100000 in
set_option maxHeartbeats 1000000 in
theorem all_c (σ:Snap) (xs:List GLine) (hl:xs.length<=1000000) (ao:Option Addr) (cap:Nat) (next:Int) (H:SlAt σ ao xs.length cap 3 (lnRows xs)) (f:FuncId) (caps:List PT) (hcap:LtAll (caps.map ptSV))
    (hcall:∀ args w,(callFunc f args).run Tryz.prog w=.ok (.enter f args) w) (q:Nat->GLine->Bool) (hq:∀ (k:Nat) x,xs[k]?=some x->PlainS Tryz.prog f (.a (.v (.int .i64 k))::.agg (lnCells x)::caps.map ptSV) σ (fun v=>v=.bool (q k x))) (hlt:(SV.a (.fn (.func f) caps)).lt 0) :
    PureS Tryz.prog 156 [.agg [.v (.slice ao xs.length cap),.v (.int .i64 next)],.a (.fn (.func f) caps)] σ (fun v σ'=>∃ oo oc,v=.slice oo (allG q xs 0).length oc/\SlAt σ' oo (allG q xs 0).length oc 1 (idRows (allG q xs 0))):=by
  refine enter_s Tryz.func156 rfl rfl ⟨(by (repeat' (first | exact trivial | refine AllLt.of ?_ | constructor))),hlt,trivial⟩ fun w=>?_
  (repeat (first | refine cj_seq ?_ | refine cjr TT rfl ?_ | refine oj_then ?_ | refine cj_block ?_))
  refine cj_nilarr 3 1 ?_
  skip
  refine cj_loop (fun (_:AlS)=>σ) (fun t=>[(1,.a (.fn (.func f) caps)),(5,.a (.v (.slice t.oo t.o.length t.oc))),(9,.a (.v (.slice ao xs.length cap))),(10,.a (.v (.int .i64 xs.length))),(11,.a (.v (.int .i64 (t.k:Nat))))]) (fun _=>[]) (fun t=>[idE t.oo t.oc t.o]) 0
    (fun t=>t.k<=xs.length/\t.o++allG q (xs.drop t.k) t.k=allG q xs 0/\t.o.length<=t.oc/\t.o.length<=t.k) (fun t=>xs.length - t.k) ⟨0,[],none,0⟩ ⟨Nat.zero_le _,rfl,Nat.le_refl _,Nat.le_refl _⟩ rfl (by (repeat first | exact trivial | refine ⟨rfl,?_⟩)) (by (repeat first | exact trivial | refine ⟨rfl,?_⟩)) rfl ⟨hlt,trivial,trivial,trivial,trivial,trivial⟩ trivial fun ⟨k,o,oo,oc⟩ ⟨hk,hp,hoc,hok⟩=>?_
  dsimp only at hk hp hoc hok ⊢
  (repeat (first | refine cj_seq ?_ | refine cjr TT rfl ?_ | refine oj_then ?_))
  refine cj_if rfl (fun h=>?_) (fun h=>?_)
  rotate_left
  · have hk0:k=xs.length:=by have:=of_decide_eq_false h;omega
    rw [hk0,List.drop_length,allG,List.append_nil] at hp
    subst hp
    (repeat (first | refine cj_seq ?_ | refine cjr TT rfl ?_ | refine oj_then ?_ | refine cj_exit ?_ | refine cj_ret ?_ | refine nj_then ?_ | refine nj_then_exit ?_ | refine nj_block_out ?_))
    refine nj_seal 0 rfl rfl fun σ' hle' hS=>?_
    refine nj_ret TT rfl fun β w' _ _=>?_
    exact ⟨oo,oc,rfl,id_sealed hS hoc⟩
  have hkl:k<xs.length:=by have:=of_decide_eq_true h;omega
  have hxk:xs[k]?=some xs[k]:=List.getElem?_eq_getElem hkl
  have hra:=lnRows_get hxk
  have hqx:=hq k xs[k] hxk
  rw [List.drop_eq_getElem_cons hkl,allG] at hp
  generalize xs[k]=x at *
  (repeat (first | refine cj_seq ?_ | refine cjr TT rfl ?_ | refine cj_skip ?_ | refine cj_block ?_ | refine nj_then ?_))
  refine oj_idx TT rfl rfl rfl rfl rfl rfl rfl rfl rfl H (by omega) hra (oj_run TT rfl ?_)
  (repeat (first | refine cj_seq ?_ | refine cjr TT rfl ?_ | refine oj_then ?_))
  refine oj_callP (ys:=.a (.v (.int .i64 k))::.agg (lnCells x)::caps.map ptSV) rfl rfl rfl rfl rfl hcall ⟨trivial,lnCells_lt 0 x,hcap⟩ hqx fun v hv=>⟨.a (.b (q k x)),trivial,hv.symm,?_⟩
  refine oj_run TT rfl ?_
  (repeat refine oj_then ?_)
  refine cj_if rfl (fun h=>?_) (fun h=>?_)
  · rw [h,if_pos rfl] at hp
    (repeat refine cjr TT rfl ?_)
    refine oj_append_lit TT 0 rfl rfl rfl rfl rfl rfl rfl rfl rfl rfl rfl rfl rfl rfl rfl rfl rfl rfl (by (repeat' (first | exact trivial | refine AllLt.of ?_ | constructor))) rfl (by omega) (by show (o.length+1)*8<=_;omega) fun oo' oc' hoc'=>oj_run TT rfl ?_
    (repeat (first | refine cjr TT rfl ?_ | refine oj_nil ?_ | refine nj_then ?_ | refine nj_block ?_ | (refine oj_add rfl rfl rfl rfl rfl rfl (by omega) ?_;refine oj_run TT rfl ?_)))
    refine nj_again (⟨k+1,o++[x.id],oo',oc'⟩:AlS) ⟨hkl,by dsimp only;rw [List.append_assoc];exact hp,by dsimp only;rw [List.length_append];exact hoc',by dsimp only;rw [List.length_append,List.length_singleton];omega⟩ (by dsimp only;omega) rfl ?_ (by (repeat first | exact trivial | refine ⟨rfl,?_⟩)) ?_ ⟨hlt,trivial,trivial,trivial,trivial,trivial⟩ trivial
    · dsimp only
      rw [List.length_append]
      (repeat first | exact trivial | refine ⟨rfl,?_⟩)
    · show [_]=[_]
      dsimp only
      unfold idE idXs
      rw [List.map_append,List.length_append]
      rfl
  · rw [h,if_neg (by simp)] at hp
    (repeat (first | refine cjr TT rfl ?_ | refine oj_nil ?_ | refine cj_skip ?_ | refine nj_then ?_ | refine nj_block ?_ | (refine oj_add rfl rfl rfl rfl rfl rfl (by omega) ?_;refine oj_run TT rfl ?_)))
    refine nj_again (⟨k+1,o,oo,oc⟩:AlS) ⟨hkl,hp,hoc,by dsimp only;omega⟩ (by dsimp only;omega) rfl (by (repeat first | exact trivial | refine ⟨rfl,?_⟩)) (by (repeat first | exact trivial | refine ⟨rfl,?_⟩)) rfl ⟨hlt,trivial,trivial,trivial,trivial,trivial⟩ trivial
end Go.Sy
namespace Go.Sy
open Go.Proofs
set_option maxRecDepth 100000 in
set_option maxHeartbeats 1000000 in
theorem id1_c (σ:Snap) (x:GLine) (id:Int) (g:Nat) (hg:σ.cell ⟨g,0,none⟩=some (.int .i64 id)) :
    PlainS Tryz.prog 216 (.agg (lnCells x)::[ptrTo g].map ptSV) σ (fun v=>v=.bool (decide (x.id=id))):=by
  refine enter_p Tryz.func216 rfl rfl ⟨lnCells_lt 0 x,trivial,trivial⟩ fun w=>?_
  (repeat (first | refine cj_seq ?_ | refine cjr TT rfl ?_ | refine oj_then ?_))
  refine oj_ldS (c:=.v (.int .i64 id)) TT rfl rfl rfl rfl rfl rfl rfl rfl hg trivial (oj_run TT rfl ?_)
  (repeat (first | refine oj_then ?_ | refine cj_ret ?_))
  refine nj_ret TT rfl fun β w' _ _=>?_
  rfl
def idG (xs:List GLine) (id:Int):Int:=findG (fun x=>decide (x.id=id)) xs 0
theorem idG_bd (xs:List GLine) (id:Int):-1<=idG xs id/\idG xs id<xs.length:=by
  have:=findG_bd (fun x:GLine=>decide (x.id=id)) xs 0
  unfold idG
  omega
theorem cell_of {σ:Snap} {g e sz:Nat} {v:Value} (hS:ArrSealed σ ⟨some ⟨g,0,none⟩,1,1,e,sz,[v]⟩):σ.cell ⟨g,0,none⟩=some v:=by
  rcases hS with ⟨h,_⟩ | ⟨g',h1,h2⟩
  · cases h
  · obtain rfl:g=g':=by simpa using h1
    exact h2 0 _ rfl
set_option maxRecDepth 100000 in
set_option maxHeartbeats 1000000 in
theorem id_c (σ:Snap) (xs:List GLine) (hl:xs.length<=140737488355328) (ao:Option Addr) (cap:Nat) (next:Int) (H:SlAt σ ao xs.length cap 3 (lnRows xs)) (id:Int) :
    PlainS Tryz.prog 176 [.agg [.v (.slice ao xs.length cap),.v (.int .i64 next)],.a (.v (.int .i64 id))] σ (fun v=>v=.int .i64 (idG xs id)):=by
  refine enter_p Tryz.func176 rfl rfl (by (repeat' (first | exact trivial | refine AllLt.of ?_ | constructor))) fun w=>?_
  (repeat (first | refine cj_seq ?_ | refine cjr TT rfl ?_ | refine oj_then ?_))
  refine oj_own 1 1 1 rfl (by (repeat' (first | exact trivial | refine AllLt.of ?_ | constructor))) rfl (by decide) fun g=>?_
  refine oj_seal 0 rfl rfl rfl fun σ1 hle1 hS=>?_
  refine oj_callP rfl rfl rfl rfl rfl Tryz.call179 ⟨(by (repeat' (first | exact trivial | refine AllLt.of ?_ | constructor))),fn_lt1 (.func 216) g 0,trivial⟩ (where_c σ1 xs hl ao cap next (H.mono hle1) 216 [ptrTo g] ⟨trivial,trivial⟩ Tryz.call216 (fun x=>decide (x.id=id)) (fun x hm=>id1_c σ1 x id g (cell_of hS)) (fn_lt1 (.func 216) g 0)) fun v hv=>⟨.a (.v (.int .i64 (idG xs id))),trivial,hv.symm,?_⟩
  refine oj_run TT rfl ?_
  (repeat (first | refine oj_then ?_ | refine cj_ret ?_))
  refine nj_ret TT rfl fun β w' _ _=>?_
  rfl
theorem fn_lt2 (f:Fn) (g1 g2 n:Nat):(SV.a (.fn f [ptrTo g1,ptrTo g2])).lt n:=by
  intro x hx
  simp only [List.mem_cons,List.not_mem_nil,or_false] at hx
  rcases hx with rfl | rfl<;>trivial
end Go.Sy
namespace Go.Sy
open Go.Proofs
def deepAt (ps:List GPat) (V:List Bool) (k:Nat):List Bool:=match ps[k]? with
  | some p=>if p.what=4 then (if V.getD k false then V.set (k+1) true else V) else V
  | none=>V
def deepV (ps:List GPat) (V:List Bool):List Bool:=(List.range ps.length).foldl (deepAt ps) V
def patAt (ps:List GPat) (V:List Bool) (s:ByteArray) (N:List Bool) (k:Nat):List Bool:=match ps[k]? with
  | some p=>if V.getD k false then (if p.what=4 then N.set k true else if fitsP p s then N.set (k+1) true else N) else N
  | none=>N
def nextV (ps:List GPat) (V:List Bool) (s:ByteArray):List Bool:=(List.range ps.length).foldl (patAt ps V s) (List.replicate (ps.length+1) false)
def startV (ps:List GPat):List Bool:=deepV ps ((List.replicate (ps.length+1) false).set 0 true)
def runV (ps:List GPat) (ss:List ByteArray):List Bool:=ss.foldl (fun V s=>deepV ps (nextV ps V s)) (startV ps)
def matchG (ss:List ByteArray) (ps:List GPat):Bool:=(runV ps ss).getD ps.length false
theorem deepAt_len (ps:List GPat) (V:List Bool) (k:Nat):(deepAt ps V k).length=V.length:=by
  unfold deepAt
  split
  · split
    · split
      · rw [List.length_set]
      · rfl
    · rfl
  · rfl
theorem fold_len {α β:Type} (f:List α->β->List α) (hf:∀ l b,(f l b).length=l.length):∀ (bs:List β) (l:List α),(bs.foldl f l).length=l.length
  | [],_=>rfl
  | b::bs,l=>by rw [List.foldl_cons,fold_len f hf bs,hf]
theorem deepV_len (ps:List GPat) (V:List Bool):(deepV ps V).length=V.length:=fold_len _ (deepAt_len ps) _ _
theorem patAt_len (ps:List GPat) (V:List Bool) (s:ByteArray) (N:List Bool) (k:Nat):(patAt ps V s N k).length=N.length:=by
  unfold patAt
  split
  · split
    · split
      · rw [List.length_set]
      · split
        · rw [List.length_set]
        · rfl
    · rfl
  · rfl
theorem nextV_len (ps:List GPat) (V:List Bool) (s:ByteArray):(nextV ps V s).length=ps.length+1:=by
  unfold nextV
  rw [fold_len _ (patAt_len ps V s),List.length_replicate]
theorem startV_len (ps:List GPat):(startV ps).length=ps.length+1:=by
  unfold startV
  rw [deepV_len,List.length_set,List.length_replicate]
theorem range_fold {α:Type} (f:α->Nat->α) (a:α) (k:Nat):(List.range (k+1)).foldl f a=f ((List.range k).foldl f a) k:=by
  rw [List.range_succ,List.foldl_append]
  rfl
def blE (g:Nat) (V:List Bool):AE:=⟨some ⟨g,0,none⟩,V.length,V.length,4,1,V.map Value.bool⟩
def nwE (g5 gb n:Nat):AE:=⟨some ⟨g5,0,none⟩,1,1,78,1,[.slice (some ⟨gb,0,none⟩) n n]⟩
theorem bl_get {V:List Bool} {k:Nat} {b:Bool} (h:V[k]?=some b):(V.map Value.bool)[k]?=some (AT.b b).val:=by rw [List.getElem?_map,h];rfl
theorem bl_set (g:Nat) (V:List Bool) (k:Nat):(⟨some ⟨g,0,none⟩,V.length,V.length,4,1,(V.map Value.bool).set k (AT.val .tt)⟩:AE)=blE g (V.set k true):=by
  unfold blE
  rw [List.length_set,List.map_set]
  rfl
theorem getD_of {V:List Bool} {k:Nat} {b:Bool} (h:V[k]?=some b):V.getD k false=b:=by rw [List.getD_eq_getElem?_getD,h];rfl
set_option maxRecDepth 100000 in
set_option maxHeartbeats 1000000 in
theorem deep_c (σ:Snap) (ps:List GPat) (hl:ps.length<=1000000) (po:Option Addr) (pc:Nat) (P:SlAt σ po ps.length pc 2 (ptRows ps)) (g3 g5 gb:Nat) (h3:σ.cell ⟨g3,0,none⟩=some (.slice po ps.length pc)) (V:List Bool) (hV:V.length=ps.length+1) :
    FnS Tryz.prog 211 ([ptrTo g3,ptrTo g5].map ptSV) σ [nwE g5 gb V.length,blE gb V] (fun v _ A'=>v=.tuple #[]/\A'=[nwE g5 gb V.length,blE gb (deepV ps V)]):=by
  refine enter_f Tryz.func211 rfl rfl ⟨trivial,trivial,trivial⟩ fun w=>?_
  refine cj_seq ?_
  refine cj_region ?_
  refine oj_ldS (c:=.v (.slice po ps.length pc)) TT rfl rfl rfl rfl rfl rfl rfl rfl h3 trivial (oj_run TT rfl ?_)
  (repeat (first | refine oj_then ?_ | refine cj_block ?_))
  refine cj_loop (fun (_:Nat)=>σ) (fun k=>[(1,.a (.v (.pointer (some ⟨g5,0,none⟩)))),(4,.a (.v (.slice po ps.length pc))),(5,.a (.v (.int .i64 ps.length))),(6,.a (.v (.int .i64 (k:Nat))))]) (fun _=>[]) (fun k=>[nwE g5 gb V.length,blE gb ((List.range k).foldl (deepAt ps) V)]) 0
    (fun k=>k<=ps.length) (fun k=>ps.length - k) 0 (Nat.zero_le _) rfl (by (repeat first | exact trivial | refine ⟨rfl,?_⟩)) (by (repeat first | exact trivial | refine ⟨rfl,?_⟩)) rfl (by (repeat' (first | exact trivial | constructor))) (by (repeat' exact trivial)) fun k hk=>?_
  (repeat (first | refine cj_seq ?_ | refine cjr TT rfl ?_ | refine oj_then ?_))
  refine cj_if rfl (fun h=>?_) (fun h=>?_)
  rotate_left
  · have hk0:k=ps.length:=by have:=of_decide_eq_false h;omega
    subst hk0
    (repeat (first | refine cj_exit ?_ | refine nj_then_exit ?_ | refine nj_block_out ?_))
    refine nj_fend TT rfl fun β w' _ _=>?_
    exact ⟨rfl,rfl⟩
  have hkl:k<ps.length:=by have:=of_decide_eq_true h;omega
  have hra:=ptRows_get (List.getElem?_eq_getElem hkl)
  have hnx:=range_fold (deepAt ps) V k
  have hlen:((List.range k).foldl (deepAt ps) V).length=ps.length+1:=by rw [fold_len _ (deepAt_len ps),hV]
  generalize (List.range k).foldl (deepAt ps) V=Vk at *
  have hd:deepAt ps Vk k=match ps[k]? with | some p=>if p.what=4 then (if Vk.getD k false then Vk.set (k+1) true else Vk) else Vk | none=>Vk:=rfl
  rw [List.getElem?_eq_getElem hkl] at hd
  dsimp only at hd
  have hbk:Vk[k]?=some (Vk[k]'(by omega)):=List.getElem?_eq_getElem _
  rw [getD_of hbk] at hd
  generalize Vk[k]'(by omega)=b at *
  generalize ps[k]=p at *
  have hnw:∀ W:List Bool,W.length=ps.length+1->nwE g5 gb V.length=nwE g5 gb W.length:=fun W hW=>by rw [hV,hW]
  have had:∀ q:Nat,some (SV.a (AT.v (.pointer (some (Addr.add ⟨gb,0,none⟩ ((q:Int).toNat*1))))))=some (SV.a (AT.v (.pointer (some ⟨gb,q,none⟩)))):=fun q=>by
    rw [Int.toNat_natCast,add0,Nat.mul_one]
  (repeat (first | refine cj_seq ?_ | refine cjr TT rfl ?_ | refine cj_skip ?_ | refine cj_block ?_ | refine nj_then ?_))
  refine oj_idx TT rfl rfl rfl rfl rfl rfl rfl rfl rfl P (by omega) hra (oj_run TT rfl ?_)
  (repeat (first | refine cj_seq ?_ | refine cjr TT rfl ?_ | refine oj_then ?_))
  refine oj_split 14 rfl (fun h1=>?_) (fun h1=>?_)
  rotate_left
  · have h1:decide (p.what=4)=false:=h1
    rw [if_neg (of_decide_eq_false h1)] at hd
    refine oj_run TT rfl ?_
    (repeat (first | refine cjr TT rfl ?_ | refine oj_then ?_ | refine oj_nil ?_ | refine cj_if_f rfl ?_ | refine cj_skip ?_ | refine nj_then ?_ | refine nj_block ?_ | (refine oj_add rfl rfl rfl rfl rfl rfl (by omega) ?_;refine oj_run TT rfl ?_)))
    refine nj_again (k+1) hkl (by omega) rfl (by (repeat first | exact trivial | refine ⟨rfl,?_⟩)) (by (repeat first | exact trivial | refine ⟨rfl,?_⟩)) ?_ (by (repeat' (first | exact trivial | constructor))) (by (repeat' exact trivial))
    rw [hnx,hd]
  have h1:decide (p.what=4)=true:=h1
  rw [if_pos (of_decide_eq_true h1)] at hd
  refine oj_run TT rfl ?_
  refine oj_ldA 0 (off:=0) (c:=.v (.slice (some ⟨gb,0,none⟩) V.length V.length)) TT rfl rfl rfl rfl rfl rfl rfl rfl rfl rfl rfl trivial (oj_run TT rfl ?_)
  refine oj_indexAddr TT rfl rfl rfl rfl rfl rfl rfl rfl rfl ⟨by omega,by omega⟩ (oj_run TT rfl ?_)
  refine oj_ldA 1 (off:=k) (c:=.b b) TT rfl rfl rfl rfl rfl (had k) rfl rfl rfl rfl (bl_get hbk) trivial (oj_run TT rfl ?_)
  (repeat refine oj_then ?_)
  refine cj_if rfl (fun h2=>?_) (fun h2=>?_)
  rotate_left
  · rw [h2,if_neg (by simp)] at hd
    (repeat (first | refine cjr TT rfl ?_ | refine oj_nil ?_ | refine cj_skip ?_ | refine nj_then ?_ | refine nj_block ?_ | (refine oj_add rfl rfl rfl rfl rfl rfl (by omega) ?_;refine oj_run TT rfl ?_)))
    refine nj_again (k+1) hkl (by omega) rfl (by (repeat first | exact trivial | refine ⟨rfl,?_⟩)) (by (repeat first | exact trivial | refine ⟨rfl,?_⟩)) ?_ (by (repeat' (first | exact trivial | constructor))) (by (repeat' exact trivial))
    rw [hnx,hd]
  rw [h2,if_pos rfl] at hd
  (repeat refine cjr TT rfl ?_)
  refine oj_ldA 0 (off:=0) (c:=.v (.slice (some ⟨gb,0,none⟩) V.length V.length)) TT rfl rfl rfl rfl rfl rfl rfl rfl rfl rfl rfl trivial (oj_run TT rfl ?_)
  refine oj_add rfl rfl rfl rfl rfl rfl (by omega) (oj_run TT rfl ?_)
  refine oj_indexAddr TT rfl rfl rfl rfl rfl rfl rfl rfl rfl ⟨by omega,by omega⟩ (oj_run TT rfl ?_)
  refine oj_stA 1 (off:=k+1) (c:=.tt) (A':=[nwE g5 gb V.length,blE gb (Vk.set (k+1) true)]) TT rfl rfl rfl rfl (had (k+1)) rfl rfl rfl rfl rfl (by show k+1<Vk.length*1;omega) trivial rfl ?_ (oj_run TT rfl ?_)
  · show [_,_]=[_,_]
    rw [<-bl_set]
    rfl
  (repeat (first | refine cjr TT rfl ?_ | refine oj_nil ?_ | refine nj_then ?_ | refine nj_block ?_ | (refine oj_add rfl rfl rfl rfl rfl rfl (by omega) ?_;refine oj_run TT rfl ?_)))
  refine nj_again (k+1) hkl (by omega) rfl (by (repeat first | exact trivial | refine ⟨rfl,?_⟩)) (by (repeat first | exact trivial | refine ⟨rfl,?_⟩)) ?_ (by (repeat' (first | exact trivial | constructor))) (by (repeat' exact trivial))
  rw [hnx,hd]
theorem bl_rep (g n:Nat):(⟨some ⟨g,0,none⟩,n,n,4,1,List.replicate n (AT.val .ff)⟩:AE)=blE g (List.replicate n false):=by
  unfold blE
  rw [List.length_replicate,List.map_replicate]
  rfl
structure MtS where
  k:Nat
  gb:Nat
  V:List Bool
set_option maxRecDepth 100000 in
set_option maxHeartbeats 1000000 in
theorem matches_c (σ:Snap) (ss:List ByteArray) (hs:ss.length<=140737488355328) (so:Option Addr) (sc:Nat) (S:SlAt σ so ss.length sc 1 (strRows ss)) (ps:List GPat) (hl:ps.length<=1000000) (po:Option Addr) (pc:Nat) (P:SlAt σ po ps.length pc 2 (ptRows ps)) :
    PlainS Tryz.prog 158 [.a (.v (.slice so ss.length sc)),.a (.v (.slice po ps.length pc))] σ (fun v=>v=.bool (matchG ss ps)):=by
  refine enter_p Tryz.func158 rfl rfl (by (repeat' (first | exact trivial | constructor))) fun w=>?_
  (repeat (first | refine cj_seq ?_ | refine cjr TT rfl ?_ | refine oj_then ?_ | (refine oj_add rfl rfl rfl rfl rfl rfl (by omega) ?_;refine oj_run TT rfl ?_)))
  refine oj_makeSlice (n:=ps.length+1) TT rfl rfl rfl rfl rfl rfl rfl rfl rfl rfl rfl rfl trivial (by show (ps.length+1)*1<=_;omega) (by omega) fun gb=>oj_run TT rfl ?_
  refine oj_own 1 1 1 rfl (by (repeat' (first | exact trivial | refine AllLt.of ?_ | constructor))) rfl (by decide) fun g5=>?_
  refine oj_own 0 1 1 rfl (by (repeat' (first | exact trivial | refine AllLt.of ?_ | constructor))) rfl (by decide) fun g3=>?_
  refine oj_seal 2 rfl rfl rfl fun σ1 hle1 hS3=>?_
  have h3:σ1.cell ⟨g3,0,none⟩=some (.slice po ps.length pc):=cell_of hS3
  have P1:=P.mono hle1
  have S1:=S.mono hle1
  have hdeep:∀ (s:Snap) (_:σ1.le s) (gb:Nat) (V:List Bool),V.length=ps.length+1->FnS Tryz.prog 211 ([ptrTo g3,ptrTo g5].map ptSV) s [nwE g5 gb (ps.length+1),blE gb V] (fun v _ A'=>v=.tuple #[]/\A'=[nwE g5 gb (ps.length+1),blE gb (deepV ps V)]):=by
    intro s hs gb V hV
    have:=deep_c s ps hl po pc (P1.mono hs) g3 g5 gb (hs.cell h3) V hV
    rw [hV] at this
    exact this
  refine oj_then ?_
  refine cj_re [1,0] (A':=[nwE g5 gb (ps.length+1),blE gb (List.replicate (ps.length+1) false)]) (by show [_,_]=[_,_];rw [<-bl_rep];rfl) rfl ?_
  have had:∀ (g q:Nat),some (SV.a (AT.v (.pointer (some (Addr.add ⟨g,0,none⟩ ((q:Int).toNat*1))))))=some (SV.a (AT.v (.pointer (some ⟨g,q,none⟩)))):=fun g q=>by
    rw [Int.toNat_natCast,add0,Nat.mul_one]
  have hrl:(List.replicate (ps.length+1) false).length=ps.length+1:=List.length_replicate
  (repeat (first | refine cj_seq ?_ | refine cjr TT rfl ?_))
  refine oj_ldA 0 (off:=0) (c:=.v (.slice (some ⟨gb,0,none⟩) (ps.length+1) (ps.length+1))) TT rfl rfl rfl rfl rfl rfl rfl rfl rfl rfl rfl trivial (oj_run TT rfl ?_)
  refine oj_indexAddr TT rfl rfl rfl rfl rfl rfl rfl rfl rfl ⟨by omega,by omega⟩ (oj_run TT rfl ?_)
  refine oj_stA 1 (off:=0) (c:=.tt) (A':=[nwE g5 gb (ps.length+1),blE gb ((List.replicate (ps.length+1) false).set 0 true)]) TT rfl rfl rfl rfl (had gb 0) rfl rfl rfl rfl rfl (by show 0<(List.replicate (ps.length+1) false).length*1;omega) trivial rfl ?_ (oj_run TT rfl ?_)
  · show [_,_]=[_,_]
    rw [<-bl_set]
    rfl
  (repeat (first | refine cj_seq ?_ | refine cjr TT rfl ?_ | refine oj_then ?_))
  refine oj_callF [0,1] (A0:=[nwE g5 gb (ps.length+1),blE gb ((List.replicate (ps.length+1) false).set 0 true)]) (Ar:=[]) rfl rfl rfl rfl rfl rfl rfl Tryz.call211 ⟨trivial,trivial,trivial⟩ (hdeep σ1 (Snap.le_refl _) gb _ (by rw [List.length_set,hrl])) fun v σ2 A2 hle2 ⟨hv,hA⟩=>⟨.tup [],(by (repeat' (first | exact trivial | refine SV.lt_tup ?_))),hv.symm,?_⟩
  subst hA
  have hst:deepV ps ((List.replicate (ps.length+1) false).set 0 true)=startV ps:=rfl
  rw [hst]
  refine oj_run TT rfl ?_
  (repeat (first | refine cj_seq ?_ | refine cjr TT rfl ?_ | refine oj_then ?_ | refine cj_block ?_))
  refine cj_loop2 (fun (s:Snap) (_:MtS)=>s) (fun _ t=>[(3,.a (.v (.pointer (some ⟨g3,0,none⟩)))),(5,.a (.v (.pointer (some ⟨g5,0,none⟩)))),(6,.a (.fn (.func 211) [ptrTo g3,ptrTo g5])),(21,.a (.v (.slice so ss.length sc))),(22,.a (.v (.int .i64 ss.length))),(23,.a (.v (.int .i64 (t.k:Nat))))]) (fun _ _=>[]) (fun _ t=>[nwE g5 t.gb (ps.length+1),blE t.gb t.V]) 0
    (fun s t=>σ1.le s/\t.k<=ss.length/\t.V=runV ps (ss.take t.k)/\t.V.length=ps.length+1) (fun _ t=>ss.length - t.k) σ2 ⟨0,gb,startV ps⟩ ⟨hle2,Nat.zero_le _,rfl,startV_len ps⟩ rfl (by (repeat first | exact trivial | refine ⟨rfl,?_⟩)) (by (repeat first | exact trivial | refine ⟨rfl,?_⟩)) rfl ⟨trivial,trivial,fn_lt2 (.func 211) g3 g5 0,trivial,trivial,trivial,trivial⟩ trivial fun s ⟨k,gb,V⟩ ⟨hle,hk,hV,hVl⟩=>?_
  dsimp only at hk hV hVl ⊢
  have h3:=hle.cell h3
  have P1:=P1.mono hle
  have S1:=S1.mono hle
  (repeat (first | refine cj_seq ?_ | refine cjr TT rfl ?_ | refine oj_then ?_))
  refine cj_if rfl (fun h=>?_) (fun h=>?_)
  rotate_left
  · have hk0:k=ss.length:=by have:=of_decide_eq_false h;omega
    rw [hk0,List.take_length] at hV
    have hb:V[ps.length]?=some (V[ps.length]'(by omega)):=List.getElem?_eq_getElem _
    have hm:matchG ss ps=V[ps.length]'(by omega):=by
      unfold matchG
      rw [<-hV]
      exact getD_of hb
    generalize V[ps.length]'(by omega)=b at *
    (repeat (first | refine cj_seq ?_ | refine cjr TT rfl ?_ | refine cj_exit ?_ | refine nj_then ?_ | refine nj_then_exit ?_ | refine nj_block_out ?_))
    refine oj_ldA 0 (off:=0) (c:=.v (.slice (some ⟨gb,0,none⟩) (ps.length+1) (ps.length+1))) TT rfl rfl rfl rfl rfl rfl rfl rfl rfl rfl rfl trivial (oj_run TT rfl ?_)
    refine oj_ldS (c:=.v (.slice po ps.length pc)) TT rfl rfl rfl rfl rfl rfl rfl rfl h3 trivial (oj_run TT rfl ?_)
    refine oj_indexAddr TT rfl rfl rfl rfl rfl rfl rfl rfl rfl ⟨by omega,by omega⟩ (oj_run TT rfl ?_)
    refine oj_ldA 1 (off:=ps.length) (c:=.b b) TT rfl rfl rfl rfl rfl (had gb ps.length) rfl rfl rfl rfl (bl_get hb) trivial (oj_run TT rfl ?_)
    (repeat (first | refine oj_then ?_ | refine cj_ret ?_))
    refine nj_ret TT rfl fun β w' _ _=>?_
    rw [hm]
    rfl
  have hkl:k<ss.length:=by have:=of_decide_eq_true h;omega
  have hrow:=strRows_get (List.getElem?_eq_getElem hkl)
  have hnext:runV ps (ss.take (k+1))=deepV ps (nextV ps V ss[k]):=by
    unfold runV
    rw [List.take_succ_eq_append_getElem hkl,List.foldl_append]
    rw [hV]
    rfl
  clear hV
  generalize ss[k]=x at *
  (repeat (first | refine cj_seq ?_ | refine cjr TT rfl ?_ | refine cj_skip ?_ | refine cj_block ?_ | refine nj_then ?_))
  refine oj_idx TT rfl rfl rfl rfl rfl rfl rfl rfl rfl S1 (by omega) hrow (oj_run TT rfl ?_)
  (repeat (first | refine cj_seq ?_ | refine cjr TT rfl ?_ | refine oj_then ?_))
  refine oj_ldS (c:=.v (.slice po ps.length pc)) TT rfl rfl rfl rfl rfl rfl rfl rfl h3 trivial (oj_run TT rfl ?_)
  refine oj_add rfl rfl rfl rfl rfl rfl (by omega) (oj_run TT rfl ?_)
  refine oj_makeSlice (n:=ps.length+1) TT rfl rfl rfl rfl rfl rfl rfl rfl rfl rfl rfl rfl trivial (by show (ps.length+1)*1<=_;omega) (by omega) fun g2=>oj_run TT rfl ?_
  refine oj_then ?_
  refine cj_re [0,1,2] (A':=[nwE g5 gb (ps.length+1),blE gb V,blE g2 (List.replicate (ps.length+1) false)]) (by show [_,_,_]=[_,_,_];rw [<-bl_rep]) rfl ?_
  (repeat (first | refine cj_seq ?_ | refine cjr TT rfl ?_))
  refine oj_ldS (c:=.v (.slice po ps.length pc)) TT rfl rfl rfl rfl rfl rfl rfl rfl h3 trivial (oj_run TT rfl ?_)
  (repeat (first | refine oj_then ?_ | refine cj_block ?_))
  refine cj_loop (fun (_:Nat)=>s) (fun j=>[(3,.a (.v (.pointer (some ⟨g3,0,none⟩)))),(5,.a (.v (.pointer (some ⟨g5,0,none⟩)))),(6,.a (.fn (.func 211) [ptrTo g3,ptrTo g5])),(8,.a (.v (.string x))),(9,.a (.v (.slice (some ⟨g2,0,none⟩) (ps.length+1) (ps.length+1)))),(21,.a (.v (.slice so ss.length sc))),(22,.a (.v (.int .i64 ss.length))),(23,.a (.v (.int .i64 (k:Nat)))),(31,.a (.v (.slice po ps.length pc))),(32,.a (.v (.int .i64 ps.length))),(33,.a (.v (.int .i64 (j:Nat))))])
    (fun _=>[]) (fun j=>[nwE g5 gb (ps.length+1),blE gb V,blE g2 ((List.range j).foldl (patAt ps V x) (List.replicate (ps.length+1) false))]) 0
    (fun j=>j<=ps.length) (fun j=>ps.length - j) 0 (Nat.zero_le _) rfl (by (repeat first | exact trivial | refine ⟨rfl,?_⟩)) (by (repeat first | exact trivial | refine ⟨rfl,?_⟩)) rfl ⟨trivial,trivial,fn_lt2 (.func 211) g3 g5 0,trivial,trivial,trivial,trivial,trivial,trivial,trivial,trivial,trivial⟩ trivial fun j hj=>?_
  (repeat (first | refine cj_seq ?_ | refine cjr TT rfl ?_ | refine oj_then ?_))
  refine cj_if rfl (fun h=>?_) (fun h=>?_)
  rotate_left
  · have hj0:j=ps.length:=by have:=of_decide_eq_false h;omega
    subst hj0
    have hN:(List.range ps.length).foldl (patAt ps V x) (List.replicate (ps.length+1) false)=nextV ps V x:=rfl
    have hNl:=nextV_len ps V x
    rw [hN]
    generalize nextV ps V x=N at *
    (repeat (first | refine cj_seq ?_ | refine cjr TT rfl ?_ | refine cj_exit ?_ | refine nj_then ?_ | refine nj_then_exit ?_ | refine nj_block_out ?_))
    refine oj_stA 0 (off:=0) (c:=.v (.slice (some ⟨g2,0,none⟩) (ps.length+1) (ps.length+1))) (A':=[nwE g5 g2 (ps.length+1),blE gb V,blE g2 N]) TT rfl rfl rfl rfl rfl rfl rfl rfl rfl rfl (by show 0<1*1;omega) trivial rfl rfl (oj_run TT rfl ?_)
    (repeat (first | refine cjr TT rfl ?_ | refine oj_then ?_))
    refine oj_callF [0,2] (A0:=[nwE g5 g2 (ps.length+1),blE g2 N]) (Ar:=[]) rfl rfl rfl rfl rfl rfl rfl Tryz.call211 ⟨trivial,trivial,trivial⟩ (hdeep s hle g2 N hNl) fun v σ3 A3 hle3 ⟨hv,hA⟩=>⟨.tup [],(by (repeat' (first | exact trivial | refine SV.lt_tup ?_))),hv.symm,?_⟩
    subst hA
    refine oj_run TT rfl ?_
    (repeat (first | refine cjr TT rfl ?_ | refine oj_nil ?_ | refine nj_then ?_ | refine nj_block ?_ | (refine oj_add rfl rfl rfl rfl rfl rfl (by omega) ?_;refine oj_run TT rfl ?_)))
    refine nj_again (σ3,(⟨k+1,g2,deepV ps N⟩:MtS)) ⟨Snap.le_trans hle hle3,hkl,hnext.symm,by dsimp only;rw [deepV_len,hNl]⟩ (by dsimp only;omega) rfl (by (repeat first | exact trivial | refine ⟨rfl,?_⟩)) (by (repeat first | exact trivial | refine ⟨rfl,?_⟩)) rfl ⟨trivial,trivial,fn_lt2 (.func 211) g3 g5 0,trivial,trivial,trivial,trivial⟩ trivial
  have hjl:j<ps.length:=by have:=of_decide_eq_true h;omega
  have hra:=ptRows_get (List.getElem?_eq_getElem hjl)
  have hnx:=range_fold (patAt ps V x) (List.replicate (ps.length+1) false) j
  have hNl:((List.range j).foldl (patAt ps V x) (List.replicate (ps.length+1) false)).length=ps.length+1:=by rw [fold_len _ (patAt_len ps V x),List.length_replicate]
  generalize (List.range j).foldl (patAt ps V x) (List.replicate (ps.length+1) false)=N at *
  have hd:patAt ps V x N j=match ps[j]? with | some p=>if V.getD j false then (if p.what=4 then N.set j true else if fitsP p x then N.set (j+1) true else N) else N | none=>N:=rfl
  rw [List.getElem?_eq_getElem hjl] at hd
  dsimp only at hd
  have hbk:V[j]?=some (V[j]'(by omega)):=List.getElem?_eq_getElem _
  rw [getD_of hbk] at hd
  generalize V[j]'(by omega)=b at *
  generalize ps[j]=p at *
  have hlt:EnvLt 0 [(3,.a (.v (.pointer (some ⟨g3,0,none⟩)))),(5,.a (.v (.pointer (some ⟨g5,0,none⟩)))),(6,.a (.fn (.func 211) [ptrTo g3,ptrTo g5])),(8,.a (.v (.string x))),(9,.a (.v (.slice (some ⟨g2,0,none⟩) (ps.length+1) (ps.length+1)))),(21,.a (.v (.slice so ss.length sc))),(22,.a (.v (.int .i64 ss.length))),(23,.a (.v (.int .i64 (k:Nat)))),(31,.a (.v (.slice po ps.length pc))),(32,.a (.v (.int .i64 ps.length))),(33,.a (.v (.int .i64 ((j+1:Nat):Int))))]:=⟨trivial,trivial,fn_lt2 (.func 211) g3 g5 0,trivial,trivial,trivial,trivial,trivial,trivial,trivial,trivial,trivial⟩
  (repeat (first | refine cj_seq ?_ | refine cjr TT rfl ?_ | refine cj_skip ?_ | refine cj_block ?_ | refine nj_then ?_))
  refine oj_idx TT rfl rfl rfl rfl rfl rfl rfl rfl rfl P1 (by omega) hra (oj_run TT rfl ?_)
  (repeat (first | refine cj_seq ?_ | refine cjr TT rfl ?_ | refine oj_then ?_))
  refine oj_ldA 0 (off:=0) (c:=.v (.slice (some ⟨gb,0,none⟩) (ps.length+1) (ps.length+1))) TT rfl rfl rfl rfl rfl rfl rfl rfl rfl rfl rfl trivial (oj_run TT rfl ?_)
  refine oj_indexAddr TT rfl rfl rfl rfl rfl rfl rfl rfl rfl ⟨by omega,by omega⟩ (oj_run TT rfl ?_)
  refine oj_ldA 1 (off:=j) (c:=.b b) TT rfl rfl rfl rfl rfl (had gb j) rfl rfl rfl rfl (bl_get hbk) trivial (oj_run TT rfl ?_)
  refine oj_split 42 rfl (fun h1=>?_) (fun h1=>?_)
  · have h1:b=true:=h1
    rw [h1,if_pos rfl] at hd
    refine oj_run TT rfl ?_
    (repeat refine oj_then ?_)
    refine cj_if rfl (fun h2=>?_) (fun h2=>?_)
    · rw [if_pos (of_decide_eq_true h2)] at hd
      (repeat refine cjr TT rfl ?_)
      refine oj_indexAddr TT rfl rfl rfl rfl rfl rfl rfl rfl rfl ⟨by omega,by omega⟩ (oj_run TT rfl ?_)
      refine oj_stA 2 (off:=j) (c:=.tt) (A':=[nwE g5 gb (ps.length+1),blE gb V,blE g2 (N.set j true)]) TT rfl rfl rfl rfl (had g2 j) rfl rfl rfl rfl rfl (by show j<N.length*1;omega) trivial rfl ?_ (oj_run TT rfl ?_)
      · show [_,_,_]=[_,_,_]
        rw [<-bl_set]
        rfl
      (repeat (first | refine cjr TT rfl ?_ | refine oj_nil ?_ | refine nj_then ?_ | refine nj_block ?_ | (refine oj_add rfl rfl rfl rfl rfl rfl (by omega) ?_;refine oj_run TT rfl ?_)))
      refine nj_again (j+1) hjl (by omega) rfl (by (repeat first | exact trivial | refine ⟨rfl,?_⟩)) (by (repeat first | exact trivial | refine ⟨rfl,?_⟩)) ?_ hlt trivial
      rw [hnx,hd]
    · rw [if_neg (of_decide_eq_false h2)] at hd
      (repeat (first | refine cj_seq ?_ | refine cjr TT rfl ?_))
      refine oj_ldA 0 (off:=0) (c:=.v (.slice (some ⟨gb,0,none⟩) (ps.length+1) (ps.length+1))) TT rfl rfl rfl rfl rfl rfl rfl rfl rfl rfl rfl trivial (oj_run TT rfl ?_)
      refine oj_indexAddr TT rfl rfl rfl rfl rfl rfl rfl rfl rfl ⟨by omega,by omega⟩ (oj_run TT rfl ?_)
      refine oj_ldA 1 (off:=j) (c:=.b b) TT rfl rfl rfl rfl rfl (had gb j) rfl rfl rfl rfl (bl_get hbk) trivial (oj_run TT rfl ?_)
      refine oj_split 54 rfl (fun _=>?_) (fun h3=>absurd (show b=false from h3) (by rw [h1];decide))
      refine oj_run TT rfl ?_
      refine oj_callP rfl rfl rfl rfl rfl Tryz.call212 ⟨(by (repeat' (first | exact trivial | refine AllLt.of ?_ | constructor))),trivial,trivial⟩ (fitsP_c s p x) fun v hv=>⟨.a (.b (fitsP p x)),trivial,hv.symm,?_⟩
      refine oj_run TT rfl ?_
      (repeat refine oj_then ?_)
      refine cj_if rfl (fun h4=>?_) (fun h4=>?_)
      · rw [h4,if_pos rfl] at hd
        (repeat (first | refine cjr TT rfl ?_ | (refine oj_add rfl rfl rfl rfl rfl rfl (by omega) ?_;refine oj_run TT rfl ?_)))
        refine oj_indexAddr TT rfl rfl rfl rfl rfl rfl rfl rfl rfl ⟨by omega,by omega⟩ (oj_run TT rfl ?_)
        refine oj_stA 2 (off:=j+1) (c:=.tt) (A':=[nwE g5 gb (ps.length+1),blE gb V,blE g2 (N.set (j+1) true)]) TT rfl rfl rfl rfl (had g2 (j+1)) rfl rfl rfl rfl rfl (by show j+1<N.length*1;omega) trivial rfl ?_ (oj_run TT rfl ?_)
        · show [_,_,_]=[_,_,_]
          rw [<-bl_set]
          rfl
        (repeat (first | refine cjr TT rfl ?_ | refine oj_nil ?_ | refine nj_then ?_ | refine nj_block ?_ | (refine oj_add rfl rfl rfl rfl rfl rfl (by omega) ?_;refine oj_run TT rfl ?_)))
        refine nj_again (j+1) hjl (by omega) rfl (by (repeat first | exact trivial | refine ⟨rfl,?_⟩)) (by (repeat first | exact trivial | refine ⟨rfl,?_⟩)) ?_ hlt trivial
        rw [hnx,hd]
      · rw [h4,if_neg (by simp)] at hd
        (repeat (first | refine cjr TT rfl ?_ | refine oj_nil ?_ | refine cj_skip ?_ | refine nj_then ?_ | refine nj_block ?_ | (refine oj_add rfl rfl rfl rfl rfl rfl (by omega) ?_;refine oj_run TT rfl ?_)))
        refine nj_again (j+1) hjl (by omega) rfl (by (repeat first | exact trivial | refine ⟨rfl,?_⟩)) (by (repeat first | exact trivial | refine ⟨rfl,?_⟩)) ?_ hlt trivial
        rw [hnx,hd]
  · have h1:b=false:=h1
    rw [h1,if_neg (by simp)] at hd
    refine oj_run TT rfl ?_
    (repeat (first | refine cj_seq ?_ | refine cjr TT rfl ?_ | refine oj_then ?_ | refine cj_if_f rfl ?_))
    refine oj_ldA 0 (off:=0) (c:=.v (.slice (some ⟨gb,0,none⟩) (ps.length+1) (ps.length+1))) TT rfl rfl rfl rfl rfl rfl rfl rfl rfl rfl rfl trivial (oj_run TT rfl ?_)
    refine oj_indexAddr TT rfl rfl rfl rfl rfl rfl rfl rfl rfl ⟨by omega,by omega⟩ (oj_run TT rfl ?_)
    refine oj_ldA 1 (off:=j) (c:=.b b) TT rfl rfl rfl rfl rfl (had gb j) rfl rfl rfl rfl (bl_get hbk) trivial (oj_run TT rfl ?_)
    refine oj_split 54 rfl (fun h3=>absurd (show b=true from h3) (by rw [h1];decide)) (fun _=>?_)
    refine oj_run TT rfl ?_
    (repeat (first | refine cjr TT rfl ?_ | refine oj_then ?_ | refine oj_nil ?_ | refine cj_if_f rfl ?_ | refine cj_skip ?_ | refine nj_then ?_ | refine nj_block ?_ | (refine oj_add rfl rfl rfl rfl rfl rfl (by omega) ?_;refine oj_run TT rfl ?_)))
    refine nj_again (j+1) hjl (by omega) rfl (by (repeat first | exact trivial | refine ⟨rfl,?_⟩)) (by (repeat first | exact trivial | refine ⟨rfl,?_⟩)) ?_ hlt trivial
    rw [hnx,hd]
end Go.Sy
namespace Go.Sy
open Go.Proofs
set_option maxRecDepth 100000 in
set_option maxHeartbeats 1000000 in
theorem match1_c (σ:Snap) (k:Nat) (x:GLine) (hx:LnOk σ x) (ps:List GPat) (hl:ps.length<=1000000) (po:Option Addr) (pc:Nat) (P:SlAt σ po ps.length pc 2 (ptRows ps)) (g:Nat) (hg:σ.cell ⟨g,0,none⟩=some (.slice po ps.length pc)) :
    PlainS Tryz.prog 157 (.a (.v (.int .i64 k))::.agg (lnCells x)::[ptrTo g].map ptSV) σ (fun v=>v=.bool (matchG x.st ps)):=by
  refine enter_p Tryz.func157 rfl rfl ⟨trivial,lnCells_lt 0 x,trivial,trivial⟩ fun w=>?_
  (repeat (first | refine cj_seq ?_ | refine cjr TT rfl ?_ | refine oj_then ?_))
  refine oj_ldS (c:=.v (.slice po ps.length pc)) TT rfl rfl rfl rfl rfl rfl rfl rfl hg trivial (oj_run TT rfl ?_)
  refine oj_callP rfl rfl rfl rfl rfl Tryz.call158 (by (repeat' (first | exact trivial | constructor))) (matches_c σ x.st hx.1 x.ao x.cap hx.2 ps hl po pc P) fun v hv=>⟨.a (.b (matchG x.st ps)),trivial,hv.symm,?_⟩
  refine oj_run TT rfl ?_
  (repeat (first | refine oj_then ?_ | refine cj_ret ?_))
  refine nj_ret TT rfl fun β w' _ _=>?_
  rfl
def matchIds (xs:List GLine) (ps:List GPat):List Int:=allG (fun _ x=>matchG x.st ps) xs 0
set_option maxRecDepth 100000 in
set_option maxHeartbeats 1000000 in
theorem Match_c (σ:Snap) (xs:List GLine) (hxl:xs.length<=1000000) (ao:Option Addr) (cap:Nat) (next:Int) (H:SlAt σ ao xs.length cap 3 (lnRows xs)) (hx:∀ x∈xs,LnOk σ x)
    (ps:List GPat) (hl:ps.length<=1000000) (po:Option Addr) (pc:Nat) (P:SlAt σ po ps.length pc 2 (ptRows ps)) :
    PureS Tryz.prog 82 [.agg [.v (.slice ao xs.length cap),.v (.int .i64 next)],.a (.v (.slice po ps.length pc))] σ (fun v σ'=>∃ oo oc,v=.slice oo (matchIds xs ps).length oc/\SlAt σ' oo (matchIds xs ps).length oc 1 (idRows (matchIds xs ps))):=by
  refine enter_s Tryz.func82 rfl rfl (by (repeat' (first | exact trivial | refine AllLt.of ?_ | constructor))) fun w=>?_
  (repeat (first | refine cj_seq ?_ | refine cjr TT rfl ?_ | refine oj_then ?_))
  refine oj_own 1 1 1 rfl (by (repeat' (first | exact trivial | refine AllLt.of ?_ | constructor))) rfl (by decide) fun g=>?_
  refine oj_seal 0 rfl rfl rfl fun σ1 hle1 hS=>?_
  refine oj_callS rfl rfl rfl rfl rfl Tryz.call156 ⟨(by (repeat' (first | exact trivial | refine AllLt.of ?_ | constructor))),fn_lt1 (.func 157) g 0,trivial⟩ (all_c σ1 xs hxl ao cap next (H.mono hle1) 157 [ptrTo g] ⟨trivial,trivial⟩ Tryz.call157 (fun _ x=>matchG x.st ps) (fun k x hk=>match1_c σ1 k x ((hx x (List.mem_of_getElem? hk)).mono hle1) ps hl po pc (P.mono hle1) g (cell_of hS)) (fn_lt1 (.func 157) g 0)) fun v σ2 hle2 ⟨oo,oc,hv,HO⟩=>⟨.a (.v (.slice oo (matchIds xs ps).length oc)),trivial,hv.symm,?_⟩
  refine oj_run TT rfl ?_
  (repeat (first | refine oj_then ?_ | refine cj_ret ?_))
  refine nj_ret TT rfl fun β w' _ _=>?_
  exact ⟨oo,oc,rfl,HO⟩
end Go.Sy
/- Plain laws: counts of lines; single patterns; paths of records. No program in sight. -/
namespace Go.Sy
def deepP:GPat:=⟨4,emptyS⟩
theorem run_deep:∀ (ss:List ByteArray),runV [deepP] ss=[true,true]:=by
  have h0:startV [deepP]=[true,true]:=rfl
  have h1:∀ s,deepV [deepP] (nextV [deepP] [true,true] s)=[true,true]:=fun s=>rfl
  have:∀ (ss:List ByteArray),ss.foldl (fun V s=>deepV [deepP] (nextV [deepP] V s)) [true,true]=[true,true]:=by
    intro ss
    induction ss with
    | nil=>rfl
    | cons s ss ih=>rw [List.foldl_cons,h1,ih]
  intro ss
  unfold runV
  rw [h0,this]
theorem match_deep (ss:List ByteArray):matchG ss [deepP]=true:=by unfold matchG;rw [run_deep];rfl
theorem pathsF_len:∀ (L:List GRec) (way:List ByteArray),(pathsF way L).length=L.length
  | [],_=>rfl
  | r::l,way=>by rw [pathsF,List.length_cons,List.length_cons,pathsF_len l]
end Go.Sy
/- Plain law: how many stand in how many, of values' records. No program in sight. -/
namespace Go.Sy
def itemOf (id:Int) (r:GRec) (i:Nat):GItem:=⟨id,i,r.st,r.en,r.lv⟩
def itemsD (id:Int) (L:List GRec):List GItem:=L.zipIdx.map fun x=>itemOf id x.1 x.2
theorem itemsD_len (id:Int) (L:List GRec):(itemsD id L).length=L.length:=by simp [itemsD]
theorem itemsD_get {id:Int} {L:List GRec} {i:Nat} {r:GRec} (h:L[i]?=some r):(itemsD id L)[i]?=some (itemOf id r i):=by
  unfold itemsD
  rw [List.getElem?_map,List.getElem?_zipIdx,h]
  simp
end Go.Sy
/- Plain law: an index of documents: its items, and what is asked of paths. No program in sight. -/
namespace Go.Sy
structure GDoc where
  id:Int
  o:Option Addr
  cap:Nat
  L:List GRec
  lo:Option Addr
  lcap:Nat
  ids:List Int
structure SInv (ps:List SRow) (s:GSt):Prop where
  inv:GInv s
  len:s.ids.length=ps.length
  st:∀ (k:Nat) (d:Int),s.ids[k]?=some d->∃ (j:Nat) (x:GLine) (p:SRow),s.xs[j]?=some x/\x.id=d/\ps[k]?=some p/\x.st=p.ss
theorem SInv.step {ps:List SRow} {s:GSt} (h:SInv ps s) (p:SRow):SInv (ps++[p]) (addOne s p):=by
  obtain ⟨h1,h2,j,y,h3,h4,h5⟩:=addOne_spec h.inv p
  refine ⟨h1,by rw [h5,List.length_append,List.length_append,h.len];rfl,fun k d hd=>?_⟩
  rw [h5] at hd
  by_cases hk:k<s.ids.length
  · rw [List.getElem?_append_left hk] at hd
    obtain ⟨j',x,q,e1,e2,e3,e4⟩:=h.st k d hd
    obtain ⟨y',f1,f2,f3⟩:=h2 j' x e1
    exact ⟨j',y',q,f1,by rw [f3,e2],by rw [List.getElem?_append_left (by rw [<-h.len];exact hk)];exact e3,by rw [f2,e4]⟩
  · rw [List.getElem?_append_right (by omega)] at hd
    have h0:k - s.ids.length=0:=by
      have:=(List.getElem?_eq_some_iff.1 hd).1
      simp only [List.length_singleton] at this
      omega
    rw [h0] at hd
    injection hd with hd
    refine ⟨j,y,p,h3,hd,?_,h4⟩
    rw [List.getElem?_append_right (by rw [<-h.len];omega),<-h.len,h0]
    rfl
theorem SInv.all:∀ (qs ps:List SRow) {s:GSt},SInv ps s->SInv (ps++qs) (addAll s qs)
  | [],ps,s,h=>by rw [List.append_nil];exact h
  | q::qs,ps,s,h=>by
    have:=SInv.all qs (ps++[q]) (h.step q)
    rw [List.append_assoc] at this
    exact this
theorem SInv.start {xs:List GLine} {next:Int} {ids:List Int} (h:GInv ⟨xs,next,ids⟩):SInv [] ⟨xs,next,[]⟩:=⟨⟨h.next,h.at_⟩,rfl,fun k d hd=>by cases hd⟩
def LinesOk (xs:List GLine) (d:GDoc):Prop:=d.ids.length=d.L.length/\∀ (i:Nat) (k:Int) (p:List ByteArray),d.ids[i]?=some k->(pathsG d.L)[i]?=some p->∃ (j:Nat) (x:GLine),xs[j]?=some x/\x.st=p/\x.id=k
structure IdxP (ds:List GDoc) (xs:List GLine) (next:Int):Prop where
  inv:GInv ⟨xs,next,[]⟩
  ord:ds.Pairwise fun x y=>x.id<y.id
  doc:∀ d∈ds,LinesOk xs d
theorem IdxP.nil:IdxP [] [] 0:=⟨⟨rfl,fun j x h=>(by cases h)⟩,List.Pairwise.nil,fun _ h=>(by cases h)⟩
theorem IdxP.add {ds:List GDoc} {xs:List GLine} {next:Int} (h:IdxP ds xs next) {d:GDoc} (hd:∀ x∈ds,x.id<d.id) {rows:List SRow} (hr:rows.map SRow.ss=pathsG d.L) (hi:d.ids=(addAll ⟨xs,next,[]⟩ rows).ids) :
    IdxP (ds++[d]) (addAll ⟨xs,next,[]⟩ rows).xs (addAll ⟨xs,next,[]⟩ rows).next:=by
  have hS:=SInv.all rows [] (SInv.start h.inv)
  obtain ⟨h1,h2,-⟩:=addAll_inv rows h.inv
  rw [List.nil_append] at hS
  have hpl:(pathsG d.L).length=d.L.length:=pathsF_len _ _
  refine ⟨⟨h1.next,h1.at_⟩,?_,fun x hx=>?_⟩
  · rw [List.pairwise_append]
    refine ⟨h.ord,List.pairwise_singleton _ _,fun x hx y hy=>?_⟩
    rw [List.mem_singleton] at hy
    subst hy
    exact hd x hx
  · rcases List.mem_append.1 hx with hx | hx
    · obtain ⟨e1,e2⟩:=h.doc x hx
      refine ⟨e1,fun i k p hk hp=>?_⟩
      obtain ⟨j,y,f1,f2,f3⟩:=e2 i k p hk hp
      obtain ⟨z,g1,g2,g3⟩:=h2 j y f1
      exact ⟨j,z,g1,by rw [g2,f2],by rw [g3,f3]⟩
    · rw [List.mem_singleton] at hx
      subst hx
      refine ⟨by rw [hi,hS.len,<-hpl,<-hr,List.length_map],fun i k p hk hp=>?_⟩
      rw [hi] at hk
      obtain ⟨j,y,q,f1,f2,f3,f4⟩:=hS.st i k hk
      rw [<-hr,List.getElem?_map,f3] at hp
      injection hp with hp
      exact ⟨j,y,f1,by rw [f4];exact hp,f2⟩
def onD (lines:Int->Bool) (d:GDoc):List GItem:=(((itemsD d.id d.L).zip d.ids).filter fun x=>lines x.2).map Prod.fst
def onG (lines:Int->Bool) (ds:List GDoc):List GItem:=ds.flatMap (onD lines)
def pItems (d:GDoc):List (GItem×List ByteArray):=(itemsD d.id d.L).zip (pathsG d.L)
theorem mem_allG {q:Nat->GLine->Bool} {y:Int}:∀ (l:List GLine) (k:Nat),y∈allG q l k↔∃ (j:Nat) (x:GLine),l[j]?=some x/\q (k+j) x=true/\x.id=y
  | [],k=>by simp [allG]
  | x::l,k=>by
    have ih:=mem_allG (q:=q) (y:=y) l (k+1)
    have hsp:(∃ (j:Nat) (z:GLine),(x::l)[j]?=some z/\q (k+j) z=true/\z.id=y)↔(q k x=true/\x.id=y)\/∃ (j:Nat) (z:GLine),l[j]?=some z/\q (k+1+j) z=true/\z.id=y:=by
      constructor
      · rintro ⟨j,z,h1,h2,h3⟩
        cases j with
        | zero =>
          injection h1 with h1
          subst h1
          exact .inl ⟨h2,h3⟩
        | succ j=>exact .inr ⟨j,z,h1,by rw [show k+1+j=k+(j+1) by omega];exact h2,h3⟩
      · rintro (⟨h1,h2⟩ | ⟨j,z,h1,h2,h3⟩)
        · exact ⟨0,x,rfl,h1,h2⟩
        · exact ⟨j+1,z,h1,by rw [show k+(j+1)=k+1+j by omega];exact h2,h3⟩
    rw [hsp,<-ih]
    show y∈(if q k x then x.id::allG q l (k+1) else allG q l (k+1))↔_
    cases hq:q k x
    · simp
    · rw [if_pos rfl,List.mem_cons]
      constructor
      · rintro (h | h)
        · exact .inl ⟨rfl,h.symm⟩
        · exact .inr h
      · rintro (h | h)
        · exact .inl h.2.symm
        · exact .inr h
theorem mem_match {xs:List GLine} {next:Int} (h:GInv ⟨xs,next,[]⟩) {j:Nat} {x:GLine} (hx:xs[j]?=some x) (ps:List GPat):x.id∈matchIds xs ps↔matchG x.st ps=true:=by
  unfold matchIds
  rw [mem_allG]
  constructor
  · rintro ⟨i,y,h1,h2,h3⟩
    have e1:=(h.at_ i y h1).1
    have e2:=(h.at_ j x hx).1
    have:i=j:=by omega
    subst this
    rw [hx] at h1
    injection h1 with h1
    subst h1
    exact h2
  · intro h1
    exact ⟨j,x,hx,h1,rfl⟩
theorem filter_zip3 {α β γ:Type} (f:β->Bool) (g:γ->Bool):∀ (a:List α) (b:List β) (c:List γ),a.length=b.length->a.length=c.length->(∀ (i:Nat) y z,b[i]?=some y->c[i]?=some z->f y=g z) ->
    ((a.zip b).filter fun x=>f x.2).map Prod.fst=((a.zip c).filter fun x=>g x.2).map Prod.fst
  | [],_,_,_,_,_=>by simp
  | x::a,[],_,h,_,_=>by simp at h
  | x::a,_::_,[],_,h,_=>by simp at h
  | x::a,y::b,z::c,h1,h2,h=>by
    have ih:=filter_zip3 f g a b c (by simpa using h1) (by simpa using h2) fun i y z hy hz=>h (i+1) y z hy hz
    have h0:=h 0 y z rfl rfl
    rw [List.zip_cons_cons,List.zip_cons_cons,List.filter_cons,List.filter_cons]
    dsimp only
    rw [h0]
    split
    · rw [List.map_cons,List.map_cons,ih]
    · exact ih
theorem on_match {ds:List GDoc} {xs:List GLine} {next:Int} (h:IdxP ds xs next) (ps:List GPat) :
    onG (fun k=>decide (k∈matchIds xs ps)) ds=((ds.flatMap pItems).filter fun x=>matchG x.2 ps).map Prod.fst:=by
  have hd:∀ d∈ds,onD (fun k=>decide (k∈matchIds xs ps)) d=((pItems d).filter fun x=>matchG x.2 ps).map Prod.fst:=by
    intro d hd
    obtain ⟨e1,e2⟩:=h.doc d hd
    have hpl:(pathsG d.L).length=d.L.length:=pathsF_len _ _
    refine filter_zip3 (fun k=>decide (k∈matchIds xs ps)) (fun p=>matchG p ps) _ _ _ (by rw [itemsD_len,e1]) (by rw [itemsD_len,hpl]) fun i k p hk hp=>?_
    obtain ⟨j,x,f1,f2,f3⟩:=e2 i k p hk hp
    rw [<-f3,<-f2,Bool.eq_iff_iff,decide_eq_true_eq]
    exact mem_match h.inv f1 ps
  clear h
  unfold onG
  induction ds with
  | nil=>rfl
  | cons d ds ih =>
    rw [List.flatMap_cons,List.flatMap_cons,List.filter_append,List.map_append,ih fun x hx=>hd x (List.mem_cons_of_mem d hx),hd d List.mem_cons_self]
theorem pItems_fst (d:GDoc):(pItems d).map Prod.fst=itemsD d.id d.L:=by
  unfold pItems
  rw [List.map_fst_zip]
  rw [itemsD_len]
  unfold pathsG
  rw [pathsF_len]
  exact Nat.le_refl _
theorem flat_fst (ds:List GDoc):(ds.flatMap pItems).map Prod.fst=ds.flatMap fun d=>itemsD d.id d.L:=by
  induction ds with
  | nil=>rfl
  | cons d ds ih=>rw [List.flatMap_cons,List.flatMap_cons,List.map_append,ih,pItems_fst]
theorem on_deep {ds:List GDoc} {xs:List GLine} {next:Int} (h:IdxP ds xs next):onG (fun k=>decide (k∈matchIds xs [deepP])) ds=ds.flatMap fun d=>itemsD d.id d.L:=by
  rw [on_match h,<-flat_fst]
  congr 1
  rw [List.filter_eq_self]
  intro x _
  exact match_deep x.2
end Go.Sy
namespace Go.Sy
open Go.Proofs
def aS:ByteArray:=⟨#[46,97]⟩
end Go.Sy
namespace Go.Sy
open Go.Proofs
def itCells (x:GItem):List AT:=[.v (.int .i64 x.doc),.v (.int .i64 x.at_),.v (.int .i64 x.st),.v (.int .i64 x.en),.v (.int .i64 x.lv)]
theorem itCells_lt (n:Nat) (x:GItem):∀ c∈itCells x,c.lt n:=by simp [itCells,AT.lt]
def itRows (l:List GItem):List (List AT):=l.map itCells
theorem itRows_get {l:List GItem} {i:Nat} {x:GItem} (h:l[i]?=some x):(itRows l)[i]?=some (itCells x):=by unfold itRows;rw [List.getElem?_map,h];rfl
theorem itRows_all (a:List GItem):∀ r∈itRows a,r.length=5/\(∀ c∈r,c.lt 0)/\r.all AT.one=true:=by
  intro r hr
  obtain ⟨x,_,rfl⟩:=List.mem_map.1 hr
  exact ⟨rfl,itCells_lt 0 x,rfl⟩
def itXs (l:List GItem):List Value:=(itRows l).flatten.map AT.val
theorem itXs_append (a b:List GItem):itXs (a++b)=itXs a++itXs b:=by simp [itXs,itRows]
theorem itXs_push (L:List GItem) (x:GItem):itXs L++(itCells x).map AT.val=itXs (L++[x]):=by
  rw [itXs_append]
  simp [itXs,itRows]
theorem itXs_get {l:List GItem} {i j:Nat} {x:GItem} {c:AT} (h:l[i]?=some x) (hj:(itCells x)[j]?=some c):(itXs l)[i*5+j]?=some c.val:=by
  unfold itXs
  rw [List.getElem?_map,flat_get (sz:=5) (fun r hr=>(itRows_all l r hr).1) (itRows_get h) hj]
  rfl
theorem itXs_take (l:List GItem) (k:Nat):(itXs l).take (k*5)=itXs (l.take k):=by
  unfold itXs
  rw [<-List.map_take,flat_take (sz:=5) (fun r hr=>(itRows_all l r hr).1)]
  unfold itRows
  rw [List.map_take]
def itE (ao:Option Addr) (cap:Nat) (l:List GItem):AE:=⟨ao,l.length,cap,71,5,itXs l⟩
theorem it_sealed {σ:Snap} {ao:Option Addr} {cap:Nat} {l:List GItem} (hS:ArrSealed σ (itE ao cap l)) (hc:l.length<=cap):SlAt σ ao l.length cap 5 (itRows l) :=
  hS.sl rfl (fun r hr=>⟨(itRows_all l r hr).1,(itRows_all l r hr).2.1⟩) (by simp [itRows]) rfl hc
end Go.Sy
namespace Go.Sy
open Go.Proofs
def doCells (d:GDoc):List AT:=[.v (.int .i64 d.id),.v (.slice d.o d.L.length d.cap)]
def liCells (d:GDoc):List AT:=[.v (.slice d.lo d.ids.length d.lcap)]
theorem doCells_lt (n:Nat) (d:GDoc):∀ c∈doCells d,c.lt n:=by simp [doCells,AT.lt]
def doRows (l:List GDoc):List (List AT):=l.map doCells
theorem doRows_get {l:List GDoc} {i:Nat} {x:GDoc} (h:l[i]?=some x):(doRows l)[i]?=some (doCells x):=by unfold doRows;rw [List.getElem?_map,h];rfl
theorem doRows_all (a:List GDoc):∀ r∈doRows a,r.length=2/\(∀ c∈r,c.lt 0)/\r.all AT.one=true:=by
  intro r hr
  obtain ⟨x,_,rfl⟩:=List.mem_map.1 hr
  exact ⟨rfl,doCells_lt 0 x,rfl⟩
def doXs (l:List GDoc):List Value:=(doRows l).flatten.map AT.val
def doE (ao:Option Addr) (cap:Nat) (l:List GDoc):AE:=⟨ao,l.length,cap,90,2,doXs l⟩
theorem doXs_append (a b:List GDoc):doXs (a++b)=doXs a++doXs b:=by simp [doXs,doRows]
theorem do_sealed {σ:Snap} {ao:Option Addr} {cap:Nat} {l:List GDoc} (hS:ArrSealed σ (doE ao cap l)) (hc:l.length<=cap):SlAt σ ao l.length cap 2 (doRows l) :=
  hS.sl rfl (fun r hr=>⟨(doRows_all l r hr).1,(doRows_all l r hr).2.1⟩) (by simp [doRows]) rfl hc
set_option maxRecDepth 100000 in
set_option maxHeartbeats 1000000 in
theorem doClone_c (σ:Snap) (xs:List GDoc) (hl:xs.length<=1000000) (ao:Option Addr) (cap:Nat) (H:SlAt σ ao xs.length cap 2 (doRows xs)) :
    FnS Tryz.prog 109 [.a (.v (.slice ao xs.length cap))] σ [] (fun v _ A'=>∃ bo bc,v=.slice bo xs.length bc/\xs.length<=bc/\A'=[doE bo bc xs]):=by
  refine enter_f Tryz.func109 rfl rfl (by (repeat' (first | exact trivial | constructor))) fun w=>?_
  (repeat (first | refine cj_seq ?_ | refine cjr TT rfl ?_ | refine oj_then ?_ | (refine oj_slnil TT rfl rfl rfl rfl rfl rfl rfl rfl ?_;refine oj_run TT rfl ?_)))
  refine cj_if rfl (fun h=>?_) (fun h=>?_)
  · have h0:ao=none:=by simpa using h
    have hn0:xs.length=0:=by
      rcases H.at_ with h1 | ⟨ad,h1,_⟩
      · exact h1
      · rw [h0] at h1;cases h1
    have hr:xs=[]:=List.eq_nil_of_length_eq_zero hn0
    subst hr
    (repeat (first | refine cj_seq ?_ | refine cjr TT rfl ?_ | refine oj_then ?_ | refine cj_ret ?_ | refine nj_then_ret ?_))
    refine nj_nilarr 90 2 ?_
    refine nj_fret TT rfl fun β w' _ _=>?_
    exact ⟨none,0,rfl,Nat.le_refl _,rfl⟩
  (repeat (first | refine cj_seq ?_ | refine cjr TT rfl ?_ | refine cj_skip ?_ | refine nj_then ?_))
  refine oj_own 0 0 2 rfl (by (repeat' (first | exact trivial | refine AllLt.of ?_))) rfl (by decide) fun gb=>?_
  refine oj_append_sl TT 0 rfl rfl rfl rfl rfl rfl rfl H rfl rfl rfl rfl rfl rfl rfl rfl rfl (fun r hr=>(doRows_all xs r hr).2.2) (by omega) (by show (0+xs.length)*32<=_;omega) fun ao' cap' hcap'=>oj_run TT rfl ?_
  (repeat (first | refine oj_then ?_ | refine cj_ret ?_))
  refine nj_fret TT rfl fun β w' _ _=>?_
  refine ⟨ao',cap',by show Value.slice ao' (0+xs.length) cap'=_;rw [Nat.zero_add],by omega,?_⟩
  show [_]=[_]
  rw [Nat.zero_add]
  rfl
set_option maxRecDepth 100000 in
set_option maxHeartbeats 1000000 in
theorem doInsert_c (σ:Snap) (l:List GDoc) (hl:l.length<=1000000) (so:Option Addr) (sc:Nat) (hsc:l.length<=sc) (d:GDoc) (vo:Option Addr) (vc:Nat) (V:SlAt σ vo 1 vc 2 (doRows [d])) :
    FnS Tryz.prog 108 [.a (.v (.slice so l.length sc)),.a (.v (.int .i64 l.length)),.a (.v (.slice vo 1 vc))] σ [doE so sc l]
      (fun v _ A'=>∃ so' sc',v=.slice so' (l++[d]).length sc'/\(l++[d]).length<=sc'/\A'=[doE so' sc' (l++[d])]):=by
  refine enter_f Tryz.func108 rfl rfl (by (repeat' (first | exact trivial | constructor))) fun w=>?_
  (repeat (first | refine cj_seq ?_ | refine cjr TT rfl ?_ | refine oj_then ?_))
  refine oj_slice TT l.length l.length rfl rfl rfl rfl rfl rfl rfl rfl rfl rfl (.inr ⟨_,_,rfl,rfl⟩) (.inl ⟨rfl,rfl⟩) (Nat.le_refl _) hsc hsc (oj_run TT rfl ?_)
  (repeat (first | refine cj_seq ?_ | refine cjr TT rfl ?_ | refine oj_then ?_))
  refine cj_if rfl (fun h=>absurd h (by decide)) (fun _=>?_)
  (repeat (first | refine cj_seq ?_ | refine cjr TT rfl ?_ | refine oj_then ?_ | refine cj_skip ?_ | refine nj_then ?_))
  refine cj_if rfl (fun _=>?_) (fun h=>absurd rfl (of_decide_eq_false h))
  (repeat (first | refine cj_seq ?_ | refine cjr TT rfl ?_))
  refine oj_append_sl TT 0 rfl rfl rfl rfl rfl rfl rfl V rfl rfl rfl rfl rfl rfl rfl rfl rfl (fun r hr=>(doRows_all [d] r hr).2.2) (by omega) (by show (l.length+1)*32<=_;omega) fun ao' cap' hcap'=>oj_run TT rfl ?_
  (repeat (first | refine oj_then ?_ | refine cj_ret ?_ | refine nj_then_ret ?_))
  refine nj_fret TT rfl fun β w' _ _=>?_
  have hlen:(l++[d]).length=l.length+1:=by simp
  rw [hlen]
  refine ⟨ao',cap',rfl,hcap',?_⟩
  unfold doE
  rw [hlen,doXs_append]
  rfl
theorem liCells_lt (n:Nat) (d:GDoc):∀ c∈liCells d,c.lt n:=by simp [liCells,AT.lt]
def liRows (l:List GDoc):List (List AT):=l.map liCells
theorem liRows_get {l:List GDoc} {i:Nat} {x:GDoc} (h:l[i]?=some x):(liRows l)[i]?=some (liCells x):=by unfold liRows;rw [List.getElem?_map,h];rfl
theorem liRows_all (a:List GDoc):∀ r∈liRows a,r.length=1/\(∀ c∈r,c.lt 0)/\r.all AT.one=true:=by
  intro r hr
  obtain ⟨x,_,rfl⟩:=List.mem_map.1 hr
  exact ⟨rfl,liCells_lt 0 x,rfl⟩
def liXs (l:List GDoc):List Value:=(liRows l).flatten.map AT.val
def liE (ao:Option Addr) (cap:Nat) (l:List GDoc):AE:=⟨ao,l.length,cap,74,1,liXs l⟩
theorem liXs_append (a b:List GDoc):liXs (a++b)=liXs a++liXs b:=by simp [liXs,liRows]
theorem li_sealed {σ:Snap} {ao:Option Addr} {cap:Nat} {l:List GDoc} (hS:ArrSealed σ (liE ao cap l)) (hc:l.length<=cap):SlAt σ ao l.length cap 1 (liRows l) :=
  hS.sl rfl (fun r hr=>⟨(liRows_all l r hr).1,(liRows_all l r hr).2.1⟩) (by simp [liRows]) rfl hc
set_option maxRecDepth 100000 in
set_option maxHeartbeats 1000000 in
theorem liClone_c (σ:Snap) (xs:List GDoc) (hl:xs.length<=1000000) (ao:Option Addr) (cap:Nat) (H:SlAt σ ao xs.length cap 1 (liRows xs)) :
    FnS Tryz.prog 111 [.a (.v (.slice ao xs.length cap))] σ [] (fun v _ A'=>∃ bo bc,v=.slice bo xs.length bc/\xs.length<=bc/\A'=[liE bo bc xs]):=by
  refine enter_f Tryz.func111 rfl rfl (by (repeat' (first | exact trivial | constructor))) fun w=>?_
  (repeat (first | refine cj_seq ?_ | refine cjr TT rfl ?_ | refine oj_then ?_ | (refine oj_slnil TT rfl rfl rfl rfl rfl rfl rfl rfl ?_;refine oj_run TT rfl ?_)))
  refine cj_if rfl (fun h=>?_) (fun h=>?_)
  · have h0:ao=none:=by simpa using h
    have hn0:xs.length=0:=by
      rcases H.at_ with h1 | ⟨ad,h1,_⟩
      · exact h1
      · rw [h0] at h1;cases h1
    have hr:xs=[]:=List.eq_nil_of_length_eq_zero hn0
    subst hr
    (repeat (first | refine cj_seq ?_ | refine cjr TT rfl ?_ | refine oj_then ?_ | refine cj_ret ?_ | refine nj_then_ret ?_))
    refine nj_nilarr 74 1 ?_
    refine nj_fret TT rfl fun β w' _ _=>?_
    exact ⟨none,0,rfl,Nat.le_refl _,rfl⟩
  (repeat (first | refine cj_seq ?_ | refine cjr TT rfl ?_ | refine cj_skip ?_ | refine nj_then ?_))
  refine oj_own 0 0 1 rfl (by (repeat' (first | exact trivial | refine AllLt.of ?_))) rfl (by decide) fun gb=>?_
  refine oj_append_sl TT 0 rfl rfl rfl rfl rfl rfl rfl H rfl rfl rfl rfl rfl rfl rfl rfl rfl (fun r hr=>(liRows_all xs r hr).2.2) (by omega) (by show (0+xs.length)*24<=_;omega) fun ao' cap' hcap'=>oj_run TT rfl ?_
  (repeat (first | refine oj_then ?_ | refine cj_ret ?_))
  refine nj_fret TT rfl fun β w' _ _=>?_
  refine ⟨ao',cap',by show Value.slice ao' (0+xs.length) cap'=_;rw [Nat.zero_add],by omega,?_⟩
  show [_]=[_]
  rw [Nat.zero_add]
  rfl
set_option maxRecDepth 100000 in
set_option maxHeartbeats 1000000 in
theorem liInsert_c (σ:Snap) (l:List GDoc) (hl:l.length<=1000000) (so:Option Addr) (sc:Nat) (hsc:l.length<=sc) (d:GDoc) (vo:Option Addr) (vc:Nat) (V:SlAt σ vo 1 vc 1 (liRows [d])) :
    FnS Tryz.prog 110 [.a (.v (.slice so l.length sc)),.a (.v (.int .i64 l.length)),.a (.v (.slice vo 1 vc))] σ [liE so sc l]
      (fun v _ A'=>∃ so' sc',v=.slice so' (l++[d]).length sc'/\(l++[d]).length<=sc'/\A'=[liE so' sc' (l++[d])]):=by
  refine enter_f Tryz.func110 rfl rfl (by (repeat' (first | exact trivial | constructor))) fun w=>?_
  (repeat (first | refine cj_seq ?_ | refine cjr TT rfl ?_ | refine oj_then ?_))
  refine oj_slice TT l.length l.length rfl rfl rfl rfl rfl rfl rfl rfl rfl rfl (.inr ⟨_,_,rfl,rfl⟩) (.inl ⟨rfl,rfl⟩) (Nat.le_refl _) hsc hsc (oj_run TT rfl ?_)
  (repeat (first | refine cj_seq ?_ | refine cjr TT rfl ?_ | refine oj_then ?_))
  refine cj_if rfl (fun h=>absurd h (by decide)) (fun _=>?_)
  (repeat (first | refine cj_seq ?_ | refine cjr TT rfl ?_ | refine oj_then ?_ | refine cj_skip ?_ | refine nj_then ?_))
  refine cj_if rfl (fun _=>?_) (fun h=>absurd rfl (of_decide_eq_false h))
  (repeat (first | refine cj_seq ?_ | refine cjr TT rfl ?_))
  refine oj_append_sl TT 0 rfl rfl rfl rfl rfl rfl rfl V rfl rfl rfl rfl rfl rfl rfl rfl rfl (fun r hr=>(liRows_all [d] r hr).2.2) (by omega) (by show (l.length+1)*24<=_;omega) fun ao' cap' hcap'=>oj_run TT rfl ?_
  (repeat (first | refine oj_then ?_ | refine cj_ret ?_ | refine nj_then_ret ?_))
  refine nj_fret TT rfl fun β w' _ _=>?_
  have hlen:(l++[d]).length=l.length+1:=by simp
  rw [hlen]
  refine ⟨ao',cap',rfl,hcap',?_⟩
  unfold liE
  rw [hlen,liXs_append]
  rfl
def cmpN (a b:Int):Int:=if a<b then -1 else if b<a then 1 else 0
set_option maxRecDepth 100000 in
set_option maxHeartbeats 1000000 in
theorem isNaN_c (σ:Snap) (a:Int):PlainS Tryz.prog 213 [.a (.v (.int .i64 a))] σ (fun v=>v=.bool false):=by
  refine enter_p Tryz.func213 rfl rfl (by (repeat' (first | exact trivial | constructor))) fun w=>?_
  (repeat (first | refine cj_seq ?_ | refine cjr TT rfl ?_ | refine oj_then ?_ | refine cj_ret ?_))
  refine nj_ret TT rfl fun β w' _ _=>?_
  show Value.bool (!decide (a=a))=_
  simp
set_option maxRecDepth 100000 in
set_option maxHeartbeats 1000000 in
theorem Compare_c (σ:Snap) (a b:Int):PlainS Tryz.prog 168 [.a (.v (.int .i64 a)),.a (.v (.int .i64 b))] σ (fun v=>v=.int .i64 (cmpN a b)):=by
  refine enter_p Tryz.func168 rfl rfl (by (repeat' (first | exact trivial | constructor))) fun w=>?_
  (repeat (first | refine cj_seq ?_ | refine cjr TT rfl ?_ | refine oj_then ?_))
  refine oj_callP rfl rfl rfl rfl rfl Tryz.call213 (by (repeat' (first | exact trivial | constructor))) (isNaN_c σ a) fun v hv=>⟨.a .ff,trivial,hv.symm,?_⟩
  refine oj_run TT rfl ?_
  (repeat (first | refine cj_seq ?_ | refine cjr TT rfl ?_ | refine oj_then ?_))
  refine oj_callP rfl rfl rfl rfl rfl Tryz.call213 (by (repeat' (first | exact trivial | constructor))) (isNaN_c σ b) fun v hv=>⟨.a .ff,trivial,hv.symm,?_⟩
  refine oj_run TT rfl ?_
  (repeat (first | refine cj_seq ?_ | refine cjr TT rfl ?_ | refine oj_then ?_ | refine cj_if_f rfl ?_ | refine cj_skip ?_ | refine nj_then ?_))
  refine cj_if rfl (fun h=>?_) (fun h=>?_)
  · have h:=of_decide_eq_true h
    (repeat (first | refine cj_seq ?_ | refine cjr TT rfl ?_ | refine oj_then ?_ | refine cj_ret ?_ | refine nj_then_ret ?_))
    refine nj_ret TT rfl fun β w' _ _=>?_
    show Value.int .i64 (-1)=_
    unfold cmpN
    rw [if_pos h]
  have h:=of_decide_eq_false h
  (repeat (first | refine cj_seq ?_ | refine cjr TT rfl ?_ | refine oj_then ?_ | refine cj_skip ?_ | refine nj_then ?_))
  refine cj_if rfl (fun h2=>?_) (fun h2=>?_)
  · have h2:=of_decide_eq_true h2
    (repeat (first | refine cj_seq ?_ | refine cjr TT rfl ?_ | refine oj_then ?_ | refine cj_ret ?_ | refine nj_then_ret ?_))
    refine nj_ret TT rfl fun β w' _ _=>?_
    show Value.int .i64 1=_
    unfold cmpN
    rw [if_neg h,if_pos h2]
  · have h2:=of_decide_eq_false h2
    (repeat (first | refine cj_seq ?_ | refine cjr TT rfl ?_ | refine oj_then ?_ | refine cj_skip ?_ | refine cj_ret ?_ | refine nj_then ?_))
    refine nj_ret TT rfl fun β w' _ _=>?_
    show Value.int .i64 0=_
    unfold cmpN
    rw [if_neg h,if_neg h2]
set_option maxRecDepth 100000 in
set_option maxHeartbeats 1000000 in
theorem place1_c (σ:Snap) (d:GDoc) (id:Int):PlainS Tryz.prog 167 [.agg (doCells d),.a (.v (.int .i64 id))] σ (fun v=>v=.int .i64 (cmpN d.id id)):=by
  refine enter_p Tryz.func167 rfl rfl ⟨doCells_lt 0 d,trivial,trivial⟩ fun w=>?_
  (repeat (first | refine cj_seq ?_ | refine cjr TT rfl ?_ | refine oj_then ?_))
  refine oj_callP rfl rfl rfl rfl rfl Tryz.call168 (by (repeat' (first | exact trivial | constructor))) (Compare_c σ d.id id) fun v hv=>⟨.a (.v (.int .i64 (cmpN d.id id))),trivial,hv.symm,?_⟩
  refine oj_run TT rfl ?_
  (repeat (first | refine oj_then ?_ | refine cj_ret ?_))
  refine nj_ret TT rfl fun β w' _ _=>?_
  rfl
theorem wU (k:Nat) (h:k<18446744073709551616):IntKind.u64.wrap (k:Int)=k:=by
  show ((k:Int) % 18446744073709551616)=k
  omega
theorem wI64 (k:Nat) (h:k<9223372036854775808):IntKind.i64.wrap (k:Int)=k:=by
  unfold IntKind.wrap
  show (if (true&&decide ((k:Int) % 18446744073709551616≥9223372036854775808))=true then _ else (k:Int) % 18446744073709551616)=_
  have e:(k:Int) % 18446744073709551616=k:=by omega
  rw [e,if_neg (by simp;omega)]
theorem half_eq (k:Nat):bShr .u64 (k:Int) 1=((k / 2:Nat):Int):=by
  show (k:Int).fdiv 2=_
  rw [Int.fdiv_eq_ediv_of_nonneg _ (by decide)]
  omega
structure BsS where
  i:Nat
  j:Nat
structure PlaceAt (ds:List GDoc) (id:Int) (p:Nat):Prop where
  le:p<=ds.length
  lo:∀ k d,k<p->ds[k]?=some d->d.id<id
  hi:∀ k d,p<=k->ds[k]?=some d->id<=d.id
def isAt (ds:List GDoc) (id:Int) (p:Nat):Bool:=match ds[p]? with | some d=>decide (d.id=id) | none=>false
set_option maxRecDepth 100000 in
set_option maxHeartbeats 4000000 in
theorem BinSearch_c (σ:Snap) (ds:List GDoc) (hl:ds.length<=1000000) (ho:ds.Pairwise fun x y=>x.id<y.id) (ao:Option Addr) (cap:Nat) (H:SlAt σ ao ds.length cap 2 (doRows ds)) (id:Int) :
    PlainS Tryz.prog 166 [.a (.v (.slice ao ds.length cap)),.a (.v (.int .i64 id)),.a (.fn (.func 167) [])] σ (fun v=>∃ p:Nat,v=.tuple #[.int .i64 p,.bool (isAt ds id p)]/\PlaceAt ds id p):=by
  have hmono:∀ (a b:Nat) x y,a<=b->ds[a]?=some x->ds[b]?=some y->x.id<=y.id:=by
    intro a b x y hab hx hy
    obtain ⟨ha,rfl⟩:=List.getElem?_eq_some_iff.1 hx
    obtain ⟨hb,rfl⟩:=List.getElem?_eq_some_iff.1 hy
    rcases Nat.lt_or_ge a b with h | h
    · have:=List.pairwise_iff_getElem.1 ho a b ha hb h
      omega
    · have:a=b:=by omega
      subst this
      exact Int.le_refl _
  refine enter_p Tryz.func166 rfl rfl (by (repeat' (first | exact trivial | exact SV.lt_fn0 | constructor))) fun w=>?_
  (repeat (first | refine cj_seq ?_ | refine cjr TT rfl ?_ | refine oj_then ?_ | refine cj_block ?_))
  refine cj_cutB (fun _=>σ) (fun (p:Nat)=>[(0,.a (.v (.slice ao ds.length cap))),(1,.a (.v (.int .i64 id))),(2,.a (.fn (.func 167) [])),(8,.a (.v (.int .i64 ds.length))),(9,.a (.v (.int .i64 p)))]) (fun _=>[]) (fun _=>[]) 0 (fun p=>PlaceAt ds id p) ?_ (fun p hp=>?_)
  · refine cj_loop (fun (_:BsS)=>σ) (fun t=>[(0,.a (.v (.slice ao ds.length cap))),(1,.a (.v (.int .i64 id))),(2,.a (.fn (.func 167) [])),(8,.a (.v (.int .i64 ds.length))),(9,.a (.v (.int .i64 (t.i:Nat)))),(10,.a (.v (.int .i64 (t.j:Nat))))]) (fun _=>[]) (fun _=>[]) 0
      (fun t=>t.i<=t.j/\t.j<=ds.length/\(∀ k d,k<t.i->ds[k]?=some d->d.id<id)/\(∀ k d,t.j<=k->ds[k]?=some d->id<=d.id)) (fun t=>t.j - t.i) ⟨0,ds.length⟩
      ⟨Nat.zero_le _,Nat.le_refl _,fun k d h=>by dsimp only at h;omega,fun k d h hd=>by have:=(List.getElem?_eq_some_iff.1 hd).1;dsimp only at h;omega⟩ rfl (by (repeat first | exact trivial | refine ⟨rfl,?_⟩)) (by (repeat first | exact trivial | refine ⟨rfl,?_⟩)) rfl (by (repeat' (first | exact trivial | exact SV.lt_fn0 | constructor))) (by (repeat' exact trivial)) fun ⟨i,j⟩ ⟨hij,hj,hlo,hhi⟩=>?_
    dsimp only at hij hj hlo hhi ⊢
    (repeat (first | refine cj_seq ?_ | refine cjr TT rfl ?_ | refine oj_then ?_))
    refine cj_if rfl (fun h=>?_) (fun h=>?_)
    rotate_left
    · have hij0:i=j:=by have:=of_decide_eq_false h;omega
      subst hij0
      (repeat (first | refine cj_exit ?_ | refine nj_then_exit ?_ | refine nj_block_out ?_))
      refine nj_again i ⟨by omega,hlo,hhi⟩ Nat.zero_lt_one rfl (by (repeat first | exact trivial | refine ⟨rfl,?_⟩)) (by (repeat first | exact trivial | refine ⟨rfl,?_⟩)) rfl (by (repeat' (first | exact trivial | exact SV.lt_fn0 | constructor))) (by (repeat' exact trivial))
    have hijl:i<j:=by have:=of_decide_eq_true h;omega
    have hml:(i+j) / 2<ds.length:=by omega
    have hrow:=doRows_get (List.getElem?_eq_getElem hml)
    have hdm:=List.getElem?_eq_getElem hml
    generalize ds[(i+j) / 2]=d at *
    (repeat (first | refine cj_seq ?_ | refine cjr TT rfl ?_ | refine oj_then ?_ | refine cj_skip ?_ | refine cj_block ?_ | refine nj_then ?_ | (refine oj_conv TT _ rfl rfl rfl rfl rfl rfl rfl rfl rfl ?_;refine oj_run TT rfl ?_) | (refine oj_bshr rfl rfl rfl rfl rfl rfl (by decide) ?_;refine oj_run TT rfl ?_) | (refine oj_add rfl rfl rfl rfl rfl rfl (by omega) ?_;refine oj_run TT rfl ?_)))
    have hmid:Value.int .i64 (IntKind.i64.wrap (bShr .u64 (IntKind.u64.wrap ((i:Int)+j)) 1))=Value.int .i64 (((i+j) / 2:Nat):Int):=by
      rw [show ((i:Int)+j)=((i+j:Nat):Int) by omega,wU _ (by omega),half_eq,wI64 _ (by omega)]
    refine oj_set 26 (.a (.v (.int .i64 (((i+j) / 2:Nat):Int)))) rfl trivial (fun _=>hmid) ?_
    refine oj_set 11 (.a (.v (.int .i64 (((i+j) / 2:Nat):Int)))) rfl trivial (fun _=>hmid) ?_
    refine oj_idx TT rfl rfl rfl rfl rfl rfl rfl rfl rfl H (by omega) hrow (oj_run TT rfl ?_)
    refine oj_callP rfl rfl rfl rfl rfl Tryz.call167 (by (repeat' (first | exact trivial | refine AllLt.of ?_ | constructor))) (place1_c σ d id) fun v hv=>⟨.a (.v (.int .i64 (cmpN d.id id))),trivial,hv.symm,?_⟩
    refine oj_run TT rfl ?_
    (repeat refine oj_then ?_)
    refine cj_if rfl (fun h=>?_) (fun h=>?_)
    · have h:=of_decide_eq_true h
      have hlt:d.id<id:=by
        unfold cmpN at h
        split at h
        · assumption
        · split at h<;>omega
      (repeat (first | refine cjr TT rfl ?_ | refine oj_nil ?_ | refine nj_block ?_ | (refine oj_add rfl rfl rfl rfl rfl rfl (by omega) ?_;refine oj_run TT rfl ?_)))
      refine nj_again (⟨(i+j) / 2+1,j⟩:BsS) ⟨by dsimp only;omega,hj,fun k d' hk hd'=>?_,hhi⟩ (by dsimp only;omega) rfl (by (repeat first | exact trivial | refine ⟨rfl,?_⟩)) (by (repeat first | exact trivial | refine ⟨rfl,?_⟩)) rfl (by (repeat' (first | exact trivial | exact SV.lt_fn0 | constructor))) (by (repeat' exact trivial))
      have:=hmono k ((i+j) / 2) d' d (by dsimp only at hk;omega) hd' hdm
      omega
    · have h:=of_decide_eq_false h
      have hge:id<=d.id:=by
        unfold cmpN at h
        split at h
        · omega
        · omega
      (repeat (first | refine cjr TT rfl ?_ | refine oj_nil ?_ | refine nj_block ?_))
      refine nj_again (⟨i,(i+j) / 2⟩:BsS) ⟨by dsimp only;omega,by dsimp only;omega,hlo,fun k d' hk hd'=>?_⟩ (by dsimp only;omega) rfl (by (repeat first | exact trivial | refine ⟨rfl,?_⟩)) (by (repeat first | exact trivial | refine ⟨rfl,?_⟩)) rfl (by (repeat' (first | exact trivial | exact SV.lt_fn0 | constructor))) (by (repeat' exact trivial))
      have:=hmono ((i+j) / 2) k d d' hk hdm hd'
      omega
  (repeat (first | refine cj_seq ?_ | refine cjr TT rfl ?_))
  refine oj_split 39 rfl (fun h=>?_) (fun h=>?_)
  · have h:decide ((p:Int)<ds.length)=true:=h
    have hpl:p<ds.length:=by have:=of_decide_eq_true h;omega
    have hrow:=doRows_get (List.getElem?_eq_getElem hpl)
    have hdp:=List.getElem?_eq_getElem hpl
    generalize ds[p]=d at *
    refine oj_run TT rfl ?_
    refine oj_idx TT rfl rfl rfl rfl rfl rfl rfl rfl rfl H (by omega) hrow (oj_run TT rfl ?_)
    refine oj_callP rfl rfl rfl rfl rfl Tryz.call167 (by (repeat' (first | exact trivial | refine AllLt.of ?_ | constructor))) (place1_c σ d id) fun v hv=>⟨.a (.v (.int .i64 (cmpN d.id id))),trivial,hv.symm,?_⟩
    refine oj_run TT rfl ?_
    (repeat (first | refine oj_then ?_ | refine cj_ret ?_))
    refine nj_ret TT rfl fun β w' _ _=>?_
    refine ⟨p,?_,hp⟩
    have hb:decide (cmpN d.id id=0)=isAt ds id p:=by
      unfold isAt
      rw [hdp]
      show _=decide (d.id=id)
      rw [Bool.eq_iff_iff,decide_eq_true_eq,decide_eq_true_eq]
      unfold cmpN
      split
      · omega
      · split<;>omega
    show Value.tuple #[.int .i64 p,.bool (decide (cmpN d.id id=0))]=_
    rw [hb]
  · have h:decide ((p:Int)<ds.length)=false:=h
    have hpl:ds.length<=p:=by have:=of_decide_eq_false h;omega
    refine oj_run TT rfl ?_
    (repeat (first | refine oj_then ?_ | refine cj_ret ?_))
    refine nj_ret TT rfl fun β w' _ _=>?_
    refine ⟨p,?_,hp⟩
    unfold isAt
    rw [List.getElem?_eq_none hpl]
    rfl
end Go.Sy
