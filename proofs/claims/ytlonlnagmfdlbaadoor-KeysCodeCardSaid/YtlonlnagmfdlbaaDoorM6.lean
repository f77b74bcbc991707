/- Parts of the proof of CKeysCode: K5, K6, K7, K8, K9, SyEx, K11. No conditions. -/
import Derived.Test.YtlonlnagmfdlbaaDoorM5
import Derived.Laws.Externs
import Derived.Lib.BytesEntry
namespace Go.Sy
open Go.Proofs
def paE (t:Nat) (ao:Option Addr) (cap:Nat) (l:List GPart):AE:=⟨ao,l.length,cap,t,7,paXs l⟩
theorem pa_sealed {t:Nat} {σ:Snap} {ao:Option Addr} {cap:Nat} {l:List GPart} (hS:ArrSealed σ (paE t ao cap l)) (hc:l.length<=cap):SlAt σ ao l.length cap 7 (paRows l) :=
  hS.sl (E:=paE t ao cap l) rfl (fun r hr=>⟨(paRows_all l r hr).1,(paRows_all l r hr).2.1⟩) (by simp [paRows]) rfl hc
structure PaS where
  k:Nat
  oo:Option Addr
  oc:Nat
set_option maxRecDepth 100000 in
set_option maxHeartbeats 1000000 in
theorem ours_c (σ:Snap) (xs:List GPart) (hl:xs.length<=1000000) (ao:Option Addr) (cap:Nat) (H:SlAt σ ao xs.length cap 7 (paRows xs)) :
    PureS Tryd.prog 13 [.a (.v (.slice ao xs.length cap))] σ (fun v σ'=>∃ bo bc,v=.slice bo xs.length bc/\SlAt σ' bo xs.length bc 7 (paRows xs)):=by
  refine enter_s Tryd.func13 rfl rfl (by (repeat' (first | exact trivial | constructor))) fun w=>?_
  (repeat (first | refine cj_seq ?_ | refine cjr TT rfl ?_ | refine oj_then ?_ | refine cj_block ?_))
  refine cj_nilarr 49 7 ?_
  refine cj_loop (fun (_:PaS)=>σ) (fun t=>[(0,.a (.v (.slice ao xs.length cap))),(3,.a (.v (.slice t.oo (xs.take t.k).length t.oc))),(4,.a (.v (.int .i64 (t.k:Nat))))]) (fun _=>[]) (fun t=>[paE 49 t.oo t.oc (xs.take t.k)]) 0
    (fun t=>t.k<=xs.length/\t.k<=t.oc) (fun t=>xs.length - t.k) ⟨0,none,0⟩ ⟨Nat.zero_le _,Nat.le_refl _⟩ rfl (by (repeat first | exact trivial | refine ⟨rfl,?_⟩)) (by (repeat first | exact trivial | refine ⟨rfl,?_⟩)) rfl (by (repeat' (first | exact trivial | constructor))) (by (repeat' exact trivial)) fun ⟨k,bo,bc⟩ ⟨hk,hbc⟩=>?_
  dsimp only at hk hbc ⊢
  (repeat (first | refine cj_seq ?_ | refine cjr TT rfl ?_ | refine oj_then ?_))
  refine cj_if rfl (fun h=>?_) (fun h=>?_)
  rotate_left
  · have hk0:k=xs.length:=by have:=of_decide_eq_false h;omega
    subst hk0
    rw [List.take_length]
    (repeat (first | refine cj_seq ?_ | refine cjr TT rfl ?_ | refine oj_then ?_ | refine cj_exit ?_ | refine cj_ret ?_ | refine nj_then ?_ | refine nj_then_exit ?_ | refine nj_block_out ?_))
    refine nj_seal 0 rfl rfl fun s2 hle2 hS=>?_
    refine nj_ret TT rfl fun β w' _ _=>?_
    exact ⟨bo,bc,rfl,pa_sealed hS hbc⟩
  have hkl:k<xs.length:=by have:=of_decide_eq_true h;omega
  have hra:=paRows_get (List.getElem?_eq_getElem hkl)
  have htk:xs.take (k+1)=xs.take k++[xs[k]]:=List.take_succ_eq_append_getElem hkl
  have hlk:(xs.take k).length=k:=by rw [List.length_take];omega
  generalize xs[k]=x at *
  have hlk1:(xs.take (k+1)).length=k+1:=by rw [List.length_take];omega
  have hE0:paE 49 bo bc (xs.take k)=⟨bo,k,bc,49,7,paXs (xs.take k)⟩:=by unfold paE;rw [hlk]
  rw [hlk,hE0]
  (repeat (first | refine cj_seq ?_ | refine cj_skip ?_ | refine cj_block ?_ | refine nj_then ?_))
  refine cj_draw [(0,.pure),(1,.pure),(2,.pure),(3,.pure),(4,.pure),(5,.quiet),(6,.pure),(7,.pure),(8,.pure),(9,.pure),(10,.quiet),(11,.pure),(12,.pure),(13,.pure),(14,.pure),(15,.quiet),(16,.pure),(17,.pure),(18,.pure),(19,.pure),(20,.quiet),(21,.pure),(22,.pure),(23,.pure),(24,.pure),(25,.quiet),(26,.pure),(27,.keep),(28,.sink),(29,.pure)] mixed (by kernel_rfl) (oj_run TT rfl ?_)
  refine oj_idx TT rfl rfl rfl rfl rfl rfl rfl rfl rfl H (by omega) hra (oj_run TT rfl ?_)
  refine oj_idx TT rfl rfl rfl rfl rfl rfl rfl rfl rfl H (by omega) hra (oj_run TT rfl ?_)
  refine oj_idx TT rfl rfl rfl rfl rfl rfl rfl rfl rfl H (by omega) hra (oj_run TT rfl ?_)
  refine oj_idx TT rfl rfl rfl rfl rfl rfl rfl rfl rfl H (by omega) hra (oj_run TT rfl ?_)
  refine oj_idx TT rfl rfl rfl rfl rfl rfl rfl rfl rfl H (by omega) hra (oj_run TT rfl ?_)
  refine oj_append_lit TT 0 rfl rfl rfl rfl rfl rfl rfl rfl rfl rfl rfl rfl rfl rfl rfl rfl rfl rfl (by (repeat' (first | exact trivial | refine AllLt.of ?_ | constructor))) rfl (by omega) (by show (k+1)*72<=_;omega) fun ao' cap' hcap'=>oj_run TT rfl ?_
  (repeat (first | refine cjr TT rfl ?_ | refine oj_nil ?_ | refine nj_then ?_ | refine nj_block ?_ | (refine oj_add rfl rfl rfl rfl rfl rfl (by omega) ?_;refine oj_run TT rfl ?_)))
  refine nj_again (⟨k+1,ao',cap'⟩:PaS) ⟨hkl,hcap'⟩ (by dsimp only;omega) rfl ?_ (by (repeat first | exact trivial | refine ⟨rfl,?_⟩)) ?_ (by (repeat' (first | exact trivial | constructor))) (by (repeat' exact trivial))
  · dsimp only
    rw [hlk1]
    (repeat first | exact trivial | refine ⟨rfl,?_⟩)
  · show [_]=[_]
    dsimp only
    unfold paE
    rw [hlk1,htk,paXs_append]
    rfl
set_option maxRecDepth 100000 in
set_option maxHeartbeats 1000000 in
theorem theirs_c (σ:Snap) (xs:List GPart) (hl:xs.length<=1000000) (ao:Option Addr) (cap:Nat) (H:SlAt σ ao xs.length cap 7 (paRows xs)) :
    PureS Tryd.prog 16 [.a (.v (.slice ao xs.length cap))] σ (fun v σ'=>∃ bo bc,v=.slice bo xs.length bc/\SlAt σ' bo xs.length bc 7 (paRows xs)):=by
  refine enter_s Tryd.func16 rfl rfl (by (repeat' (first | exact trivial | constructor))) fun w=>?_
  (repeat (first | refine cj_seq ?_ | refine cjr TT rfl ?_ | refine oj_then ?_ | refine cj_block ?_))
  refine cj_nilarr 52 7 ?_
  refine cj_loop (fun (_:PaS)=>σ) (fun t=>[(0,.a (.v (.slice ao xs.length cap))),(3,.a (.v (.slice t.oo (xs.take t.k).length t.oc))),(4,.a (.v (.int .i64 (t.k:Nat))))]) (fun _=>[]) (fun t=>[paE 52 t.oo t.oc (xs.take t.k)]) 0
    (fun t=>t.k<=xs.length/\t.k<=t.oc) (fun t=>xs.length - t.k) ⟨0,none,0⟩ ⟨Nat.zero_le _,Nat.le_refl _⟩ rfl (by (repeat first | exact trivial | refine ⟨rfl,?_⟩)) (by (repeat first | exact trivial | refine ⟨rfl,?_⟩)) rfl (by (repeat' (first | exact trivial | constructor))) (by (repeat' exact trivial)) fun ⟨k,bo,bc⟩ ⟨hk,hbc⟩=>?_
  dsimp only at hk hbc ⊢
  (repeat (first | refine cj_seq ?_ | refine cjr TT rfl ?_ | refine oj_then ?_))
  refine cj_if rfl (fun h=>?_) (fun h=>?_)
  rotate_left
  · have hk0:k=xs.length:=by have:=of_decide_eq_false h;omega
    subst hk0
    rw [List.take_length]
    (repeat (first | refine cj_seq ?_ | refine cjr TT rfl ?_ | refine oj_then ?_ | refine cj_exit ?_ | refine cj_ret ?_ | refine nj_then ?_ | refine nj_then_exit ?_ | refine nj_block_out ?_))
    refine nj_seal 0 rfl rfl fun s2 hle2 hS=>?_
    refine nj_ret TT rfl fun β w' _ _=>?_
    exact ⟨bo,bc,rfl,pa_sealed hS hbc⟩
  have hkl:k<xs.length:=by have:=of_decide_eq_true h;omega
  have hra:=paRows_get (List.getElem?_eq_getElem hkl)
  have htk:xs.take (k+1)=xs.take k++[xs[k]]:=List.take_succ_eq_append_getElem hkl
  have hlk:(xs.take k).length=k:=by rw [List.length_take];omega
  generalize xs[k]=x at *
  have hlk1:(xs.take (k+1)).length=k+1:=by rw [List.length_take];omega
  have hE0:paE 52 bo bc (xs.take k)=⟨bo,k,bc,52,7,paXs (xs.take k)⟩:=by unfold paE;rw [hlk]
  rw [hlk,hE0]
  (repeat (first | refine cj_seq ?_ | refine cj_skip ?_ | refine cj_block ?_ | refine nj_then ?_))
  refine cj_draw [(0,.pure),(1,.pure),(2,.pure),(3,.pure),(4,.pure),(5,.quiet),(6,.pure),(7,.pure),(8,.pure),(9,.pure),(10,.quiet),(11,.pure),(12,.pure),(13,.pure),(14,.pure),(15,.quiet),(16,.pure),(17,.pure),(18,.pure),(19,.pure),(20,.quiet),(21,.pure),(22,.pure),(23,.pure),(24,.pure),(25,.quiet),(26,.pure),(27,.keep),(28,.sink),(29,.pure)] mixed (by kernel_rfl) (oj_run TT rfl ?_)
  refine oj_idx TT rfl rfl rfl rfl rfl rfl rfl rfl rfl H (by omega) hra (oj_run TT rfl ?_)
  refine oj_idx TT rfl rfl rfl rfl rfl rfl rfl rfl rfl H (by omega) hra (oj_run TT rfl ?_)
  refine oj_idx TT rfl rfl rfl rfl rfl rfl rfl rfl rfl H (by omega) hra (oj_run TT rfl ?_)
  refine oj_idx TT rfl rfl rfl rfl rfl rfl rfl rfl rfl H (by omega) hra (oj_run TT rfl ?_)
  refine oj_idx TT rfl rfl rfl rfl rfl rfl rfl rfl rfl H (by omega) hra (oj_run TT rfl ?_)
  refine oj_append_lit TT 0 rfl rfl rfl rfl rfl rfl rfl rfl rfl rfl rfl rfl rfl rfl rfl rfl rfl rfl (by (repeat' (first | exact trivial | refine AllLt.of ?_ | constructor))) rfl (by omega) (by show (k+1)*72<=_;omega) fun ao' cap' hcap'=>oj_run TT rfl ?_
  (repeat (first | refine cjr TT rfl ?_ | refine oj_nil ?_ | refine nj_then ?_ | refine nj_block ?_ | (refine oj_add rfl rfl rfl rfl rfl rfl (by omega) ?_;refine oj_run TT rfl ?_)))
  refine nj_again (⟨k+1,ao',cap'⟩:PaS) ⟨hkl,hcap'⟩ (by dsimp only;omega) rfl ?_ (by (repeat first | exact trivial | refine ⟨rfl,?_⟩)) ?_ (by (repeat' (first | exact trivial | constructor))) (by (repeat' exact trivial))
  · dsimp only
    rw [hlk1]
    (repeat first | exact trivial | refine ⟨rfl,?_⟩)
  · show [_]=[_]
    dsimp only
    unfold paE
    rw [hlk1,htk,paXs_append]
    rfl
def fewG (l:List GPart):Bool:=decide (l.length<=40)&&l.all fun p=>decide (p.s.size<=300)&&decide (p.n.dg.size<=200)
theorem few_iff {l:List GPart}:fewG l=true↔l.length<=40/\∀ p∈l,p.s.size<=300/\p.n.dg.size<=200:=by simp [fewG]
set_option maxRecDepth 100000 in
set_option maxHeartbeats 1000000 in
theorem Few_c (σ:Snap) (l:List GPart) (hl:l.length<=140737488355328) (ao:Option Addr) (cap:Nat) (H:SlAt σ ao l.length cap 7 (paRows l)) :
    PlainS Tryd.prog 11 [.a (.v (.slice ao l.length cap))] σ (fun v=>v=.bool (fewG l)):=by
  refine enter_p Tryd.func11 rfl rfl (by (repeat' (first | exact trivial | constructor))) fun w=>?_
  (repeat (first | refine cj_seq ?_ | refine cjr TT rfl ?_ | refine oj_then ?_))
  refine cj_if rfl (fun h=>?_) (fun h=>?_)
  · have h:=of_decide_eq_true h
    (repeat (first | refine cj_seq ?_ | refine cjr TT rfl ?_ | refine oj_then ?_ | refine cj_ret ?_ | refine nj_then_ret ?_))
    refine nj_ret TT rfl fun β w' _ _=>?_
    show Value.bool false=.bool (decide (l.length<=40)&&_)
    rw [decide_eq_false (by omega),Bool.false_and]
  have h40:l.length<=40:=by have:=of_decide_eq_false h;omega
  (repeat (first | refine cj_seq ?_ | refine cjr TT rfl ?_ | refine oj_then ?_ | refine cj_skip ?_ | refine cj_block ?_ | refine nj_then ?_))
  refine cj_loop (fun (_:Nat)=>σ) (fun k=>[(0,.a (.v (.slice ao l.length cap))),(3,.a (.v (.int .i64 k)))]) (fun _=>[]) (fun _=>[]) 0 (fun k=>k<=l.length/\∀ p∈l.take k,p.s.size<=300/\p.n.dg.size<=200) (fun k=>l.length - k) 0 ⟨Nat.zero_le _,fun p h=>(by cases h)⟩ rfl (by (repeat first | exact trivial | refine ⟨rfl,?_⟩)) (by (repeat first | exact trivial | refine ⟨rfl,?_⟩)) rfl (by (repeat' (first | exact trivial | constructor))) (by (repeat' exact trivial)) fun k ⟨hk,hw⟩=>?_
  (repeat (first | refine cj_seq ?_ | refine cjr TT rfl ?_ | refine oj_then ?_))
  refine cj_if rfl (fun h=>?_) (fun h=>?_)
  rotate_left
  · have hk0:k=l.length:=by have:=of_decide_eq_false h;omega
    rw [hk0,List.take_length] at hw
    (repeat (first | refine cj_seq ?_ | refine cjr TT rfl ?_ | refine oj_then ?_ | refine cj_exit ?_ | refine cj_ret ?_ | refine nj_then ?_ | refine nj_then_exit ?_ | refine nj_block_out ?_))
    refine nj_ret TT rfl fun β w' _ _=>?_
    rw [few_iff.2 ⟨h40,hw⟩]
    rfl
  have hkl:k<l.length:=by have:=of_decide_eq_true h;omega
  have hrow:=paRows_get (List.getElem?_eq_getElem hkl)
  have hmem:=List.getElem_mem hkl
  have htk:l.take (k+1)=l.take k++[l[k]]:=List.take_succ_eq_append_getElem hkl
  generalize l[k]=p at *
  have hbad:¬(p.s.size<=300/\p.n.dg.size<=200)->fewG l=false:=fun hn=>by
    rw [Bool.eq_false_iff]
    intro h
    exact hn ((few_iff.1 h).2 p hmem)
  (repeat (first | refine cj_seq ?_ | refine cjr TT rfl ?_ | refine cj_skip ?_ | refine cj_block ?_ | refine nj_then ?_))
  refine oj_idx TT rfl rfl rfl rfl rfl rfl rfl rfl rfl H (by omega) hrow (oj_run TT rfl ?_)
  refine oj_split 20 rfl (fun h1=>?_) (fun h1=>?_)
  · have h1:=of_decide_eq_true (show decide ((300:Int)<p.s.size)=true from h1)
    refine oj_run TT rfl ?_
    (repeat (first | refine cj_seq ?_ | refine cjr TT rfl ?_ | refine oj_then ?_ | refine cj_if_t rfl ?_ | refine cj_ret ?_ | refine nj_then_ret ?_ | refine nj_block_ret ?_))
    refine nj_ret TT rfl fun β w' _ _=>?_
    rw [hbad (by omega)]
    rfl
  have h1:=of_decide_eq_false (show decide ((300:Int)<p.s.size)=false from h1)
  refine oj_run TT rfl ?_
  refine oj_idx TT rfl rfl rfl rfl rfl rfl rfl rfl rfl H (by omega) hrow (oj_run TT rfl ?_)
  (repeat refine oj_then ?_)
  refine cj_if rfl (fun h2=>?_) (fun h2=>?_)
  · have h2:=of_decide_eq_true (show decide ((200:Int)<p.n.dg.size)=true from h2)
    (repeat (first | refine cj_seq ?_ | refine cjr TT rfl ?_ | refine oj_then ?_ | refine cj_ret ?_ | refine nj_then_ret ?_ | refine nj_block_ret ?_))
    refine nj_ret TT rfl fun β w' _ _=>?_
    rw [hbad (by omega)]
    rfl
  have h2:=of_decide_eq_false (show decide ((200:Int)<p.n.dg.size)=false from h2)
  (repeat (first | refine cjr TT rfl ?_ | refine oj_nil ?_ | refine cj_skip ?_ | refine nj_then ?_ | refine nj_block ?_ | (refine oj_add rfl rfl rfl rfl rfl rfl (by omega) ?_;refine oj_run TT rfl ?_)))
  refine nj_again (k+1) ⟨hkl,fun x hx=>?_⟩ (by omega) rfl (by (repeat first | exact trivial | refine ⟨rfl,?_⟩)) (by (repeat first | exact trivial | refine ⟨rfl,?_⟩)) rfl (by (repeat' (first | exact trivial | constructor))) (by (repeat' exact trivial))
  rw [htk] at hx
  rcases List.mem_append.1 hx with hx | hx
  · exact hw x hx
  · rw [List.mem_singleton] at hx
    subst hx
    omega
theorem partT52:PartT 52:=⟨by kernel_rfl,by kernel_rfl,by kernel_rfl,by kernel_rfl⟩
set_option maxRecDepth 100000 in
set_option maxHeartbeats 1000000 in
theorem Same_c (σ:Snap) (a b:List GPart) (hl:a.length<=140737488355328) (ao:Option Addr) (ac:Nat) (HA:SlAt σ ao a.length ac 7 (paRows a)) (bo:Option Addr) (bc:Nat) (HB:SlAt σ bo b.length bc 7 (paRows b)) :
    PlainS Tryd.prog 14 [.a (.v (.slice ao a.length ac)),.a (.v (.slice bo b.length bc))] σ (fun v=>v=.bool (decide (a=b))):=by
  refine enter_p Tryd.func14 rfl rfl (by (repeat' (first | exact trivial | constructor))) fun w=>?_
  (repeat (first | refine cj_seq ?_ | refine cjr TT rfl ?_ | refine oj_then ?_))
  refine cj_if rfl (fun h=>?_) (fun h=>?_)
  · have h:(!decide ((a.length:Int)=b.length))=true:=h
    have hne:a≠b:=fun e=>by rw [e] at h;simp at h
    (repeat (first | refine cj_seq ?_ | refine cjr TT rfl ?_ | refine oj_then ?_ | refine cj_ret ?_ | refine nj_then_ret ?_))
    refine nj_ret TT rfl fun β w' _ _=>?_
    rw [decide_eq_false hne]
    rfl
  have hlen:a.length=b.length:=by
    have h:(!decide ((a.length:Int)=b.length))=false:=h
    simp at h
    omega
  (repeat (first | refine cj_seq ?_ | refine cjr TT rfl ?_ | refine oj_then ?_ | refine cj_skip ?_ | refine cj_block ?_ | refine nj_then ?_))
  refine cj_loop (fun (_:Nat)=>σ) (fun k=>[(0,.a (.v (.slice ao a.length ac))),(1,.a (.v (.slice bo b.length bc))),(5,.a (.v (.int .i64 k)))]) (fun _=>[]) (fun _=>[]) 0 (fun k=>k<=a.length/\a.take k=b.take k) (fun k=>a.length - k) 0 ⟨Nat.zero_le _,rfl⟩ rfl (by (repeat first | exact trivial | refine ⟨rfl,?_⟩)) (by (repeat first | exact trivial | refine ⟨rfl,?_⟩)) rfl (by (repeat' (first | exact trivial | constructor))) (by (repeat' exact trivial)) fun k ⟨hk,hw⟩=>?_
  (repeat (first | refine cj_seq ?_ | refine cjr TT rfl ?_ | refine oj_then ?_))
  refine cj_if rfl (fun h=>?_) (fun h=>?_)
  rotate_left
  · have hk0:k=a.length:=by have:=of_decide_eq_false h;omega
    rw [hk0,List.take_length,hlen,List.take_length] at hw
    (repeat (first | refine cj_seq ?_ | refine cjr TT rfl ?_ | refine oj_then ?_ | refine cj_exit ?_ | refine cj_ret ?_ | refine nj_then ?_ | refine nj_then_exit ?_ | refine nj_block_out ?_))
    refine nj_ret TT rfl fun β w' _ _=>?_
    rw [decide_eq_true hw]
    rfl
  have hkl:k<a.length:=by have:=of_decide_eq_true h;omega
  have hkb:k<b.length:=by omega
  have hra:=paRows_get (List.getElem?_eq_getElem hkl)
  have hrb:=paRows_get (List.getElem?_eq_getElem hkb)
  have hta:a.take (k+1)=a.take k++[a[k]]:=List.take_succ_eq_append_getElem hkl
  have htb:b.take (k+1)=b.take k++[b[k]]:=List.take_succ_eq_append_getElem hkb
  have hab:a=b->a[k]=b[k]:=fun e=>by subst e;rfl
  generalize a[k]=x at *
  generalize b[k]=y at *
  (repeat (first | refine cj_seq ?_ | refine cj_skip ?_ | refine cj_block ?_ | refine nj_then ?_))
  refine cj_draw [(0,.pure),(1,.pure),(2,.pure),(3,.quiet),(4,.pure),(5,.pure),(6,.pure),(7,.quiet),(8,.pure)] mixed (by kernel_rfl) (oj_run TT rfl ?_)
  refine oj_idx TT rfl rfl rfl rfl rfl rfl rfl rfl rfl HA (by omega) hra (oj_run TT rfl ?_)
  refine oj_idx TT rfl rfl rfl rfl rfl rfl rfl rfl rfl HB (by omega) hrb (oj_run TT rfl ?_)
  refine oj_nePart partT52 x y rfl rfl rfl rfl rfl rfl rfl (fun _=>rfl) (fun _=>rfl) (oj_run TT rfl ?_)
  (repeat refine oj_then ?_)
  refine cj_if rfl (fun h=>?_) (fun h=>?_)
  · have h:(!decide (x=y))=true:=h
    have hne:a≠b:=fun e=>by rw [hab e] at h;simp at h
    (repeat (first | refine cj_seq ?_ | refine cjr TT rfl ?_ | refine oj_then ?_ | refine cj_ret ?_ | refine nj_then_ret ?_ | refine nj_block_ret ?_))
    refine nj_ret TT rfl fun β w' _ _=>?_
    rw [decide_eq_false hne]
    rfl
  have hxy:x=y:=by
    have h:(!decide (x=y))=false:=h
    simpa using h
  (repeat (first | refine cjr TT rfl ?_ | refine oj_nil ?_ | refine cj_skip ?_ | refine nj_then ?_ | refine nj_block ?_ | (refine oj_add rfl rfl rfl rfl rfl rfl (by omega) ?_;refine oj_run TT rfl ?_)))
  refine nj_again (k+1) ⟨hkl,by rw [hta,htb,hw,hxy]⟩ (by omega) rfl (by (repeat first | exact trivial | refine ⟨rfl,?_⟩)) (by (repeat first | exact trivial | refine ⟨rfl,?_⟩)) rfl (by (repeat' (first | exact trivial | constructor))) (by (repeat' exact trivial))
end Go.Sy
namespace Go.Sy
open Go.Proofs
theorem put_len {p:GPart} (h:Rt p):(putG p).length<=2*p.s.size+60:=by
  cases h with
  | null=>show 1<=_;omega
  | bool b=>show 1<=_;omega
  | num n h =>
    unfold putG
    dsimp only
    rw [if_neg (by decide),if_neg (by decide),if_pos rfl]
    by_cases h0:n.dg.size=0
    · rw [if_pos h0];show 1<=_;omega
    have:=size_le h h0
    rw [if_neg h0]
    split<;>rw [List.length_cons]
    · rw [turnG_len];omega
    · omega
  | str s =>
    have:=esc_len s.data.toList
    have hs:s.data.toList.length=s.size:=Array.length_toList
    show (64::(escG s.data.toList++[0,0])).length<=_
    rw [List.length_cons,List.length_append]
    show (escG s.data.toList).length+2+1<=2*s.size+60
    omega
  | whole i h1 h2=>show 5<=_;omega
def enK (l:List GPart) (k:Nat):List UInt8:=(l.take k).flatMap putG
theorem enK_succ {l:List GPart} {k:Nat} {p:GPart} (h:l[k]?=some p):enK l (k+1)=enK l k++putG p:=by
  obtain ⟨hk,he⟩:=List.getElem?_eq_some_iff.1 h
  unfold enK
  rw [List.take_succ_eq_append_getElem hk,he,List.flatMap_append]
  simp
theorem putF_len {l:List GPart} (h:∀ p∈l,Rt p/\p.s.size<=1000000):(l.flatMap putG).length<=l.length*2000060:=by
  induction l with
  | nil=>exact Nat.le_refl _
  | cons p l ih =>
    have h1:=ih fun q hq=>h q (List.mem_cons_of_mem p hq)
    obtain ⟨h2,h3⟩:=h p List.mem_cons_self
    have h4:=put_len h2
    rw [List.flatMap_cons,List.length_append,List.length_cons,Nat.succ_mul]
    omega
structure EnS where
  k:Nat
  oo:Option Addr
  oc:Nat
set_option maxRecDepth 100000 in
set_option maxHeartbeats 4000000 in
theorem Encode_c (σ:Snap) (m:Int) (hm:σ.cell ⟨0,0,none⟩=some (.int .i64 m)) (l:List GPart) (hl:l.length<=140737488355328) (hb:∀ p∈l,p.n.dg.size<=mostLen/\p.s.size<=1000000) (lo:Option Addr) (lc:Nat) (H:SlAt σ lo l.length lc 7 (paRows l)) :
    PureS Tryd.prog 12 [.a (.v (.slice lo l.length lc))] σ (fun v σ'=>∃ bo bc,v=.tuple #[.slice bo (encG l).1.length bc,.int .i64 (encG l).2]/\SlAt σ' bo (encG l).1.length bc 1 (u8Rows (encG l).1)):=by
  refine enter_s Tryd.func12 rfl rfl (by (repeat' (first | exact trivial | constructor))) fun w=>?_
  (repeat (first | refine cj_seq ?_ | refine cjr TT rfl ?_ | refine oj_then ?_))
  refine cj_if rfl (fun h=>?_) (fun h=>?_)
  · have h:=of_decide_eq_true (show decide ((16:Int)<l.length)=true from h)
    have e:encG l=([],4):=by unfold encG;rw [if_pos (by omega)]
    rw [e]
    (repeat (first | refine cj_seq ?_ | refine cjr TT rfl ?_ | refine oj_then ?_ | refine cj_ret ?_ | refine nj_then_ret ?_))
    refine nj_ret TT rfl fun β w' _ _=>?_
    exact ⟨none,0,rfl,SlAt.nil _ none 0 1⟩
  have h16:l.length<=16:=by have:=of_decide_eq_false (show decide ((16:Int)<l.length)=false from h);omega
  (repeat (first | refine cj_seq ?_ | refine cjr TT rfl ?_ | refine oj_then ?_ | refine cj_skip ?_ | refine cj_block ?_ | refine nj_then ?_))
  refine cj_nilarr 5 1 ?_
  refine cj_loop2 (fun (s:Snap) (_:EnS)=>s) (fun _ t=>[(4,.a (.v (.slice t.oo (enK l t.k).length t.oc))),(10,.a (.v (.slice lo l.length lc))),(11,.a (.v (.int .i64 l.length))),(12,.a (.v (.int .i64 (t.k:Nat))))]) (fun _ _=>[]) (fun _ t=>[u8E t.oo t.oc (enK l t.k)]) 0
    (fun s t=>σ.le s/\t.k<=l.length/\(enK l t.k).length<=t.oc/\∀ p∈l.take t.k,Rt p) (fun _ t=>l.length - t.k) σ ⟨0,none,0⟩ ⟨Snap.le_refl _,Nat.zero_le _,Nat.le_refl _,fun _ h=>(by cases h)⟩ rfl (by (repeat first | exact trivial | refine ⟨rfl,?_⟩)) (by (repeat first | exact trivial | refine ⟨rfl,?_⟩)) rfl (by (repeat' (first | exact trivial | constructor))) (by (repeat' exact trivial)) fun s ⟨k,oo,oc⟩ ⟨hle,hk,hoc,hr⟩=>?_
  dsimp only at hk hoc hr ⊢
  have H:=H.mono hle
  have hm:=hle.cell hm
  (repeat (first | refine cj_seq ?_ | refine cjr TT rfl ?_ | refine oj_then ?_))
  refine cj_if rfl (fun h=>?_) (fun h=>?_)
  rotate_left
  · have hk0:k=l.length:=by have:=of_decide_eq_false h;omega
    rw [hk0,List.take_length] at hr
    have e:encG l=(enK l k,0):=by
      unfold encG enK
      rw [if_neg (by omega),if_pos (all_rt.2 hr),hk0,List.take_length]
    rw [e]
    (repeat (first | refine cj_seq ?_ | refine cjr TT rfl ?_ | refine oj_then ?_ | refine cj_exit ?_ | refine cj_ret ?_ | refine nj_then ?_ | refine nj_then_exit ?_ | refine nj_block_out ?_))
    refine nj_seal 0 rfl rfl fun s1 hle1 hS=>?_
    refine nj_ret TT rfl fun β w' _ _=>?_
    exact ⟨oo,oc,rfl,u8_sealed hS hoc⟩
  have hkl:k<l.length:=by have:=of_decide_eq_true h;omega
  have hx:=List.getElem?_eq_getElem hkl
  have hmem:=List.getElem_mem hkl
  have hrow:=paRows_get hx
  have hs1:=enK_succ hx
  have htk:l.take (k+1)=l.take k++[l[k]]:=List.take_succ_eq_append_getElem hkl
  have hbk:(enK l k).length<=16*2000060:=by
    have h1:=putF_len (l:=l.take k) fun p hp=>⟨hr p hp,(hb p (List.mem_of_mem_take hp)).2⟩
    have h2:(l.take k).length<=16:=by rw [List.length_take];omega
    exact Nat.le_trans h1 (Nat.mul_le_mul_right _ h2)
  obtain ⟨hb1,hb2⟩:=hb l[k] hmem
  generalize l[k]=p at *
  (repeat (first | refine cj_seq ?_ | refine cjr TT rfl ?_ | refine cj_skip ?_ | refine cj_block ?_ | refine nj_then ?_))
  refine oj_idx TT rfl rfl rfl rfl rfl rfl rfl rfl rfl H (by omega) hrow (oj_run TT rfl ?_)
  (repeat (first | refine cj_seq ?_ | refine cjr TT rfl ?_ | refine oj_then ?_))
  refine oj_callP rfl rfl rfl rfl rfl Tryd.call25 (by (repeat' (first | exact trivial | refine AllLt.of ?_ | constructor))) (right_c s p hb1) fun v hv=>⟨.a (.b (rightG p)),trivial,hv.symm,?_⟩
  refine oj_run TT rfl ?_
  (repeat refine oj_then ?_)
  refine cj_if rfl (fun hq=>?_) (fun hq=>?_)
  · have hq:rightG p=false:=by simpa using hq
    have e:encG l=([],1):=by
      unfold encG
      rw [if_neg (by omega),if_neg]
      intro ha
      have:=List.all_eq_true.1 ha p hmem
      rw [hq] at this
      cases this
    rw [e]
    (repeat (first | refine cj_seq ?_ | refine cjr TT rfl ?_ | refine oj_then ?_ | refine cj_ret ?_ | refine nj_then_ret ?_ | refine nj_block_ret ?_))
    refine nj_ret TT rfl fun β w' _ _=>?_
    exact ⟨none,0,rfl,SlAt.nil _ none 0 1⟩
  have hq:rightG p=true:=by simpa using hq
  have hrt:=(right_iff p).1 hq
  (repeat (first | refine cjr TT rfl ?_ | refine cj_skip ?_ | refine nj_then ?_))
  refine oj_callF [0] (A0:=[u8E oo oc (enK l k)]) (Ar:=[]) rfl rfl rfl rfl rfl rfl rfl Tryd.call26 ⟨trivial,paCells_lt 0 p,trivial⟩ (put_c s m hm p hrt hb2 (enK l k) (by omega) oo oc hoc) fun v s1 A' hle1 ⟨o1,c1,hv,hc1,hA⟩=>⟨.a (.v (.slice o1 (enK l k++putG p).length c1)),trivial,hv.symm,?_⟩
  subst hA
  rw [<-hs1] at hc1 ⊢
  refine oj_run TT rfl ?_
  (repeat (first | refine cjr TT rfl ?_ | refine oj_nil ?_ | refine nj_then ?_ | refine nj_block ?_ | (refine oj_add rfl rfl rfl rfl rfl rfl (by omega) ?_;refine oj_run TT rfl ?_)))
  refine nj_again (s1,(⟨k+1,o1,c1⟩:EnS)) ⟨Snap.le_trans hle hle1,hkl,hc1,fun q hq'=>?_⟩ (by dsimp only;omega) rfl (by (repeat first | exact trivial | refine ⟨rfl,?_⟩)) (by (repeat first | exact trivial | refine ⟨rfl,?_⟩)) rfl (by (repeat' (first | exact trivial | constructor))) (by (repeat' exact trivial))
  rw [htk] at hq'
  rcases List.mem_append.1 hq' with hq' | hq'
  · exact hr q hq'
  · rw [List.mem_singleton] at hq'
    subst hq'
    exact hrt
def cmpV (a b:Int):Int:=if a<b then -1 else if b<a then 1 else 0
set_option maxRecDepth 100000 in
set_option maxHeartbeats 1000000 in
theorem compare09_c (σ:Snap) (a b:Int):PlainS Tryd.prog 33 [.a (.v (.int .i64 a)),.a (.v (.int .i64 b))] σ (fun v=>v=.int .i64 (cmpV a b)):=by
  refine enter_p Tryd.func33 rfl rfl (by (repeat' (first | exact trivial | constructor))) fun w=>?_
  (repeat (first | refine cj_seq ?_ | refine cjr TT rfl ?_ | refine oj_then ?_))
  refine cj_if rfl (fun h=>?_) (fun h=>?_)
  · have h:=of_decide_eq_true h
    (repeat (first | refine cj_seq ?_ | refine cjr TT rfl ?_ | refine oj_then ?_ | refine cj_ret ?_ | refine nj_then_ret ?_))
    refine nj_ret TT rfl fun β w' _ _=>?_
    show Value.int .i64 (-1)=_
    unfold cmpV
    rw [if_pos h]
  have h:=of_decide_eq_false h
  (repeat (first | refine cj_seq ?_ | refine cjr TT rfl ?_ | refine oj_then ?_ | refine cj_skip ?_ | refine nj_then ?_))
  refine cj_if rfl (fun h2=>?_) (fun h2=>?_)
  · have h2:=of_decide_eq_true h2
    (repeat (first | refine cj_seq ?_ | refine cjr TT rfl ?_ | refine oj_then ?_ | refine cj_ret ?_ | refine nj_then_ret ?_))
    refine nj_ret TT rfl fun β w' _ _=>?_
    show Value.int .i64 1=_
    unfold cmpV
    rw [if_neg h,if_pos h2]
  · have h2:=of_decide_eq_false h2
    (repeat (first | refine cj_seq ?_ | refine cjr TT rfl ?_ | refine oj_then ?_ | refine cj_skip ?_ | refine cj_ret ?_ | refine nj_then ?_))
    refine nj_ret TT rfl fun β w' _ _=>?_
    show Value.int .i64 0=_
    unfold cmpV
    rw [if_neg h,if_neg h2]
theorem wrap64 (u:UInt8):IntKind.i64.wrap (u.toNat:Int)=(u.toNat:Int):=by
  have h:∀ n:Fin 256,IntKind.i64.wrap (n.val:Int)=(n.val:Int):=by decide +kernel
  exact h ⟨u.toNat,u.toNat_lt⟩
theorem cmpU_end:∀ {a b:List UInt8},(a=[]\/b=[])->cmpU a b=cmpV a.length b.length
  | [],[],_=>rfl
  | [],y::b,_=>by
    show (-1:Int)=cmpV 0 ((b.length+1:Nat):Int)
    unfold cmpV
    rw [if_pos (by omega)]
  | x::a,[],_=>by
    show (1:Int)=cmpV ((a.length+1:Nat):Int) 0
    unfold cmpV
    rw [if_neg (by omega),if_pos (by omega)]
  | _::_,_::_,h=>by rcases h with h | h<;>cases h
theorem cmpU_ne {x y:UInt8} {a b:List UInt8} (h:x≠y):cmpU (x::a) (y::b)=cmpV x.toNat y.toNat:=by
  have hn:x.toNat≠y.toNat:=fun e=>h (UInt8.toNat_inj.1 e)
  unfold cmpU cmpV
  by_cases h1:x<y
  · have:=UInt8.lt_iff_toNat_lt.1 h1
    rw [if_pos h1,if_pos (by omega)]
  · have h2:¬ x.toNat<y.toNat:=fun e=>h1 (UInt8.lt_iff_toNat_lt.2 e)
    have h3:y<x:=UInt8.lt_iff_toNat_lt.2 (by omega)
    rw [if_neg h1,if_pos h3,if_neg (by omega),if_pos (by omega)]
theorem cmpU_eq (x:UInt8) (a b:List UInt8):cmpU (x::a) (x::b)=cmpU a b:=cmp_front [x] a b
set_option maxRecDepth 100000 in
set_option maxHeartbeats 2000000 in
theorem bytes09_c (σ:Snap) (a b:List UInt8) (ha:a.length<=140737488355328):PlainS Tryd.prog 24 [.a (.v (.string (mkB a))),.a (.v (.string (mkB b)))] σ (fun v=>v=.int .i64 (cmpU a b)):=by
  have hza:=mkB_size a
  have hzb:=mkB_size b
  refine enter_p Tryd.func24 rfl rfl (by (repeat' (first | exact trivial | constructor))) fun w=>?_
  (repeat (first | refine cj_seq ?_ | refine cjr TT rfl ?_ | refine oj_then ?_ | refine cj_block ?_))
  refine cj_cutB (fun _=>σ) (fun (k:Nat)=>[(0,.a (.v (.string (mkB a)))),(1,.a (.v (.string (mkB b))))]) (fun _=>[]) (fun _=>[]) 0 (fun k=>k<=a.length/\k<=b.length/\cmpU a b=cmpU (a.drop k) (b.drop k)/\(k=a.length\/k=b.length)) ?_ (fun k ⟨hka,hkb,hc,he⟩=>?_)
  rotate_left
  · (repeat (first | refine cj_seq ?_ | refine cjr TT rfl ?_))
    rw [hza,hzb]
    refine oj_callP rfl rfl rfl rfl rfl Tryd.call33 (by (repeat' (first | exact trivial | constructor))) (compare09_c σ a.length b.length) fun v hv=>⟨.a (.v (.int .i64 (cmpV a.length b.length))),trivial,hv.symm,?_⟩
    refine oj_run TT rfl ?_
    (repeat (first | refine oj_then ?_ | refine cj_ret ?_))
    refine nj_ret TT rfl fun β w' _ _=>?_
    rw [hc,cmpU_end (by
      rcases he with he | he
      · exact .inl (List.drop_of_length_le (by omega))
      · exact .inr (List.drop_of_length_le (by omega))),List.length_drop,List.length_drop]
    show Value.int .i64 (cmpV a.length b.length)=.int .i64 (cmpV ((a.length - k:Nat):Int) ((b.length - k:Nat):Int))
    congr 1
    unfold cmpV
    by_cases h1:a.length<b.length
    · rw [if_pos (by omega),if_pos (by omega)]
    · rw [if_neg (by omega),if_neg (show ¬ ((a.length - k:Nat):Int)<((b.length - k:Nat):Int) by omega)]
      by_cases h2:b.length<a.length
      · rw [if_pos (by omega),if_pos (by omega)]
      · rw [if_neg (by omega),if_neg (by omega)]
  refine cj_loop (fun (_:Nat)=>σ) (fun k=>[(0,.a (.v (.string (mkB a)))),(1,.a (.v (.string (mkB b)))),(5,.a (.v (.int .i64 (k:Nat))))]) (fun _=>[]) (fun _=>[]) 0 (fun k=>k<=a.length/\k<=b.length/\cmpU a b=cmpU (a.drop k) (b.drop k)) (fun k=>a.length - k) 0 ⟨Nat.zero_le _,Nat.zero_le _,rfl⟩ rfl (by (repeat first | exact trivial | refine ⟨rfl,?_⟩)) (by (repeat first | exact trivial | refine ⟨rfl,?_⟩)) rfl (by (repeat' (first | exact trivial | constructor))) (by (repeat' exact trivial)) fun k ⟨hka,hkb,hc⟩=>?_
  (repeat (first | refine cj_seq ?_ | refine cjr TT rfl ?_))
  rw [hza]
  refine oj_split 10 rfl (fun h1=>?_) (fun h1=>?_)
  rotate_left
  · have h1:=of_decide_eq_false (show decide ((k:Int)<a.length)=false from h1)
    refine oj_run TT rfl ?_
    (repeat (first | refine oj_then ?_ | refine cj_if_f rfl ?_ | refine cj_exit ?_ | refine nj_then_exit ?_ | refine nj_block_out ?_))
    refine nj_again k ⟨hka,hkb,hc,.inl (by omega)⟩ Nat.zero_lt_one rfl (by (repeat first | exact trivial | refine ⟨rfl,?_⟩)) (by (repeat first | exact trivial | refine ⟨rfl,?_⟩)) rfl (by (repeat' (first | exact trivial | constructor))) (by (repeat' exact trivial))
  have h1:=of_decide_eq_true (show decide ((k:Int)<a.length)=true from h1)
  refine oj_run TT rfl ?_
  (repeat refine oj_then ?_)
  rw [hzb]
  refine cj_if rfl (fun h2=>?_) (fun h2=>?_)
  rotate_left
  · have h2:=of_decide_eq_false (show decide ((k:Int)<b.length)=false from h2)
    (repeat (first | refine cj_exit ?_ | refine nj_then_exit ?_ | refine nj_block_out ?_))
    refine nj_again k ⟨hka,hkb,hc,.inr (by omega)⟩ Nat.zero_lt_one rfl (by (repeat first | exact trivial | refine ⟨rfl,?_⟩)) (by (repeat first | exact trivial | refine ⟨rfl,?_⟩)) rfl (by (repeat' (first | exact trivial | constructor))) (by (repeat' exact trivial))
  have h2:=of_decide_eq_true (show decide ((k:Int)<b.length)=true from h2)
  have hla:k<a.length:=by omega
  have hlb:k<b.length:=by omega
  have hxa:=List.getElem?_eq_getElem hla
  have hxb:=List.getElem?_eq_getElem hlb
  have hda:=List.drop_eq_getElem_cons hla
  have hdb:=List.drop_eq_getElem_cons hlb
  generalize a[k]=x at *
  generalize b[k]=y at *
  have hia:∀ z:Int,z=(k:Int)->(mkB a).data.toList[z.toNat]?=some x:=fun z hz=>by rw [hz,mkB_list];exact hxa
  have hib:∀ z:Int,z=(k:Int)->(mkB b).data.toList[z.toNat]?=some y:=fun z hz=>by rw [hz,mkB_list];exact hxb
  (repeat (first | refine cj_seq ?_ | refine cj_skip ?_ | refine cj_block ?_ | refine nj_then ?_))
  refine cj_draw [(0,.pure),(1,.pure),(2,.pure),(3,.pure),(4,.pure),(5,.pure),(6,.pure)] mixed (by kernel_rfl) (oj_run TT rfl ?_)
  refine oj_index_str (u:=x) TT rfl rfl rfl rfl rfl rfl rfl rfl (by omega) (hia _ rfl) (oj_run TT rfl ?_)
  refine oj_index_str (u:=y) TT rfl rfl rfl rfl rfl rfl rfl rfl (by omega) (hib _ rfl) (oj_run TT rfl ?_)
  (repeat refine oj_then ?_)
  refine cj_if rfl (fun hne=>?_) (fun heq=>?_)
  · have hne:x≠y:=by
      intro e
      have h:(!decide ((x.toNat:Int)=y.toNat))=true:=hne
      rw [e] at h
      simp at h
    (repeat refine cj_seq ?_)
    refine cj_draw [(0,.pure),(1,.pure),(2,.pure),(3,.pure),(4,.pure),(5,.pure),(6,.pure),(7,.pure),(8,.keep),(9,.pure)] mixed (by kernel_rfl) (oj_run TT rfl ?_)
    refine oj_index_str (u:=x) TT rfl rfl rfl rfl rfl rfl rfl rfl (by omega) (hia _ rfl) (oj_run TT rfl ?_)
    refine oj_conv TT (x.toNat:Int) rfl rfl rfl rfl rfl rfl rfl rfl (wrap64 x) (oj_run TT rfl ?_)
    refine oj_index_str (u:=y) TT rfl rfl rfl rfl rfl rfl rfl rfl (by omega) (hib _ rfl) (oj_run TT rfl ?_)
    refine oj_conv TT (y.toNat:Int) rfl rfl rfl rfl rfl rfl rfl rfl (wrap64 y) (oj_run TT rfl ?_)
    refine oj_callP rfl rfl rfl rfl rfl Tryd.call33 (by (repeat' (first | exact trivial | constructor))) (compare09_c σ x.toNat y.toNat) fun v hv=>⟨.a (.v (.int .i64 (cmpV x.toNat y.toNat))),trivial,hv.symm,?_⟩
    refine oj_run TT rfl ?_
    (repeat (first | refine oj_then ?_ | refine cj_ret ?_ | refine nj_then_ret ?_ | refine nj_block_ret ?_))
    refine nj_ret TT rfl fun β w' _ _=>?_
    rw [hc,hda,hdb,cmpU_ne hne]
    rfl
  have heq:x=y:=by
    have h:(!decide ((x.toNat:Int)=y.toNat))=false:=heq
    simp only [Bool.not_eq_false',decide_eq_true_eq] at h
    exact UInt8.toNat_inj.1 (by omega)
  (repeat (first | refine cjr TT rfl ?_ | refine oj_nil ?_ | refine cj_skip ?_ | refine nj_then ?_ | refine nj_block ?_ | (refine oj_add rfl rfl rfl rfl rfl rfl (by omega) ?_;refine oj_run TT rfl ?_)))
  refine nj_again (k+1) ⟨hla,hlb,by rw [hc,hda,hdb,heq,cmpU_eq]⟩ (by omega) rfl (by (repeat first | exact trivial | refine ⟨rfl,?_⟩)) (by (repeat first | exact trivial | refine ⟨rfl,?_⟩)) rfl (by (repeat' (first | exact trivial | constructor))) (by (repeat' exact trivial))
set_option maxRecDepth 100000 in
set_option maxHeartbeats 1000000 in
theorem Bytes_c (σ:Snap) (a b:List UInt8) (ha:a.length<=140737488355328) (ao:Option Addr) (ac:Nat) (HA:SlAt σ ao a.length ac 1 (u8Rows a)) (bo:Option Addr) (bc:Nat) (HB:SlAt σ bo b.length bc 1 (u8Rows b)) :
    PlainS Tryd.prog 10 [.a (.v (.slice ao a.length ac)),.a (.v (.slice bo b.length bc))] σ (fun v=>v=.int .i64 (cmpU a b)):=by
  refine enter_p Tryd.func10 rfl rfl (by (repeat' (first | exact trivial | constructor))) fun w=>?_
  (repeat (first | refine cj_seq ?_ | refine cjr TT rfl ?_ | refine oj_then ?_))
  refine oj_strOf TT rfl rfl rfl rfl rfl rfl rfl rfl rfl rfl rfl rfl HA (oj_run TT rfl ?_)
  refine oj_strOf TT rfl rfl rfl rfl rfl rfl rfl rfl rfl rfl rfl rfl HB (oj_run TT rfl ?_)
  refine oj_callP rfl rfl rfl rfl rfl Tryd.call24 (by (repeat' (first | exact trivial | constructor))) (bytes09_c σ a b ha) fun v hv=>⟨.a (.v (.int .i64 (cmpU a b))),trivial,hv.symm,?_⟩
  refine oj_run TT rfl ?_
  (repeat (first | refine oj_then ?_ | refine cj_ret ?_))
  refine nj_ret TT rfl fun β w' _ _=>?_
  rfl
end Go.Sy
namespace Go.Sy
open Go.Proofs
set_option maxRecDepth 100000 in
set_option maxHeartbeats 1000000 in
theorem Clone09_c (σ:Snap) (l:List UInt8) (hl:l.length<=1000000) (h0:0<l.length) (ao:Option Addr) (cap:Nat) (H:SlAt σ ao l.length cap 1 (u8Rows l)) :
    FnS Tryd.prog 23 [.a (.v (.slice ao l.length cap))] σ [] (fun v _ A'=>∃ bo bc,v=.slice bo l.length bc/\l.length<=bc/\A'=[u8E bo bc l]):=by
  refine enter_f Tryd.func23 rfl rfl (by (repeat' (first | exact trivial | constructor))) fun w=>?_
  (repeat (first | refine cj_seq ?_ | refine cjr TT rfl ?_ | refine oj_then ?_ | (refine oj_slnil TT rfl rfl rfl rfl rfl rfl rfl rfl ?_;refine oj_run TT rfl ?_)))
  refine cj_if rfl (fun h=>?_) (fun h=>?_)
  · exfalso
    have h0':ao=none:=by simpa using h
    rcases H.at_ with h1 | ⟨ad,h1,_⟩
    · omega
    · rw [h0'] at h1;cases h1
  (repeat (first | refine cj_seq ?_ | refine cjr TT rfl ?_ | refine cj_skip ?_ | refine nj_then ?_))
  refine oj_own 0 0 1 rfl (by (repeat' (first | exact trivial | refine AllLt.of ?_))) rfl (by decide) fun gb=>?_
  refine oj_append_sl TT 0 rfl rfl rfl rfl rfl rfl rfl H rfl rfl rfl rfl rfl rfl rfl rfl rfl (fun r hr=>(u8Rows_all l r hr).2.2) (by omega) (by show (0+l.length)*1<=_;omega) fun ao' cap' hcap'=>oj_run TT rfl ?_
  (repeat (first | refine oj_then ?_ | refine cj_ret ?_))
  refine nj_fret TT rfl fun β w' _ _=>?_
  refine ⟨ao',cap',by show Value.slice ao' (0+l.length) cap'=_;rw [Nat.zero_add],by omega,?_⟩
  show [_]=[_]
  rw [Nat.zero_add,u8Xs_flat]
  rfl
theorem strip_all:∀ {l:List UInt8},(∀ c∈l,c=255)->stripF l=[]
  | [],_=>rfl
  | c::l,h=>by rw [stripF,if_pos (h c List.mem_cons_self),strip_all fun x hx=>h x (List.mem_cons_of_mem c hx)]
theorem strip_front:∀ {l:List UInt8} {c:UInt8} {m:List UInt8},(∀ x∈l,x=255)->c≠255->stripF (l++c::m)=c::m
  | [],c,m,_,hc=>by rw [List.nil_append,stripF,if_neg hc]
  | x::l,c,m,h,hc=>by rw [List.cons_append,stripF,if_pos (h x List.mem_cons_self),strip_front (fun y hy=>h y (List.mem_cons_of_mem x hy)) hc]
theorem after_zero {b:List UInt8} (h:∀ c∈b,c=255):afterG b=[]:=by
  unfold afterG
  rw [strip_all fun c hc=>h c (List.mem_reverse.1 hc)]
theorem after_at {b:List UInt8} {k:Nat} {c:UInt8} (hc:b[k]?=some c) (hne:c≠255) (h:∀ x∈b.drop (k+1),x=255):afterG b=b.take k++[c+1]:=by
  obtain ⟨hk,he⟩:=List.getElem?_eq_some_iff.1 hc
  have e:b=b.take k++c::b.drop (k+1):=by rw [<-he,<-List.drop_eq_getElem_cons hk,List.take_append_drop]
  have hr:b.reverse=(b.drop (k+1)).reverse++c::(b.take k).reverse:=by
    conv=>lhs;rw [e]
    simp
  unfold afterG
  rw [hr,strip_front (fun x hx=>h x (List.mem_reverse.1 hx)) hne]
  show (b.take k).reverse.reverse++[c+1]=_
  rw [List.reverse_reverse]
theorem take_set_last {b:List UInt8} {k:Nat} {c:UInt8} (hc:b[k]?=some c) (x:UInt8):(b.take (k+1)).set k x=b.take k++[x]:=by
  obtain ⟨hk,he⟩:=List.getElem?_eq_some_iff.1 hc
  have hl:(b.take k).length=k:=by rw [List.length_take];omega
  rw [List.take_succ_eq_append_getElem hk,List.set_append_right _ _ (by omega),hl,Nat.sub_self,List.set_cons_zero]
set_option maxRecDepth 100000 in
set_option maxHeartbeats 2000000 in
theorem After_c (σ:Snap) (b:List UInt8) (hl:b.length<=1000000) (ao:Option Addr) (cap:Nat) (H:SlAt σ ao b.length cap 1 (u8Rows b)) :
    PureS Tryd.prog 9 [.a (.v (.slice ao b.length cap))] σ (fun v σ'=>∃ bo bc,v=.slice bo (afterG b).length bc/\SlAt σ' bo (afterG b).length bc 1 (u8Rows (afterG b))):=by
  refine enter_s Tryd.func9 rfl rfl (by (repeat' (first | exact trivial | constructor))) fun w=>?_
  (repeat (first | refine cj_seq ?_ | refine cjr TT rfl ?_ | refine oj_then ?_ | refine cj_block ?_))
  refine cj_cutB (fun _=>σ) (fun (n:Nat)=>[(0,.a (.v (.slice ao b.length cap))),(2,.a (.v (.slice none 0 0))),(3,.a (.v (.int .i64 (n:Nat))))]) (fun _=>[]) (fun _=>[]) 0 (fun n=>n<=b.length/\(∀ x∈b.drop n,x=255)/\(n=0\/∃ k c,n=k+1/\b[k]?=some c/\c≠255)) ?_ (fun n ⟨hn,hd,he⟩=>?_)
  · refine cj_loop (fun (_:Nat)=>σ) (fun n=>[(0,.a (.v (.slice ao b.length cap))),(2,.a (.v (.slice none 0 0))),(3,.a (.v (.int .i64 (n:Nat))))]) (fun _=>[]) (fun _=>[]) 0 (fun n=>n<=b.length/\∀ x∈b.drop n,x=255) (fun n=>n) b.length ⟨Nat.le_refl _,fun x hx=>(by rw [List.drop_length] at hx;cases hx)⟩ rfl (by (repeat first | exact trivial | refine ⟨rfl,?_⟩)) (by (repeat first | exact trivial | refine ⟨rfl,?_⟩)) rfl (by (repeat' (first | exact trivial | constructor))) (by (repeat' exact trivial)) fun n ⟨hn,hd⟩=>?_
    (repeat (first | refine cj_seq ?_ | refine cjr TT rfl ?_))
    refine oj_split 9 rfl (fun h=>?_) (fun h=>?_)
    rotate_left
    · have h:=of_decide_eq_false (show decide ((0:Int)<n)=false from h)
      refine oj_run TT rfl ?_
      (repeat (first | refine oj_then ?_ | refine cj_if_f rfl ?_ | refine cj_exit ?_ | refine nj_then_exit ?_ | refine nj_block_out ?_))
      refine nj_again n ⟨hn,hd,.inl (by omega)⟩ Nat.zero_lt_one rfl (by (repeat first | exact trivial | refine ⟨rfl,?_⟩)) (by (repeat first | exact trivial | refine ⟨rfl,?_⟩)) rfl (by (repeat' (first | exact trivial | constructor))) (by (repeat' exact trivial))
    have h:=of_decide_eq_true (show decide ((0:Int)<n)=true from h)
    obtain ⟨k,rfl⟩:∃ k,n=k+1:=⟨n - 1,by omega⟩
    have hkl:k<b.length:=by omega
    have hx:=List.getElem?_eq_getElem hkl
    have hrow:=u8Rows_get hx
    have hdk:=List.drop_eq_getElem_cons hkl
    generalize b[k]=c at *
    have hr1':∀ z:Int,z=((k+1:Nat):Int) - 1->(u8Rows b)[z.toNat]?=some [.v (.int .u8 c.toNat)]:=fun z hz=>by rw [hz,show (((k+1:Nat):Int) - 1).toNat=k by omega];exact hrow
    refine oj_run TT rfl ?_
    refine oj_minus rfl rfl rfl rfl rfl rfl (by omega) (oj_run TT rfl ?_)
    refine oj_idx TT rfl rfl rfl rfl rfl rfl rfl rfl rfl H (by omega) (hr1' _ rfl) (oj_run TT rfl ?_)
    (repeat refine oj_then ?_)
    refine cj_if rfl (fun hc=>?_) (fun hc=>?_)
    · have hc:c=255:=by
        have:=of_decide_eq_true (show decide ((c.toNat:Int)=255)=true from hc)
        exact UInt8.toNat_inj.1 (by show c.toNat=255;omega)
      (repeat (first | refine cjr TT rfl ?_ | refine oj_nil ?_ | refine cj_skip ?_ | refine cj_block ?_ | refine nj_then ?_ | refine nj_block ?_ | (refine oj_minus rfl rfl rfl rfl rfl rfl (by omega) ?_;refine oj_run TT rfl ?_)))
      refine nj_set 3 (.a (.v (.int .i64 (k:Nat)))) rfl trivial (fun _=>congrArg (Value.int .i64) (by omega)) ?_
      refine nj_again k ⟨by omega,fun x hx=>?_⟩ (by omega) rfl (by (repeat first | exact trivial | refine ⟨rfl,?_⟩)) (by (repeat first | exact trivial | refine ⟨rfl,?_⟩)) rfl (by (repeat' (first | exact trivial | constructor))) (by (repeat' exact trivial))
      rw [hdk] at hx
      rcases List.mem_cons.1 hx with rfl | hx
      · exact hc
      · exact hd x hx
    · have hc:c≠255:=fun e=>by
        have:=of_decide_eq_false (show decide ((c.toNat:Int)=255)=false from hc)
        rw [e] at this
        exact this rfl
      (repeat (first | refine cj_exit ?_ | refine nj_then_exit ?_ | refine nj_block_out ?_))
      refine nj_again (k+1) ⟨hn,hd,.inr ⟨k,c,rfl,hx,hc⟩⟩ Nat.zero_lt_one rfl (by (repeat first | exact trivial | refine ⟨rfl,?_⟩)) (by (repeat first | exact trivial | refine ⟨rfl,?_⟩)) rfl (by (repeat' (first | exact trivial | constructor))) (by (repeat' exact trivial))
  (repeat (first | refine cj_seq ?_ | refine cjr TT rfl ?_ | refine oj_then ?_))
  refine cj_if rfl (fun h=>?_) (fun h=>?_)
  · have h:=of_decide_eq_true (show decide ((n:Int)=0)=true from h)
    have e:afterG b=[]:=after_zero fun c hc=>hd c (by rw [show n=0 by omega];exact hc)
    rw [e]
    (repeat (first | refine cj_seq ?_ | refine cjr TT rfl ?_ | refine oj_then ?_ | refine cj_ret ?_ | refine nj_then_ret ?_))
    refine nj_ret TT rfl fun β w' _ _=>?_
    exact ⟨none,0,rfl,SlAt.nil _ none 0 1⟩
  have h:=of_decide_eq_false (show decide ((n:Int)=0)=false from h)
  obtain ⟨k,c,rfl,hx,hc⟩:=he.resolve_left (by omega)
  have e:=after_at hx hc hd
  have hset:=take_set_last hx (c+1)
  have hkl:=(List.getElem?_eq_some_iff.1 hx).1
  have hF:=H.sub (Nat.zero_le _) hn
  have hfr:SlAt σ ao (k+1) cap 1 (u8Rows (b.take (k+1))):=by
    refine ⟨by rw [u8Rows_len,List.length_take];omega,Nat.le_trans hn H.ncap,fun r hr=>⟨(u8Rows_all _ r hr).1,(u8Rows_all _ r hr).2.1⟩,?_⟩
    rcases H.at_ with h1 | ⟨ad,h1,h2⟩
    · omega
    · refine .inr ⟨ad,h1,fun i r j cc hr hcc=>h2 i r j cc ?_ hcc⟩
      unfold u8Rows at hr ⊢
      rw [List.map_take,List.getElem?_take] at hr
      split at hr
      · exact hr
      · cases hr
  have hlt:(b.take (k+1)).length=k+1:=by rw [List.length_take];omega
  have hxt:(b.take (k+1))[k]?=some c:=by rw [List.getElem?_take,if_pos (Nat.lt_succ_self k)];exact hx
  (repeat (first | refine cj_seq ?_ | refine cjr TT rfl ?_ | refine cj_skip ?_ | refine nj_then ?_))
  refine oj_slice_to TT (k+1) rfl rfl rfl rfl rfl rfl rfl rfl rfl rfl (Nat.le_trans hn H.ncap) H.ncap (oj_run TT rfl ?_)
  have hcl:=Clone09_c σ (b.take (k+1)) (by omega) (by omega) ao cap (by rw [hlt];exact hfr)
  rw [hlt] at hcl
  refine oj_callF [] (A0:=[]) (Ar:=[]) rfl rfl rfl rfl rfl rfl rfl Tryd.call23 (by (repeat' (first | exact trivial | constructor))) hcl fun v s1 A' hle1 ⟨bo,bc,hv,hbc,hA⟩=>⟨.a (.v (.slice bo (k+1) bc)),trivial,hv.symm,?_⟩
  subst hA
  refine oj_run TT rfl ?_
  refine oj_arrAt 0 (E:=u8E bo bc (b.take (k+1))) rfl (by show 0<(b.take (k+1)).length;omega) fun g hg=>?_
  have hg:bo=some ⟨g,0,none⟩:=hg
  subst hg
  have had:∀ z:Int,z=((k+1:Nat):Int) - 1->some (SV.a (AT.v (.pointer (some (Addr.add ⟨g,0,none⟩ (z.toNat*1))))))=some (SV.a (AT.v (.pointer (some ⟨g,k,none⟩)))):=fun z hz=>by rw [hz,show (((k+1:Nat):Int) - 1).toNat=k by omega,add0,Nat.mul_one]
  (repeat (first | refine cj_seq ?_ | refine cjr TT rfl ?_ | refine oj_then ?_ | (refine oj_minus rfl rfl rfl rfl rfl rfl (by omega) ?_;refine oj_run TT rfl ?_)))
  refine oj_indexAddr TT rfl rfl rfl rfl rfl rfl rfl rfl rfl ⟨by omega,by omega⟩ (oj_run TT rfl ?_)
  refine oj_ldA 0 (off:=k) (c:=.v (.int .u8 c.toNat)) TT rfl rfl rfl rfl rfl (had _ rfl) rfl rfl rfl rfl (u8Xs_get hxt) trivial (oj_run TT rfl ?_)
  refine oj_arith ((c+1).toNat:Int) rfl rfl rfl rfl rfl rfl (run_add (wrap8_inc c)) (oj_run TT rfl ?_)
  refine oj_indexAddr TT rfl rfl rfl rfl rfl rfl rfl rfl rfl ⟨by omega,by omega⟩ (oj_run TT rfl ?_)
  refine oj_stA 0 (off:=k) (A':=[u8E (some ⟨g,0,none⟩) bc (afterG b)]) (c:=.v (.int .u8 ((c+1).toNat:Int))) TT rfl rfl rfl rfl (had _ rfl) rfl rfl rfl rfl rfl (by show k<(b.take (k+1)).length*1;omega) trivial rfl (by
    show [_]=[_]
    congr 1
    unfold u8E
    have hl2:(afterG b).length=(b.take (k+1)).length:=by rw [e,hlt,List.length_append,List.length_take];show _+1=_;omega
    rw [hl2]
    congr 1
    rw [e,<-hset]
    exact u8Xs_set _ _ _) (oj_run TT rfl ?_)
  (repeat (first | refine cj_seq ?_ | refine cjr TT rfl ?_ | refine oj_then ?_ | refine cj_ret ?_))
  refine nj_seal 0 rfl rfl fun s2 hle2 hS=>?_
  refine nj_ret TT rfl fun β w' _ _=>?_
  have hl2:(afterG b).length=k+1:=by rw [e,List.length_append,List.length_take];show _+1=_;omega
  have:=u8_sealed hS (by rw [hl2];omega)
  exact ⟨some ⟨g,0,none⟩,bc,by rw [hl2];rfl,this⟩
end Go.Sy
namespace Go.Sy
open Go.Proofs
def awN:GPart:=⟨1,false,dec0,emptyB,0⟩
set_option maxRecDepth 100000 in
set_option maxHeartbeats 1000000 in
theorem isNaN09_c (σ:Snap) (a:Int):PlainS Tryd.prog 53 [.a (.v (.int .i64 a))] σ (fun v=>v=.bool false):=by
  refine enter_p Tryd.func53 rfl rfl (by (repeat' (first | exact trivial | constructor))) fun w=>?_
  (repeat (first | refine cj_seq ?_ | refine cjr TT rfl ?_ | refine oj_then ?_ | refine cj_ret ?_))
  refine nj_ret TT rfl fun β w' _ _=>?_
  show Value.bool (!decide (a=a))=_
  simp
set_option maxRecDepth 100000 in
set_option maxHeartbeats 1000000 in
theorem Compare09_c (σ:Snap) (a b:Int):PlainS Tryd.prog 44 [.a (.v (.int .i64 a)),.a (.v (.int .i64 b))] σ (fun v=>v=.int .i64 (cmpV a b)):=by
  refine enter_p Tryd.func44 rfl rfl (by (repeat' (first | exact trivial | constructor))) fun w=>?_
  (repeat (first | refine cj_seq ?_ | refine cjr TT rfl ?_ | refine oj_then ?_))
  refine oj_callP rfl rfl rfl rfl rfl Tryd.call53 (by (repeat' (first | exact trivial | constructor))) (isNaN09_c σ a) fun v hv=>⟨.a .ff,trivial,hv.symm,?_⟩
  refine oj_run TT rfl ?_
  (repeat (first | refine cj_seq ?_ | refine cjr TT rfl ?_ | refine oj_then ?_))
  refine oj_callP rfl rfl rfl rfl rfl Tryd.call53 (by (repeat' (first | exact trivial | constructor))) (isNaN09_c σ b) fun v hv=>⟨.a .ff,trivial,hv.symm,?_⟩
  refine oj_run TT rfl ?_
  (repeat (first | refine cj_seq ?_ | refine cjr TT rfl ?_ | refine oj_then ?_ | refine cj_if_f rfl ?_ | refine cj_skip ?_ | refine nj_then ?_))
  refine cj_if rfl (fun h=>?_) (fun h=>?_)
  · have h:=of_decide_eq_true h
    (repeat (first | refine cj_seq ?_ | refine cjr TT rfl ?_ | refine oj_then ?_ | refine cj_ret ?_ | refine nj_then_ret ?_))
    refine nj_ret TT rfl fun β w' _ _=>?_
    show Value.int .i64 (-1)=_
    unfold cmpV
    rw [if_pos h]
  have h:=of_decide_eq_false h
  (repeat (first | refine cj_seq ?_ | refine cjr TT rfl ?_ | refine oj_then ?_ | refine cj_skip ?_ | refine nj_then ?_))
  refine cj_if rfl (fun h2=>?_) (fun h2=>?_)
  · have h2:=of_decide_eq_true h2
    (repeat (first | refine cj_seq ?_ | refine cjr TT rfl ?_ | refine oj_then ?_ | refine cj_ret ?_ | refine nj_then_ret ?_))
    refine nj_ret TT rfl fun β w' _ _=>?_
    show Value.int .i64 1=_
    unfold cmpV
    rw [if_neg h,if_pos h2]
  · have h2:=of_decide_eq_false h2
    (repeat (first | refine cj_seq ?_ | refine cjr TT rfl ?_ | refine oj_then ?_ | refine cj_skip ?_ | refine cj_ret ?_ | refine nj_then ?_))
    refine nj_ret TT rfl fun β w' _ _=>?_
    show Value.int .i64 0=_
    unfold cmpV
    rw [if_neg h,if_neg h2]
set_option maxRecDepth 100000 in
set_option maxHeartbeats 1000000 in
theorem order_aw (σ:Snap):PlainS Tryd.prog 32 [.agg (paCells part0),.agg (paCells awN)] σ (fun v=>v=.int .i64 (-1)):=by
  refine enter_p Tryd.func32 rfl rfl ⟨paCells_lt 0 _,paCells_lt 0 _,trivial⟩ fun w=>?_
  (repeat (first | refine cj_seq ?_ | refine cjr TT rfl ?_ | refine oj_then ?_))
  refine oj_callP rfl rfl rfl rfl rfl Tryd.call44 (by (repeat' (first | exact trivial | constructor))) (Compare09_c σ 0 1) fun v hv=>⟨.a (.v (.int .i64 (-1))),trivial,hv.symm,?_⟩
  refine oj_run TT rfl ?_
  (repeat (first | refine cj_seq ?_ | refine cjr TT rfl ?_ | refine oj_then ?_))
  refine cj_if rfl (fun _=>?_) (fun h=>absurd (show (!decide ((-1:Int)=0))=false from h) (by decide))
  (repeat (first | refine cj_seq ?_ | refine cjr TT rfl ?_ | refine oj_then ?_ | refine cj_ret ?_ | refine nj_then_ret ?_))
  refine nj_ret TT rfl fun β w' _ _=>?_
  rfl
set_option maxRecDepth 100000 in
set_option maxHeartbeats 2000000 in
theorem CompareFunc_aw (σ:Snap) (ao bo:Option Addr) (HA:SlAt σ ao 1 1 7 (paRows [part0])) (HB:SlAt σ bo 1 1 7 (paRows [awN])) :
    PlainS Tryd.prog 31 [.a (.v (.slice ao 1 1)),.a (.v (.slice bo 1 1)),.a (.fn (.func 32) [])] σ (fun v=>v=.int .i64 (-1)):=by
  refine enter_p Tryd.func31 rfl rfl (by (repeat' (first | exact trivial | exact SV.lt_fn0 | constructor))) fun w=>?_
  (repeat (first | refine cj_seq ?_ | refine cjr TT rfl ?_ | refine oj_then ?_ | refine cj_block ?_))
  refine cj_loop (fun (_:Unit)=>σ) (fun _=>[(0,.a (.v (.slice ao 1 1))),(1,.a (.v (.slice bo 1 1))),(2,.a (.fn (.func 32) [])),(11,.a (.v (.slice ao 1 1))),(12,.a (.v (.int .i64 1))),(13,.a (.v (.int .i64 0)))]) (fun _=>[]) (fun _=>[]) 0 (fun _=>True) (fun _=>0) () trivial rfl (by (repeat first | exact trivial | refine ⟨rfl,?_⟩)) (by (repeat first | exact trivial | refine ⟨rfl,?_⟩)) rfl (by (repeat' (first | exact trivial | exact SV.lt_fn0 | constructor))) (by (repeat' exact trivial)) fun _ _=>?_
  (repeat (first | refine cj_seq ?_ | refine cjr TT rfl ?_ | refine oj_then ?_))
  refine cj_if rfl (fun _=>?_) (fun h=>absurd (show decide ((0:Int)<1)=false from h) (by decide))
  (repeat (first | refine cj_seq ?_ | refine cjr TT rfl ?_ | refine cj_skip ?_ | refine cj_block ?_ | refine nj_then ?_))
  refine oj_idx TT rfl rfl rfl rfl rfl rfl rfl rfl rfl HA (by decide) (r:=paCells part0) rfl (oj_run TT rfl ?_)
  (repeat (first | refine cj_seq ?_ | refine cjr TT rfl ?_ | refine oj_then ?_))
  refine cj_if rfl (fun h=>absurd (show decide ((1:Int)<=0)=true from h) (by decide)) (fun _=>?_)
  (repeat (first | refine cj_seq ?_ | refine cjr TT rfl ?_ | refine cj_skip ?_ | refine nj_then ?_))
  refine oj_idx TT rfl rfl rfl rfl rfl rfl rfl rfl rfl HB (by decide) (r:=paCells awN) rfl (oj_run TT rfl ?_)
  (repeat (first | refine cj_seq ?_ | refine cjr TT rfl ?_ | refine oj_then ?_))
  refine oj_callP rfl rfl rfl rfl rfl Tryd.call32 (by (repeat' (first | exact trivial | refine AllLt.of ?_ | constructor))) (order_aw σ) fun v hv=>⟨.a (.v (.int .i64 (-1))),trivial,hv.symm,?_⟩
  refine oj_run TT rfl ?_
  (repeat (first | refine cj_seq ?_ | refine cjr TT rfl ?_ | refine oj_then ?_))
  refine cj_if rfl (fun _=>?_) (fun h=>absurd (show (!decide ((-1:Int)=0))=false from h) (by decide))
  (repeat (first | refine cj_seq ?_ | refine cjr TT rfl ?_ | refine oj_then ?_ | refine cj_ret ?_ | refine nj_then_ret ?_ | refine nj_block_ret ?_))
  refine nj_ret TT rfl fun β w' _ _=>?_
  rfl
set_option maxRecDepth 100000 in
set_option maxHeartbeats 1000000 in
theorem Order_aw (σ:Snap) (ao bo:Option Addr) (HA:SlAt σ ao 1 1 7 (paRows [part0])) (HB:SlAt σ bo 1 1 7 (paRows [awN])) :
    PlainS Tryd.prog 22 [.a (.v (.slice ao 1 1)),.a (.v (.slice bo 1 1))] σ (fun v=>v=.int .i64 (-1)):=by
  refine enter_p Tryd.func22 rfl rfl (by (repeat' (first | exact trivial | constructor))) fun w=>?_
  (repeat (first | refine cj_seq ?_ | refine cjr TT rfl ?_ | refine oj_then ?_))
  refine oj_callP rfl rfl rfl rfl rfl Tryd.call31 (by (repeat' (first | exact trivial | exact SV.lt_fn0 | constructor))) (CompareFunc_aw σ ao bo HA HB) fun v hv=>⟨.a (.v (.int .i64 (-1))),trivial,hv.symm,?_⟩
  refine oj_run TT rfl ?_
  (repeat (first | refine oj_then ?_ | refine cj_ret ?_))
  refine nj_ret TT rfl fun β w' _ _=>?_
  rfl
def awP1:GPart:=⟨2,false,⟨true,⟨#[49]⟩,0⟩,emptyB,0⟩
def awP2:GPart:=⟨2,false,⟨false,⟨#[53]⟩,-1⟩,emptyB,0⟩
theorem aw_enc1:encG [awP1]=([48,252,22,253,255],0):=by decide +kernel
theorem aw_enc2:encG [awP2]=([50,3,232,6,0],0):=by decide +kernel
theorem pa1_sealed {σ:Snap} {g:Nat} {p:GPart} {xs:List Value} (hx:xs=(paCells p).map AT.val) (hS:ArrSealed σ ⟨some ⟨g,0,none⟩,1,1,49,7,xs⟩):SlAt σ (some ⟨g,0,none⟩) 1 1 7 (paRows [p]) :=
  pa_sealed (t:=49) (l:=[p]) (cap:=1) (by subst hx;exact hS) (Nat.le_refl _)
set_option maxRecDepth 100000 in
set_option maxHeartbeats 4000000 in
theorem awake09_c (σ:Snap) (m:Int) (hm:σ.cell ⟨0,0,none⟩=some (.int .i64 m)):PureS Tryd.prog 8 [] σ (fun v _=>v=.bool true):=by
  refine enter_s Tryd.func8 rfl rfl (by (repeat' exact trivial)) fun w=>?_
  (repeat (first | refine cj_seq ?_ | refine cjr TT rfl ?_ | refine oj_then ?_))
  refine oj_own 0 1 7 rfl (by (repeat' (first | exact trivial | refine AllLt.of ?_ | constructor))) rfl (by decide) fun g1=>?_
  refine oj_seal 0 rfl rfl rfl fun s1 hle1 hS1=>?_
  have H1:=pa1_sealed (p:=awP1) rfl hS1
  refine oj_callS rfl rfl rfl rfl rfl Tryd.call12 ⟨trivial,trivial⟩ (show PureS Tryd.prog 12 [.a (.v (.slice (some ⟨g1,0,none⟩) 1 1))] s1 _ from Encode_c s1 m (hle1.cell hm) [awP1] (by decide) (by intro p hp;rw [List.mem_singleton] at hp;subst hp;exact ⟨by decide,by decide⟩) _ 1 H1) fun v s2 hle2 ⟨xo,xc,hv,HX⟩=>⟨.tup [.a (.v (.slice xo 5 xc)),.a (.v (.int .i64 0))],(by (repeat' (first | exact trivial | refine SV.lt_tup ?_ | constructor))),(by rw [hv,aw_enc1];rfl),?_⟩
  rw [aw_enc1] at HX
  have hm2:=(Snap.le_trans hle1 hle2).cell hm
  refine oj_run TT rfl ?_
  (repeat (first | refine cj_seq ?_ | refine cjr TT rfl ?_ | refine oj_then ?_))
  refine oj_own 1 1 7 rfl (by (repeat' (first | exact trivial | refine AllLt.of ?_ | constructor))) rfl (by decide) fun g2=>?_
  refine oj_seal 0 rfl rfl rfl fun s3 hle3 hS3=>?_
  have H3:=pa1_sealed (p:=awP2) rfl hS3
  refine oj_callS rfl rfl rfl rfl rfl Tryd.call12 ⟨trivial,trivial⟩ (show PureS Tryd.prog 12 [.a (.v (.slice (some ⟨g2,0,none⟩) 1 1))] s3 _ from Encode_c s3 m (hle3.cell hm2) [awP2] (by decide) (by intro p hp;rw [List.mem_singleton] at hp;subst hp;exact ⟨by decide,by decide⟩) _ 1 H3) fun v s4 hle4 ⟨yo,yc,hv,HY⟩=>⟨.tup [.a (.v (.slice yo 5 yc)),.a (.v (.int .i64 0))],(by (repeat' (first | exact trivial | refine SV.lt_tup ?_ | constructor))),(by rw [hv,aw_enc2];rfl),?_⟩
  rw [aw_enc2] at HY
  have HX:=HX.mono (Snap.le_trans hle3 hle4)
  refine oj_run TT rfl ?_
  (repeat (first | refine cj_seq ?_ | refine cjr TT rfl ?_ | refine oj_then ?_))
  refine oj_split 21 rfl (fun _=>?_) (fun h=>absurd (show decide ((0:Int)=0)=false from h) (by decide))
  refine oj_run TT rfl ?_
  refine oj_split 25 rfl (fun _=>?_) (fun h=>absurd (show decide ((0:Int)=0)=false from h) (by decide))
  refine oj_run TT rfl ?_
  refine oj_callP rfl rfl rfl rfl rfl Tryd.call10 (by (repeat' (first | exact trivial | constructor))) (Bytes_c s4 [48,252,22,253,255] [50,3,232,6,0] (by decide) xo xc HX yo yc HY) fun v hv=>⟨.a (.v (.int .i64 (-1))),trivial,(by rw [hv];rfl),?_⟩
  refine oj_run TT rfl ?_
  refine oj_split 31 rfl (fun _=>?_) (fun h=>absurd (show decide ((-1:Int)<0)=false from h) (by decide))
  refine oj_run TT rfl ?_
  refine oj_own 2 1 7 rfl (by (repeat' (first | exact trivial | refine AllLt.of ?_ | constructor))) rfl (by decide) fun g3=>?_
  refine oj_seal 0 rfl rfl rfl fun s5 hle5 hS5=>?_
  have H5:=pa1_sealed (p:=part0) rfl hS5
  refine oj_own 3 1 7 rfl (by (repeat' (first | exact trivial | refine AllLt.of ?_ | constructor))) rfl (by decide) fun g4=>?_
  refine oj_seal 0 rfl rfl rfl fun s6 hle6 hS6=>?_
  have H6:=pa1_sealed (p:=awN) rfl hS6
  refine oj_callP rfl rfl rfl rfl rfl Tryd.call22 (by (repeat' (first | exact trivial | constructor))) (Order_aw s6 _ _ (H5.mono hle6) H6) fun v hv=>⟨.a (.v (.int .i64 (-1))),trivial,hv.symm,?_⟩
  refine oj_run TT rfl ?_
  refine oj_split 39 rfl (fun _=>?_) (fun h=>absurd (show decide ((-1:Int)<0)=false from h) (by decide))
  refine oj_run TT rfl ?_
  refine oj_own 4 2 1 rfl (by (repeat' (first | exact trivial | refine AllLt.of ?_ | constructor))) rfl (by decide) fun g5=>?_
  refine oj_seal 0 rfl rfl rfl fun s7 hle7 hS7=>?_
  have H7:SlAt s7 (some ⟨g5,0,none⟩) ([1,255]:List UInt8).length 2 1 (u8Rows [1,255]):=u8_sealed (l:=[1,255]) hS7 (Nat.le_refl _)
  refine oj_callS rfl rfl rfl rfl rfl Tryd.call9 ⟨trivial,trivial⟩ (show PureS Tryd.prog 9 [.a (.v (.slice (some ⟨g5,0,none⟩) 2 2))] s7 _ from After_c s7 [1,255] (by decide) _ 2 H7) fun v s8 hle8 ⟨bo,bc,hv,_⟩=>⟨.a (.v (.slice bo 1 bc)),trivial,(by rw [hv];rfl),?_⟩
  refine oj_run TT rfl ?_
  (repeat (first | refine oj_then ?_ | refine cj_ret ?_))
  refine nj_ret TT rfl fun β w' _ _=>?_
  rfl
end Go.Sy
namespace Go.Sy
open Go.Proofs
theorem u8_front {σ:Snap} {ao:Option Addr} {cap n:Nat} {l:List UInt8} (H:SlAt σ ao n cap 1 (u8Rows l)) {k:Nat} (hk:k<=n):SlAt σ ao k cap 1 (u8Rows (l.take k)):=by
  have hn:l.length=n:=by rw [<-H.len,u8Rows_len]
  refine ⟨by rw [u8Rows_len,List.length_take];omega,Nat.le_trans hk H.ncap,fun r hr=>⟨(u8Rows_all _ r hr).1,(u8Rows_all _ r hr).2.1⟩,?_⟩
  rcases H.at_ with h1 | ⟨ad,h1,h2⟩
  · exact .inl (by omega)
  · refine .inr ⟨ad,h1,fun i r j cc hr hcc=>h2 i r j cc ?_ hcc⟩
    unfold u8Rows at hr ⊢
    rw [List.map_take,List.getElem?_take] at hr
    split at hr
    · exact hr
    · cases hr
end Go.Sy
/- Calls of what has no body. No program in sight. -/
namespace Go.Sy
theorem callee_run {cf:Cf} {env:Env} {β:Nat->Addr} {a:Act} {w:World} (ha:StA cf env β a) {o:Oper} {f:FuncId} {ys:List SV} {v:Value} (h:callee env o.op=some (f,ys))
    (hcall:(callFunc f (ys.map (SV.den β)).toArray).run cf.P w=.ok (.value v) w):(execOp a.eval o).run cf.P w=.ok (.value v) w:=by
  unfold callee at h
  split at h
  · rename_i c hop
    split at h
    · rename_i fo hcal
      split at h
      · rename_i g cap zs hf hz
        injection h with h
        simp only [Prod.mk.injEq] at h
        obtain ⟨rfl,rfl⟩:=h
        have h1:a.eval fo=.func (.func g) #[] (cap.map (PT.den β)).toArray:=evalO_eval ha hf
        have h2:c.args.map a.eval=(zs.map (SV.den β)).toArray:=by
          have:=evalL_ok ha _ _ hz
          rw [<-this,<-Array.toList_map]
        have h3:(zs.map (SV.den β)).toArray++(cap.map (PT.den β)).toArray=((zs++cap.map ptSV).map (SV.den β)).toArray:=by
          have:cap.map (SV.den β ∘ ptSV)=cap.map (PT.den β):=List.map_congr_left fun p _=>ptSV_den β p
          rw [List.map_append,List.map_map,this]
          exact List.append_toArray _ _
        simp only [execOp,hop,resolve,hcal,h1,h2,Deferred.ofValue,Sem.run_bind,Sem.run_pure,Result.andThen_ok,invoke,Array.empty_append,h3,hcall]
      · cases h
    · cases h
  · cases h
section
variable {cf:Cf} {Q:Exit->Act->World->Prop} {σ:Snap} {env:Env} {hp:HP} {A:List AE} {nh:Nat} {it:Item} {rest:List Item}
theorem oj_extern {d:Nat} {f:FuncId} {ys:List SV} (y:SV) (hc:callee env it.o.op=some (f,ys)) (hd:it.o.dst=some d) (hg:guardVal it.guard env=some true) (hN:Nat.blt d cf.N=true) (htag:(match it.tag with | .pure=>false | _=>true)=true) (hy:y.lt nh)
    (hrun:∀ (β:Nat->Addr) (w:World),StW cf σ hp A β w->(callFunc f (ys.map (SV.den β)).toArray).run cf.P w=.ok (Next.value (y.den β)) w)
    (k:OJ cf rest Q σ ((d,y)::env) hp A nh):OJ cf (it::rest) Q σ env hp A nh :=
  oj_valW y hd hg hN hy htag (fun _ _ β ha w hw=>callee_run ha hc (hrun β w hw)) k
theorem oj_indexByte {d:Nat} {f:FuncId} {fn:Func} {ao:Option Addr} {n cap:Nat} {c:UInt8} {l:List UInt8} (hc:callee env it.o.op=some (f,[.a (.v (.slice ao n cap)),.a (.v (.int .u8 c.toNat))])) (hd:it.o.dst=some d) (hg:guardVal it.guard env=some true) (hN:Nat.blt d cf.N=true) (htag:(match it.tag with | .pure=>false | _=>true)=true)
    (hf : cf.P.funcs[f]? = some fn) (h1 : (fn.name == "runtime.NumGoroutine") = false) (h2 : fn.body.isNone = true) (h3 : Extern.findNext fn = none) (h4 : Extern.find fn = some Extern.BytealgIndexByte.indexByte)
    (H:SlAt σ ao n cap 1 (u8Rows l)) (k:OJ cf rest Q σ ((d,.a (.v (.int .i64 (Lib.indexByte l c))))::env) hp A nh):OJ cf (it::rest) Q σ env hp A nh:=by
  refine oj_extern (.a (.v (.int .i64 (Lib.indexByte l c)))) hc hd hg hN htag trivial (fun β w hw=>?_) k
  have hn:l.length=n:=by rw [<-H.len,u8Rows_len]
  rw [run_callFunc_extern hf h1 h2 h3 h4]
  show ((Extern.BytealgIndexByte.indexByte #[.slice ao n cap,.int .u8 c.toNat]).run cf.P w).andThen _=.ok (Next.value (.int .i64 (Lib.indexByte l c))) w
  have hcn:((c.toNat:Int)).toNat.toUInt8=c:=by
    show UInt8.ofNat ((c.toNat:Int)).toNat=c
    rw [Int.toNat_natCast]
    simp
  rcases H.at_ with h0 | ⟨ad,rfl,h⟩
  · have hl:l=[]:=List.eq_nil_of_length_eq_zero (by omega)
    subst hl
    cases ao with
    | none=>rw [Lib.run_indexByteNil];rfl
    | some ad =>
      have h5:(Extern.BytealgIndexByte.indexByte #[.slice (some ad) n cap,.int .u8 c.toNat]).run cf.P w=.ok (.int .i64 (-1)) w:=by
        subst h0
        have:=Lib.run_indexByteNil (P:=cf.P) (w:=w) 0 cap (c.toNat:Int)
        exact this
      rw [h5]
      rfl
  · by_cases h0:n=0
    · have hl:l=[]:=List.eq_nil_of_length_eq_zero (by omega)
      subst hl
      have h5:(Extern.BytealgIndexByte.indexByte #[.slice (some ad) n cap,.int .u8 c.toNat]).run cf.P w=.ok (.int .i64 (-1)) w:=by
        subst h0
        have:=Lib.run_indexByteNil (P:=cf.P) (w:=w) 0 cap (c.toNat:Int)
        exact this
      rw [h5]
      rfl
    have hcell:∀ i u,l[i]?=some u->w.cell? (ad.add i)=some (.int .u8 u.toNat):=fun i u hu=>by
      have:=Snap.cell_sealed hw (h i _ 0 _ (u8Rows_get hu) rfl)
      rw [Nat.mul_one,Nat.add_zero] at this
      exact this
    have hsp:ad.spot=none:=by
      have h6:=hcell 0 l[0] (List.getElem?_eq_getElem (by omega))
      have e:ad.add 0=ad:=by simp [Addr.add]
      rw [e] at h6
      unfold World.cell? at h6
      cases hs:ad.spot with
      | none=>rfl
      | some q =>
        rw [hs] at h6
        split at h6
        · simp at h6
        · cases h6
    obtain ⟨b,off,sp⟩:=ad
    dsimp only at hsp
    subst hsp
    have h7:=Lib.run_indexByteSlice (P:=cf.P) (w:=w) b off n cap (l.map fun u=>(u.toNat:Int)) (by rw [List.length_map,hn]) (fun i hi=>by
      have h8:=hcell i l[i] (List.getElem?_eq_getElem (by omega))
      rw [Addr.add_lit] at h8
      rw [h8,List.getD_eq_getElem?_getD,List.getElem?_map,List.getElem?_eq_getElem (by omega)]
      rfl) (c.toNat:Int)
    have h9:Lib.bytesOf (l.map fun u=>(u.toNat:Int))=l:=by
      unfold Lib.bytesOf
      rw [List.map_map]
      conv=>rhs;rw [<-List.map_id l]
      exact List.map_congr_left fun u _=>by simp
    rw [h7,h9,hcn]
    rfl
end
end Go.Sy
namespace Go.Sy
open Go.Proofs
def dropA (ad:Addr) (cap k:Nat):Addr:=if cap=k then ad else ad.add (k*1)
theorem u8_sub {σ:Snap} {ad:Addr} {n cap:Nat} {l:List UInt8} (H:SlAt σ (some ad) n cap 1 (u8Rows l)) {lo hi:Nat} (h1:lo<=hi) (h2:hi<=n):SlAt σ (some (dropA ad cap lo)) (hi - lo) (cap - lo) 1 (u8Rows ((l.take hi).drop lo)):=by
  have h:=H.sub h1 h2
  have e1:(if cap=lo then some ad else (some ad).map (·.add (lo*1)))=some (dropA ad cap lo):=by unfold dropA;split<;>rfl
  have e2:((u8Rows l).take hi).drop lo=u8Rows ((l.take hi).drop lo):=by unfold u8Rows;rw [List.map_drop,List.map_take]
  rw [e1,e2] at h
  exact h
theorem u8_drop {σ:Snap} {ad:Addr} {n cap:Nat} {l:List UInt8} (H:SlAt σ (some ad) n cap 1 (u8Rows l)) {k:Nat} (h:k<=n):SlAt σ (some (dropA ad cap k)) (n - k) (cap - k) 1 (u8Rows (l.drop k)):=by
  have hn:l.length=n:=by rw [<-H.len,u8Rows_len]
  have:=u8_sub H h (Nat.le_refl n)
  rw [List.take_of_length_le (by omega)] at this
  exact this
theorem SlAt.at0 {σ:Snap} {ao:Option Addr} {n cap sz:Nat} {rows:List (List AT)} (H:SlAt σ ao n cap sz rows) (h:0<n):∃ ad,ao=some ad:=by
  rcases H.at_ with h0 | ⟨ad,h1,_⟩
  · omega
  · exact ⟨ad,h1⟩
section
variable {cf:Cf} {Q:Exit->Act->World->Prop} {σ:Snap} {env:Env} {hp:HP} {A:List AE} {nh:Nat} {it:Item} {rest:List Item}
theorem oj_from {d:Nat} {x lo:Operand} {t e:TypeId} {T:List (Nat×TI)} (hT:TTok cf.P T) {ti te:TI} {ad:Addr} {n cap:Nat} {kk:IntKind} {m:Int} (l:Nat) (hop:it.o.op=.slice t x (some lo) none none) (hd:it.o.dst=some d)
    (hg:guardVal it.guard env=some true) (hN:Nat.blt d cf.N=true) (hx:evalO env x=some (.a (.v (.slice (some ad) n cap)))) (hlo:evalO env lo=some (.a (.v (.int kk m))))
    (ht:tget T t=some ti) (hkd:ti.kind=.slice e) (hte:tget T e=some te) (hs1:te.size=1) (hm:m=(l:Int)) (hl:l<=n) (hnc:n<=cap)
    (k:OJ cf rest Q σ ((d,.a (.v (.slice (some (dropA ad cap l)) (n - l) (cap - l))))::env) hp A nh):OJ cf (it::rest) Q σ env hp A nh:=by
  refine oj_slice (vl:=some (.int kk m)) (vh:=none) hT l n hop hd hg hN hx (by simp [optV,hlo]) rfl ht hkd hte (.inr ⟨kk,m,rfl,hm⟩) (.inl ⟨rfl,rfl⟩) hl hnc hnc ?_
  have e1:(if cap=l then some ad else (some ad).map (·.add (l*te.size)))=some (dropA ad cap l):=by unfold dropA;rw [hs1];split<;>rfl
  rw [e1]
  exact k
theorem oj_fromTo {d:Nat} {x lo hi:Operand} {t e:TypeId} {T:List (Nat×TI)} (hT:TTok cf.P T) {ti te:TI} {ad:Addr} {n cap:Nat} {kk k2:IntKind} {m m2:Int} (l h:Nat) (hop:it.o.op=.slice t x (some lo) (some hi) none) (hd:it.o.dst=some d)
    (hg:guardVal it.guard env=some true) (hN:Nat.blt d cf.N=true) (hx:evalO env x=some (.a (.v (.slice (some ad) n cap)))) (hlo:evalO env lo=some (.a (.v (.int kk m)))) (hhi:evalO env hi=some (.a (.v (.int k2 m2))))
    (ht:tget T t=some ti) (hkd:ti.kind=.slice e) (hte:tget T e=some te) (hs1:te.size=1) (hm:m=(l:Int)) (hm2:m2=(h:Int)) (hl:l<=h) (hh:h<=cap) (hnc:n<=cap)
    (k:OJ cf rest Q σ ((d,.a (.v (.slice (some (dropA ad cap l)) (h - l) (cap - l))))::env) hp A nh):OJ cf (it::rest) Q σ env hp A nh:=by
  refine oj_slice (vl:=some (.int kk m)) (vh:=some (.int k2 m2)) hT l h hop hd hg hN hx (by simp [optV,hlo]) (by simp [optV,hhi]) ht hkd hte (.inr ⟨kk,m,rfl,hm⟩) (.inr ⟨k2,m2,rfl,hm2⟩) hl hh hnc ?_
  have e1:(if cap=l then some ad else (some ad).map (·.add (l*te.size)))=some (dropA ad cap l):=by unfold dropA;rw [hs1];split<;>rfl
  rw [e1]
  exact k
end
set_option maxRecDepth 100000 in
set_option maxHeartbeats 1000000 in
theorem IndexByte_c (σ:Snap) (l:List UInt8) (n:Nat) (ao:Option Addr) (cap:Nat) (H:SlAt σ ao n cap 1 (u8Rows l)) :
    PlainS Tryd.prog 69 [.a (.v (.slice ao n cap)),.a (.v (.int .u8 0))] σ (fun v=>v=.int .i64 (Lib.indexByte l 0)):=by
  refine enter_p Tryd.func69 rfl rfl (by (repeat' (first | exact trivial | constructor))) fun w=>?_
  (repeat (first | refine cj_seq ?_ | refine cjr TT rfl ?_ | refine oj_then ?_))
  refine oj_indexByte (c:=0) (f:=81) (fn:=Tryd.f81) rfl rfl rfl rfl rfl Tryd.func81 (by kernel_rfl) (by kernel_rfl) (by kernel_rfl) (by kernel_rfl) H (oj_run TT rfl ?_)
  (repeat (first | refine oj_then ?_ | refine cj_ret ?_))
  refine nj_ret TT rfl fun β w' _ _=>?_
  rfl
structure MxS where
  i:Nat
  m:Nat
set_option maxRecDepth 100000 in
set_option maxHeartbeats 1000000 in
theorem Max_c (σ:Snap) (l:List UInt8) (h0:0<l.length) (hl:l.length<=1000000) (ao:Option Addr) (cap:Nat) (H:SlAt σ ao l.length cap 1 (u8Rows l)) :
    PlainS Tryd.prog 70 [.a (.v (.slice ao l.length cap))] σ (fun v=>∃ m:Nat,v=.int .u8 m/\(∀ c∈l,c.toNat<=m)/\∃ c∈l,c.toNat=m):=by
  have hx0:=List.getElem?_eq_getElem h0
  have hr0:=u8Rows_get hx0
  have ht1:l.take 1=[l[0]]:=by
    have:=List.take_succ_eq_append_getElem h0
    simpa using this
  refine enter_p Tryd.func70 rfl rfl (by (repeat' (first | exact trivial | constructor))) fun w=>?_
  (repeat (first | refine cj_seq ?_ | refine cjr TT rfl ?_ | refine oj_then ?_))
  refine cj_if rfl (fun h=>absurd (of_decide_eq_true (show decide ((l.length:Int)<1)=true from h)) (by omega)) (fun _=>?_)
  generalize l[0]=x0 at *
  (repeat (first | refine cj_seq ?_ | refine cjr TT rfl ?_ | refine cj_skip ?_ | refine nj_then ?_))
  refine oj_idx TT rfl rfl rfl rfl rfl rfl rfl rfl rfl H (by omega) (r:=[.v (.int .u8 x0.toNat)]) hr0 (oj_run TT rfl ?_)
  (repeat (first | refine cj_seq ?_ | refine cjr TT rfl ?_ | refine oj_then ?_ | refine cj_block ?_))
  refine cj_loop (fun (_:MxS)=>σ) (fun t=>[(0,.a (.v (.slice ao l.length cap))),(3,.a (.v (.int .u8 (t.m:Nat)))),(4,.a (.v (.int .i64 (t.i:Nat))))]) (fun _=>[]) (fun _=>[]) 0
    (fun t=>t.i<=l.length/\(∀ c∈l.take t.i,c.toNat<=t.m)/\∃ c∈l.take t.i,c.toNat=t.m) (fun t=>l.length - t.i) ⟨1,x0.toNat⟩ ⟨h0,fun c hc=>(by dsimp only at hc;rw [ht1,List.mem_singleton] at hc;subst hc;exact Nat.le_refl _),x0,(by dsimp only;rw [ht1];exact List.mem_singleton.2 rfl),rfl⟩ rfl (by (repeat first | exact trivial | refine ⟨rfl,?_⟩)) (by (repeat first | exact trivial | refine ⟨rfl,?_⟩)) rfl (by (repeat' (first | exact trivial | constructor))) (by (repeat' exact trivial)) fun ⟨i,m⟩ ⟨hi,hm1,hm2⟩=>?_
  dsimp only at hi hm1 hm2 ⊢
  (repeat (first | refine cj_seq ?_ | refine cjr TT rfl ?_ | refine oj_then ?_))
  refine cj_if rfl (fun h=>?_) (fun h=>?_)
  rotate_left
  · have hi0:i=l.length:=by have:=of_decide_eq_false h;omega
    rw [hi0,List.take_length] at hm1 hm2
    (repeat (first | refine cj_seq ?_ | refine cjr TT rfl ?_ | refine oj_then ?_ | refine cj_exit ?_ | refine cj_ret ?_ | refine nj_then ?_ | refine nj_then_exit ?_ | refine nj_block_out ?_))
    refine nj_ret TT rfl fun β w' _ _=>?_
    exact ⟨m,rfl,hm1,hm2⟩
  have hil:i<l.length:=by have:=of_decide_eq_true h;omega
  have hx:=List.getElem?_eq_getElem hil
  have hrow:=u8Rows_get hx
  have htk:l.take (i+1)=l.take i++[l[i]]:=List.take_succ_eq_append_getElem hil
  generalize l[i]=x at *
  (repeat (first | refine cj_seq ?_ | refine cjr TT rfl ?_ | refine cj_skip ?_ | refine cj_block ?_ | refine nj_then ?_))
  refine oj_idx TT rfl rfl rfl rfl rfl rfl rfl rfl rfl H (by omega) hrow (oj_run TT rfl ?_)
  refine oj_max rfl rfl rfl rfl rfl rfl ?_
  have emx:max (m:Int) (x.toNat:Int)=((max m x.toNat:Nat):Int):=by omega
  rw [emx]
  refine oj_run TT rfl ?_
  (repeat (first | refine cjr TT rfl ?_ | refine oj_nil ?_ | refine nj_then ?_ | refine nj_block ?_ | (refine oj_add rfl rfl rfl rfl rfl rfl (by omega) ?_;refine oj_run TT rfl ?_)))
  refine nj_again (⟨i+1,max m x.toNat⟩:MxS) ⟨hil,fun c hc=>?_,?_⟩ (by dsimp only;omega) rfl (by (repeat first | exact trivial | refine ⟨rfl,?_⟩)) (by (repeat first | exact trivial | refine ⟨rfl,?_⟩)) rfl (by (repeat' (first | exact trivial | constructor))) (by (repeat' exact trivial))
  · dsimp only at hc ⊢
    rw [htk] at hc
    rcases List.mem_append.1 hc with hc | hc
    · have:=hm1 c hc
      omega
    · rw [List.mem_singleton] at hc
      subst hc
      omega
  · dsimp only
    rw [htk]
    obtain ⟨c,hc,e⟩:=hm2
    by_cases h:m<=x.toNat
    · exact ⟨x,List.mem_append.2 (.inr (List.mem_singleton.2 rfl)),by omega⟩
    · exact ⟨c,List.mem_append.2 (.inl hc),by omega⟩
def FirstOk (σ:Snap) (res:Option (GPart×List UInt8)) (v:Value):Prop :=
  match res with
  | none=>v=.tuple #[.agg (paVals part0),.slice none 0 0]
  | some (p,r)=>∃ ad rc,v=.tuple #[.agg (paVals p),.slice (some ad) r.length rc]/\SlAt σ (some ad) r.length rc 1 (u8Rows r)
def zeroP:List AT:=[.v (.int .i64 0),.ff,.ff,.v (.string ⟨#[]⟩),.v (.int .i64 0),.v (.string ⟨#[]⟩),.v (.int .i64 0)]
def numP (p:GDec×List UInt8):GPart×List UInt8:=(⟨2,false,p.1,emptyB,0⟩,p.2)
theorem FirstOk.of {σ:Snap} {p:GPart} {r:List UInt8} {ad:Addr} {n rc:Nat} (H:SlAt σ (some ad) n rc 1 (u8Rows r)):FirstOk σ (some (p,r)) (.tuple #[.agg (paVals p),.slice (some ad) n rc]):=by
  have hn:r.length=n:=by rw [<-H.len,u8Rows_len]
  subst hn
  exact ⟨ad,rc,rfl,H⟩
theorem num_short {b:List UInt8} {neg:Bool} (h:b.length<3):numberG b neg=none:=by
  unfold numberG
  have hl:(if neg then turnG b else b).length<3:=by split<;>simp [turnG_len,h]
  split
  · rename_i x y s e
    rw [e] at hl
    cases s with
    | nil=>rfl
    | cons c s=>simp at hl;omega
  · rfl
theorem num_noz {b:List UInt8} {neg:Bool} {x y:UInt8} {s:List UInt8} (h:(if neg then turnG b else b)=x::y::s) (hz:∀ c∈s,c≠0):numberG b neg=none:=by
  unfold numberG
  rw [h]
  dsimp only
  rw [zsplit_none.2 hz]
theorem num_z {b:List UInt8} {neg:Bool} {x y:UInt8} {ds t:List UInt8} (h:(if neg then turnG b else b)=x::y::(ds++0::t)) (hz:∀ c∈ds,c≠0) :
    numberG b neg=if ds=[]\/(ds.any fun c=>decide (10<c))=true\/decSane (decOf neg x y ds)=false then none else some (decOf neg x y ds,b.drop (3+ds.length)):=by
  unfold numberG
  rw [h]
  dsimp only
  rw [zsplit_of _ _ hz]
theorem wrap8_fig:∀ c:UInt8,IntKind.u8.wrap ((48:Int)+c.toNat)=((48+c).toNat:Int):=all8 (by decide +kernel)
theorem wrap8_dec:∀ c:UInt8,IntKind.u8.wrap ((c.toNat:Int) - 1)=((c - 1).toNat:Int):=all8 (by decide +kernel)
theorem shl64:∀ c:UInt8,bShl .i64 (c.toNat:Int) 8=(c.toNat:Int)*256:=all8 (by decide +kernel)
structure NuS where
  s:Snap
  so:Option Addr
  sc:Nat
set_option maxRecDepth 100000 in
set_option maxHeartbeats 4000000 in
theorem number_c (σ:Snap) (b:List UInt8) (hb:b.length<=1000000) (ao:Option Addr) (cap:Nat) (H:SlAt σ ao b.length cap 1 (u8Rows b)) (neg:Bool) :
    PureS Tryd.prog 50 [.a (.v (.slice ao b.length cap)),.a (.b neg)] σ (fun v σ'=>FirstOk σ' ((numberG b neg).map numP) v):=by
  refine enter_s Tryd.func50 rfl rfl (by (repeat' (first | exact trivial | constructor))) fun w=>?_
  (repeat (first | refine cj_seq ?_ | refine cjr TT rfl ?_ | refine oj_then ?_))
  refine cj_cutN (fun (t:NuS)=>t.s) (fun t=>[(0,.a (.v (.slice ao b.length cap))),(1,.a (.b neg)),(4,.a (.p 0 0)),(5,.a (.v (.slice none 0 0))),(6,.a (.v (.slice t.so b.length t.sc)))]) (fun _=>[(0,.loc 49,zeroP)]) (fun _=>[]) 1
    (fun t=>σ.le t.s/\SlAt t.s t.so b.length t.sc 1 (u8Rows (if neg then turnG b else b))) ?_ (fun ⟨s,so,sc⟩ ⟨hle,HS⟩=>?_)
  · refine cj_if rfl (fun h=>?_) (fun h=>?_)
    · have h:neg=true:=h
      subst h
      (repeat refine cjr TT rfl ?_)
      refine oj_callS rfl rfl rfl rfl rfl Tryd.call35 ⟨trivial,trivial⟩ (turned_c σ b hb ao cap H) fun v s1 hle1 ⟨bo,bc,hv,HT⟩=>⟨.a (.v (.slice bo b.length bc)),trivial,hv.symm,?_⟩
      refine oj_run TT rfl ?_
      (repeat refine oj_nil ?_)
      refine nj_again (⟨s1,bo,bc⟩:NuS) ⟨hle1,HT⟩ Nat.zero_lt_one rfl (by (repeat first | exact trivial | refine ⟨rfl,?_⟩)) (by (repeat first | exact trivial | refine ⟨rfl,?_⟩)) rfl (by (repeat' (first | exact trivial | exact Nat.le_of_ble_eq_true rfl | constructor))) (by (repeat' (first | exact trivial | exact Nat.le_of_ble_eq_true rfl | refine AllLt.of ?_ | constructor)))
    · have h:neg=false:=h
      subst h
      (repeat refine cj_skip ?_)
      refine nj_again (⟨σ,ao,cap⟩:NuS) ⟨Snap.le_refl _,H⟩ Nat.zero_lt_one rfl (by (repeat first | exact trivial | refine ⟨rfl,?_⟩)) (by (repeat first | exact trivial | refine ⟨rfl,?_⟩)) rfl (by (repeat' (first | exact trivial | exact Nat.le_of_ble_eq_true rfl | constructor))) (by (repeat' (first | exact trivial | exact Nat.le_of_ble_eq_true rfl | refine AllLt.of ?_ | constructor)))
  dsimp only at hle HS ⊢
  have H:=H.mono hle
  (repeat (first | refine cj_seq ?_ | refine cjr TT rfl ?_ | refine oj_then ?_))
  refine cj_if rfl (fun h=>?_) (fun h=>?_)
  · have h:=of_decide_eq_true (show decide ((b.length:Int)<3)=true from h)
    rw [num_short (by omega)]
    (repeat (first | refine cj_seq ?_ | refine cjr TT rfl ?_ | refine oj_then ?_ | refine cj_ret ?_ | refine nj_then_ret ?_))
    refine nj_ret TT rfl fun β w' _ _=>?_
    rfl
  have h3:3<=b.length:=by have:=of_decide_eq_false (show decide ((b.length:Int)<3)=false from h);omega
  obtain ⟨sa,rfl⟩:=HS.at0 (by omega)
  obtain ⟨ba,rfl⟩:=H.at0 (by omega)
  have hSl:(if neg then turnG b else b).length=b.length:=by split<;>simp [turnG_len]
  obtain ⟨x,y,s',hS⟩:∃ x y s',(if neg then turnG b else b)=x::y::s':=by
    match hm:(if neg then turnG b else b) with
    | []=>rw [hm] at hSl;simp at hSl;omega
    | [_]=>rw [hm] at hSl;simp at hSl;omega
    | x::y::s'=>exact ⟨x,y,s',rfl⟩
  rw [hS] at HS hSl
  have hbl:b.length=s'.length+2:=by rw [<-hSl];rfl
  have H2:=u8_drop HS (k:=2) (by omega)
  have e2:(x::y::s').drop 2=s':=rfl
  rw [e2] at H2
  (repeat (first | refine cj_seq ?_ | refine cjr TT rfl ?_ | refine cj_skip ?_ | refine nj_then ?_))
  refine oj_from TT 2 rfl rfl rfl rfl rfl rfl rfl rfl rfl rfl rfl (by omega) HS.ncap (oj_run TT rfl ?_)
  refine oj_callP rfl rfl rfl rfl rfl Tryd.call69 (by (repeat' (first | exact trivial | constructor))) (IndexByte_c s s' (b.length - 2) _ _ H2) fun v hv=>⟨.a (.v (.int .i64 (Lib.indexByte s' 0))),trivial,hv.symm,?_⟩
  refine oj_run TT rfl ?_
  (repeat (first | refine cj_seq ?_ | refine cjr TT rfl ?_ | refine oj_then ?_))
  rcases idx_split s' with ⟨hi,hz⟩ | ⟨ds,t,hst,hz,hi⟩
  · rw [Lib.index_one] at hi
    rw [hi,num_noz hS hz]
    refine oj_split 24 rfl (fun _=>?_) (fun h=>absurd (show decide ((-1:Int)<1)=false from h) (by decide))
    refine oj_run TT rfl ?_
    (repeat (first | refine cj_seq ?_ | refine cjr TT rfl ?_ | refine oj_then ?_ | refine cj_if_t rfl ?_ | refine cj_ret ?_ | refine nj_then_ret ?_))
    refine nj_ret TT rfl fun β w' _ _=>?_
    rfl
  rw [Lib.index_one] at hi
  rw [hst] at hS HS hbl
  rw [num_z hS hz,hi]
  refine oj_split 24 rfl (fun h=>?_) (fun h=>?_)
  · have h:=of_decide_eq_true (show decide ((ds.length:Int)<1)=true from h)
    rw [if_pos (.inl (List.eq_nil_of_length_eq_zero (by omega)))]
    refine oj_run TT rfl ?_
    (repeat (first | refine cj_seq ?_ | refine cjr TT rfl ?_ | refine oj_then ?_ | refine cj_if_t rfl ?_ | refine cj_ret ?_ | refine nj_then_ret ?_))
    refine nj_ret TT rfl fun β w' _ _=>?_
    rfl
  have hds:0<ds.length:=by have:=of_decide_eq_false (show decide ((ds.length:Int)<1)=false from h);omega
  have hdn:ds≠[]:=fun e=>by rw [e] at hds;exact absurd hds (by decide)
  have hlen:s'.length=ds.length+t.length+1:=by rw [hst,List.length_append,List.length_cons];omega
  rw [<-hst] at hbl
  have e3:((x::y::(ds++0::t)).take (2+ds.length)).drop 2=ds:=by
    rw [Nat.add_comm]
    show (ds++0::t).take ds.length=ds
    exact List.take_left
  have HM:=u8_sub HS (lo:=2) (hi:=2+ds.length) (by omega) (by omega)
  rw [e3,show 2+ds.length - 2=ds.length by omega] at HM
  have hnc:=HS.ncap
  refine oj_run TT rfl ?_
  refine oj_add rfl rfl rfl rfl rfl rfl (by omega) (oj_run TT rfl ?_)
  refine oj_fromTo TT 2 (2+ds.length) rfl rfl rfl rfl rfl rfl rfl rfl rfl rfl rfl rfl (by omega) (by omega) (by omega) HS.ncap ?_
  rw [show 2+ds.length - 2=ds.length by omega]
  refine oj_run TT rfl ?_
  refine oj_callP rfl rfl rfl rfl rfl Tryd.call70 (by (repeat' (first | exact trivial | constructor))) (Max_c s ds hds (by omega) _ _ HM) fun v ⟨mx,hv,hm1,hm2⟩=>⟨.a (.v (.int .u8 (mx:Nat))),trivial,hv.symm,?_⟩
  refine oj_run TT rfl ?_
  (repeat refine oj_then ?_)
  refine cj_if rfl (fun h=>?_) (fun h=>?_)
  · have h:=of_decide_eq_true (show decide ((10:Int)<mx)=true from h)
    obtain ⟨c,hc,e⟩:=hm2
    rw [if_pos (.inr (.inl (List.any_eq_true.2 ⟨c,hc,by rw [decide_eq_true_eq,UInt8.lt_iff_toNat_lt];show 10<c.toNat;omega⟩)))]
    (repeat (first | refine cj_seq ?_ | refine cjr TT rfl ?_ | refine oj_then ?_ | refine cj_ret ?_ | refine nj_then_ret ?_))
    refine nj_ret TT rfl fun β w' _ _=>?_
    rfl
  have h10:mx<=10:=by have:=of_decide_eq_false (show decide ((10:Int)<mx)=false from h);omega
  have hany:(ds.any fun c=>decide (10<c))=false:=any_false_of fun c hc=>by
    rw [UInt8.le_iff_toNat_le]
    have:=hm1 c hc
    show c.toNat<=10
    omega
  have hcond:(ds=[]\/(ds.any fun c=>decide (10<c))=true\/decSane (decOf neg x y ds)=false)↔decSane (decOf neg x y ds)=false:=by
    rw [hany]
    exact ⟨fun h=>(h.resolve_left hdn).resolve_left (fun h=>by cases h),fun h=>.inr (.inr h)⟩
  simp only [hcond]
  (repeat (first | refine cj_seq ?_ | refine cjr TT rfl ?_ | refine cj_skip ?_ | refine nj_then ?_))
  refine oj_makeSliceN (n:=ds.length) TT _ rfl rfl rfl rfl rfl rfl rfl rfl rfl rfl (by show ds.length*1<=_;omega) (by omega) (madeCells_rep [.int .u8 0] ds.length) fun g=>?_
  rw [u8Xs_zeros]
  refine oj_run TT rfl ?_
  (repeat (first | refine cj_seq ?_ | refine cjr TT rfl ?_ | refine oj_then ?_ | refine cj_block ?_))
  refine cj_loop (fun (_:Nat)=>s) (fun k=>[(0,.a (.v (.slice (some ba) b.length cap))),(1,.a (.b neg)),(4,.a (.p 0 0)),(5,.a (.v (.slice none 0 0))),(6,.a (.v (.slice (some sa) b.length sc))),(7,.a (.v (.int .i64 ds.length))),(8,.a (.v (.slice (some ⟨g,0,none⟩) ds.length ds.length))),(36,.a (.v (.int .i64 ds.length))),(37,.a (.v (.int .i64 (k:Nat))))])
    (fun _=>[(0,.loc 49,zeroP)]) (fun k=>[⟨some ⟨g,0,none⟩,ds.length,ds.length,5,1,u8Xs (fillK (ds.map fun c=>48+c - 1) k)⟩]) 1
    (fun k=>k<=ds.length) (fun k=>ds.length - k) 0 (Nat.zero_le _) rfl (by (repeat first | exact trivial | refine ⟨rfl,?_⟩)) (by (repeat first | exact trivial | refine ⟨rfl,?_⟩)) (by unfold fillK;rw [List.length_map];rfl) (by (repeat' (first | exact trivial | exact Nat.le_of_ble_eq_true rfl | constructor))) (by (repeat' (first | exact trivial | exact Nat.le_of_ble_eq_true rfl | refine AllLt.of ?_ | constructor))) fun k hk=>?_
  (repeat (first | refine cj_seq ?_ | refine cjr TT rfl ?_ | refine oj_then ?_))
  refine cj_if rfl (fun h=>?_) (fun h=>?_)
  · have hkl:k<ds.length:=by have:=of_decide_eq_true h;omega
    have hx:=List.getElem?_eq_getElem hkl
    have hmx:(ds.map fun c=>48+c - 1)[k]?=some (48+ds[k] - 1):=by rw [List.getElem?_map,hx];rfl
    have hset:=fillK_set hmx
    have hrow:∀ z:Int,z=2+(k:Int)->(u8Rows (x::y::(ds++0::t)))[z.toNat]?=some [.v (.int .u8 ds[k].toNat)]:=fun z hz=>by
      rw [hz,show (2+(k:Int)).toNat=k+2 by omega]
      refine u8Rows_get ?_
      show (ds++0::t)[k]?=_
      rw [List.getElem?_append_left hkl]
      exact hx
    generalize ds[k]=c at *
    (repeat (first | refine cj_seq ?_ | refine cjr TT rfl ?_ | refine oj_then ?_ | refine cj_skip ?_ | refine cj_block ?_ | refine nj_then ?_ | (refine oj_add rfl rfl rfl rfl rfl rfl (by omega) ?_;refine oj_run TT rfl ?_)))
    refine oj_idx TT rfl rfl rfl rfl rfl rfl rfl rfl rfl HS (by omega) (hrow _ rfl) (oj_run TT rfl ?_)
    refine oj_arith ((48+c).toNat:Int) rfl rfl rfl rfl rfl rfl (run_add (wrap8_fig c)) (oj_run TT rfl ?_)
    refine oj_arith ((48+c - 1).toNat:Int) rfl rfl rfl rfl rfl rfl (run_sub (wrap8_dec (48+c))) (oj_run TT rfl ?_)
    refine oj_indexAddr TT rfl rfl rfl rfl rfl rfl rfl rfl rfl ⟨by omega,by omega⟩ (oj_run TT rfl ?_)
    refine oj_stA 0 (off:=k) (A':=[⟨some ⟨g,0,none⟩,ds.length,ds.length,5,1,u8Xs (fillK (ds.map fun c=>48+c - 1) (k+1))⟩]) (c:=.v (.int .u8 ((48+c - 1).toNat:Int))) TT rfl rfl rfl rfl (by rw [add0];show some (SV.a (AT.v (.pointer (some ⟨g,((k:Nat):Int).toNat*1,none⟩))))=_;rw [Nat.mul_one];rfl) rfl rfl rfl rfl rfl (by show k<ds.length*1;omega) trivial rfl (by rw [<-hset,<-u8Xs_set];rfl) (oj_run TT rfl ?_)
    (repeat (first | refine cjr TT rfl ?_ | refine oj_nil ?_ | refine nj_then ?_ | refine nj_block ?_ | (refine oj_add rfl rfl rfl rfl rfl rfl (by omega) ?_;refine oj_run TT rfl ?_)))
    refine nj_again (k+1) hkl (by omega) rfl (by (repeat first | exact trivial | refine ⟨rfl,?_⟩)) (by (repeat first | exact trivial | refine ⟨rfl,?_⟩)) rfl (by (repeat' (first | exact trivial | exact Nat.le_of_ble_eq_true rfl | constructor))) (by (repeat' (first | exact trivial | exact Nat.le_of_ble_eq_true rfl | refine AllLt.of ?_ | constructor)))
  have hk0:k=ds.length:=by have:=of_decide_eq_false h;omega
  have efill:fillK (ds.map fun c=>48+c - 1) k=ds.map fun c=>48+c - 1:=by
    have:=fillK_all (ds.map fun c=>48+c - 1)
    rw [List.length_map] at this
    rw [hk0]
    exact this
  rw [efill]
  have eA:(⟨some ⟨g,0,none⟩,ds.length,ds.length,5,1,u8Xs (ds.map fun c=>48+c - 1)⟩:AE)=u8E (some ⟨g,0,none⟩) ds.length (ds.map fun c=>48+c - 1):=by
    unfold u8E
    rw [List.length_map]
  rw [eA]
  have hx7:=x.toNat_lt
  have hy7:=y.toNat_lt
  (repeat (first | refine cj_seq ?_ | refine cj_exit ?_ | refine nj_then ?_ | refine nj_then_exit ?_ | refine nj_block_out ?_))
  refine cj_draw [(0,.pure),(1,.pure),(2,.quiet),(3,.pure),(4,.pure),(5,.quiet),(6,.pure),(7,.pure),(8,.pure),(9,.pure),(10,.quiet),(11,.pure),(12,.pure),(13,.pure),(14,.pure),(15,.pure),(16,.pure),(17,.keep),(18,.sink)] mixed (by kernel_rfl) (oj_run TT rfl ?_)
  refine oj_strOfA 0 TT rfl rfl rfl rfl rfl rfl rfl rfl rfl rfl rfl rfl rfl (by rw [List.length_map]) (oj_run TT rfl ?_)
  refine oj_idx TT rfl rfl rfl rfl rfl rfl rfl rfl rfl HS (by omega) (r:=[.v (.int .u8 x.toNat)]) rfl (oj_run TT rfl ?_)
  refine oj_conv TT (x.toNat:Int) rfl rfl rfl rfl rfl rfl rfl rfl (wrap64 x) (oj_run TT rfl ?_)
  refine oj_bshl rfl rfl rfl rfl rfl rfl (by decide) ?_
  rw [shl64 x]
  refine oj_run TT rfl ?_
  refine oj_idx TT rfl rfl rfl rfl rfl rfl rfl rfl rfl HS (by omega) (r:=[.v (.int .u8 y.toNat)]) rfl (oj_run TT rfl ?_)
  refine oj_conv TT (y.toNat:Int) rfl rfl rfl rfl rfl rfl rfl rfl (wrap64 y) (oj_run TT rfl ?_)
  refine oj_add rfl rfl rfl rfl rfl rfl (by omega) (oj_run TT rfl ?_)
  refine oj_minus rfl rfl rfl rfl rfl rfl (by omega) (oj_run TT rfl ?_)
  refine oj_minus rfl rfl rfl rfl rfl rfl (by omega) (oj_run TT rfl ?_)
  (repeat (first | refine cj_seq ?_ | refine cjr TT rfl ?_ | refine oj_then ?_))
  refine oj_callP rfl rfl rfl rfl rfl Tryd.call34 (by (repeat' (first | exact trivial | refine AllLt.of ?_ | constructor))) (decSane_c s (decOf neg x y ds) (by show (mkB _).size<=_;rw [mkB_size,List.length_map];unfold mostLen;omega)) fun v hv=>⟨.a (.b (decSane (decOf neg x y ds))),trivial,hv.symm,?_⟩
  refine oj_run TT rfl ?_
  (repeat refine oj_then ?_)
  refine cj_if rfl (fun h=>?_) (fun h=>?_)
  · have h:decSane (decOf neg x y ds)=false:=by simpa using h
    rw [if_pos h]
    (repeat (first | refine cj_seq ?_ | refine cjr TT rfl ?_ | refine oj_then ?_ | refine cj_ret ?_ | refine nj_then_ret ?_))
    refine nj_ret TT rfl fun β w' _ _=>?_
    rfl
  have h:decSane (decOf neg x y ds)=true:=by simpa using h
  rw [if_neg (by rw [h];decide)]
  have HB2:=u8_drop H (k:=3+ds.length) (by omega)
  (repeat (first | refine cj_seq ?_ | refine cj_skip ?_ | refine nj_then ?_))
  refine cj_draw [(0,.quiet),(1,.pure),(2,.pure),(3,.pure),(4,.pure),(5,.pure),(6,.sink),(7,.pure)] mixed (by kernel_rfl) (oj_run TT rfl ?_)
  refine oj_add rfl rfl rfl rfl rfl rfl (by omega) (oj_run TT rfl ?_)
  refine oj_from TT (3+ds.length) rfl rfl rfl rfl rfl rfl rfl rfl rfl rfl (by omega) (by omega) H.ncap (oj_run TT rfl ?_)
  (repeat (first | refine oj_then ?_ | refine cj_ret ?_))
  refine nj_ret TT rfl fun β w' _ _=>?_
  exact FirstOk.of (p:=⟨2,false,decOf neg x y ds,emptyB,0⟩) HB2
def txtP (p:List UInt8×List UInt8):GPart×List UInt8:=(⟨3,false,dec0,mkB p.1,0⟩,p.2)
theorem text_cons {c:UInt8} (h:c≠0):∀ (l:List UInt8),textG (c::l)=(textG l).map fun p=>(c::p.1,p.2)
  | []=>rfl
  | d::r=>by rw [textG,if_pos h]
theorem text_pre:∀ (a l:List UInt8),(∀ c∈a,c≠0)->textG (a++l)=(textG l).map fun p=>(a++p.1,p.2)
  | [],l,_=>by
    rw [List.nil_append]
    cases textG l<;>rfl
  | c::a,l,h=>by
    rw [List.cons_append,text_cons (h c List.mem_cons_self),text_pre a l fun x hx=>h x (List.mem_cons_of_mem c hx),Option.map_map]
    rfl
theorem text_none {l:List UInt8} (h:∀ c∈l,c≠0):textG l=none:=by
  have:=text_pre l [] h
  rw [List.append_nil] at this
  rw [this]
  rfl
theorem text_end {a:List UInt8} (h:∀ c∈a,c≠0):textG (a++[0])=none:=by rw [text_pre a [0] h];rfl
structure TxS where
  l:List UInt8
  ad:Addr
  cap:Nat
  out:List UInt8
  oo:Option Addr
  oc:Nat
set_option maxRecDepth 100000 in
set_option maxHeartbeats 4000000 in
theorem text_c (σ:Snap) (b:List UInt8) (hb:b.length<=1000000) (ba:Addr) (bc:Nat) (H:SlAt σ (some ba) b.length bc 1 (u8Rows b)) :
    PureS Tryd.prog 51 [.a (.v (.slice (some ba) b.length bc))] σ (fun v σ'=>FirstOk σ' ((textG b).map txtP) v):=by
  refine enter_s Tryd.func51 rfl rfl (by (repeat' (first | exact trivial | constructor))) fun w=>?_
  (repeat (first | refine cj_seq ?_ | refine cjr TT rfl ?_ | refine oj_then ?_ | refine cj_block ?_))
  refine cj_nilarr 5 1 ?_
  refine cj_loop (fun (_:TxS)=>σ) (fun t=>[(0,.a (.v (.slice (some t.ad) t.l.length t.cap))),(2,.a (.p 0 0)),(3,.a (.v (.slice none 0 0))),(4,.a (.v (.slice t.oo t.out.length t.oc)))]) (fun _=>[(0,.loc 49,zeroP)]) (fun t=>[u8E t.oo t.oc t.out]) 1
    (fun t=>SlAt σ (some t.ad) t.l.length t.cap 1 (u8Rows t.l)/\t.out.length<=t.oc/\textG b=((textG t.l).map fun p=>(t.out++p.1,p.2))/\t.out.length+t.l.length<=b.length) (fun t=>t.l.length) ⟨b,ba,bc,[],none,0⟩ ⟨H,Nat.le_refl _,(by cases textG b<;>rfl),(by show 0+b.length<=_;omega)⟩ rfl (by (repeat first | exact trivial | refine ⟨rfl,?_⟩)) (by (repeat first | exact trivial | refine ⟨rfl,?_⟩)) rfl (by (repeat' (first | exact trivial | exact Nat.le_of_ble_eq_true rfl | constructor))) (by (repeat' (first | exact trivial | exact Nat.le_of_ble_eq_true rfl | refine AllLt.of ?_ | constructor))) fun ⟨l,ad,cap,out,oo,oc⟩ ⟨HL,hoc,htx,hle⟩=>?_
  dsimp only at HL hoc htx hle ⊢
  (repeat (first | refine cj_seq ?_ | refine cjr TT rfl ?_ | refine cj_block ?_))
  refine oj_callP rfl rfl rfl rfl rfl Tryd.call69 (by (repeat' (first | exact trivial | constructor))) (IndexByte_c σ l l.length _ _ HL) fun v hv=>⟨.a (.v (.int .i64 (Lib.indexByte l 0))),trivial,hv.symm,?_⟩
  refine oj_run TT rfl ?_
  (repeat (first | refine cj_seq ?_ | refine cjr TT rfl ?_ | refine oj_then ?_))
  rcases idx_split l with ⟨hi,hz⟩ | ⟨a,r,rfl,hz,hi⟩
  · rw [Lib.index_one] at hi
    rw [hi]
    rw [text_none hz] at htx
    rw [htx]
    refine oj_split 11 rfl (fun _=>?_) (fun h=>absurd (show decide ((-1:Int)<0)=false from h) (by decide))
    refine oj_run TT rfl ?_
    (repeat (first | refine cj_seq ?_ | refine cjr TT rfl ?_ | refine oj_then ?_ | refine cj_if_t rfl ?_ | refine cj_ret ?_ | refine nj_then_ret ?_ | refine nj_block_ret ?_))
    refine nj_ret TT rfl fun β w' _ _=>?_
    rfl
  rw [Lib.index_one] at hi
  rw [hi]
  have hll:(a++0::r).length=a.length+r.length+1:=by rw [List.length_append,List.length_cons];omega
  rw [hll] at HL hle ⊢
  refine oj_split 11 rfl (fun h=>absurd (of_decide_eq_true (show decide ((a.length:Int)<0)=true from h)) (by omega)) (fun _=>?_)
  refine oj_run TT rfl ?_
  refine oj_add rfl rfl rfl rfl rfl rfl (by omega) (oj_run TT rfl ?_)
  (repeat refine oj_then ?_)
  refine cj_if rfl (fun h=>?_) (fun h=>?_)
  · have h:=of_decide_eq_true (show decide (((a.length+r.length+1:Nat):Int)<=(a.length:Int)+1)=true from h)
    have hr:r=[]:=List.eq_nil_of_length_eq_zero (by omega)
    subst hr
    rw [text_end hz] at htx
    rw [htx]
    (repeat (first | refine cj_seq ?_ | refine cjr TT rfl ?_ | refine oj_then ?_ | refine cj_ret ?_ | refine nj_then_ret ?_ | refine nj_block_ret ?_))
    refine nj_ret TT rfl fun β w' _ _=>?_
    rfl
  have h:=of_decide_eq_false (show decide (((a.length+r.length+1:Nat):Int)<=(a.length:Int)+1)=false from h)
  cases r with
  | nil=>exact absurd h (by simp)
  | cons d r =>
    rw [List.length_cons] at hll HL hle h ⊢
    have hF:=u8_front HL (k:=a.length) (by omega)
    rw [List.take_left] at hF
    have HR:=u8_drop HL (k:=a.length+2) (by omega)
    have e4:(a++0::d::r).drop (a.length+2)=r:=by
      rw [show a++0::d::r=(a++[0,d])++r by simp,show a.length+2=(a++[0,d]).length by simp]
      exact List.drop_left
    rw [e4,show a.length+(r.length+1)+1 - (a.length+2)=r.length by omega] at HR
    have hrow:∀ z:Int,z=(a.length:Int)+1->(u8Rows (a++0::d::r))[z.toNat]?=some [.v (.int .u8 d.toNat)]:=fun z hz=>by
      rw [hz,show ((a.length:Int)+1).toNat=a.length+1 by omega]
      refine u8Rows_get ?_
      rw [List.getElem?_append_right (by omega),show a.length+1 - a.length=1 by omega]
      rfl
    have hnc:=HL.ncap
    rw [text_pre a _ hz] at htx
    (repeat (first | refine cj_seq ?_ | refine cjr TT rfl ?_ | refine cj_skip ?_ | refine nj_then ?_))
    refine oj_slice_to TT a.length rfl rfl rfl rfl rfl rfl rfl rfl rfl rfl (by omega) HL.ncap (oj_run TT rfl ?_)
    refine oj_append_sl TT 0 rfl rfl rfl rfl rfl rfl rfl hF rfl rfl rfl rfl rfl rfl rfl rfl rfl (fun r hr=>(u8Rows_all _ r hr).2.2) (by omega) (by show (out.length+a.length)*1<=_;omega) fun o1 c1 hc1=>oj_run TT rfl ?_
    (repeat (first | refine cj_seq ?_ | refine cjr TT rfl ?_ | refine oj_then ?_ | (refine oj_add rfl rfl rfl rfl rfl rfl (by omega) ?_;refine oj_run TT rfl ?_)))
    refine oj_idx TT rfl rfl rfl rfl rfl rfl rfl rfl rfl HL (by omega) (hrow _ rfl) (oj_run TT rfl ?_)
    (repeat (first | refine cj_seq ?_ | refine cjr TT rfl ?_ | refine oj_then ?_ | (refine oj_add rfl rfl rfl rfl rfl rfl (by omega) ?_;refine oj_run TT rfl ?_)))
    refine oj_from TT (a.length+2) rfl rfl rfl rfl rfl rfl rfl rfl rfl rfl (by omega) (by omega) HL.ncap ?_
    rw [show a.length+(r.length+1)+1 - (a.length+2)=r.length by omega]
    refine oj_run TT rfl ?_
    (repeat (first | refine cj_seq ?_ | refine cjr TT rfl ?_ | refine oj_then ?_ | refine cj_block ?_))
    have hoa:(out++a).length=out.length+a.length:=List.length_append
    have eA:(⟨o1,out.length+a.length,c1,5,1,u8Xs out++(u8Rows a).flatten.map AT.val⟩:AE)=u8E o1 c1 (out++a):=by
      unfold u8E
      rw [hoa,u8Xs_append,u8Xs_flat]
    rw [show ([u8E oo oc out].set 0 ⟨o1,out.length+a.length,c1,(u8E oo oc out).e,(u8E oo oc out).sz,(u8E oo oc out).xs++(u8Rows a).flatten.map AT.val⟩)=[u8E o1 c1 (out++a)] from congrArg (fun x=>[x]) eA,<-hoa]
    rw [<-hoa] at hc1
    refine cj_if rfl (fun h0=>?_) (fun h0=>?_)
    · have hd:d=0:=by
        have:=of_decide_eq_true (show decide ((d.toNat:Int)=0)=true from h0)
        exact UInt8.toNat_inj.1 (by show d.toNat=0;omega)
      subst hd
      have e5:textG (0::0::r)=some ([],r):=by rw [textG,if_neg (by decide),if_pos rfl]
      have e6:(textG b).map txtP=some ((⟨3,false,dec0,mkB (out++a),0⟩:GPart),r):=by
        rw [htx,e5]
        simp [txtP]
      rw [e6]
      (repeat (first | refine cj_seq ?_ | refine cjr TT rfl ?_))
      refine oj_strOfA 0 TT rfl rfl rfl rfl rfl rfl rfl rfl rfl rfl rfl rfl rfl rfl (oj_run TT rfl ?_)
      (repeat (first | refine oj_then ?_ | refine cj_ret ?_ | refine nj_then_ret ?_ | refine nj_block_ret ?_))
      refine nj_ret TT rfl fun β w' _ _=>?_
      exact FirstOk.of (p:=⟨3,false,dec0,mkB (out++a),0⟩) HR
    have hd0:d≠0:=fun e=>by
      have:=of_decide_eq_false (show decide ((d.toNat:Int)=0)=false from h0)
      rw [e] at this
      exact this rfl
    (repeat (first | refine cj_seq ?_ | refine cjr TT rfl ?_ | refine oj_then ?_))
    refine cj_if rfl (fun h1=>?_) (fun h1=>?_)
    · have hd:d=255:=by
        have:=of_decide_eq_true (show decide ((d.toNat:Int)=255)=true from h1)
        exact UInt8.toNat_inj.1 (by show d.toNat=255;omega)
      subst hd
      have e5:textG (0::255::r)=(textG r).map fun p=>(0::p.1,p.2):=by rw [textG,if_neg (by decide),if_neg (by decide),if_pos rfl]
      (repeat refine cjr TT rfl ?_)
      refine oj_append_lit TT 0 rfl rfl rfl rfl rfl rfl rfl rfl rfl rfl rfl rfl rfl rfl rfl rfl rfl rfl (by (repeat' (first | exact trivial | refine AllLt.of ?_ | constructor))) rfl (by omega) (by show ((out++a).length+1)*1<=_;omega) fun o2 c2 hc2=>oj_run TT rfl ?_
      (repeat (first | refine oj_nil ?_ | refine nj_block ?_))
      have hl2:(out++a++[0]).length=(out++a).length+1:=by rw [List.length_append];rfl
      refine nj_again (⟨r,dropA ad cap (a.length+2),cap - (a.length+2),out++a++[0],o2,c2⟩:TxS) ⟨HR,by dsimp only;omega,?_,by dsimp only;omega⟩ (by dsimp only;omega) rfl ?_ (by (repeat first | exact trivial | refine ⟨rfl,?_⟩)) ?_ (by (repeat' (first | exact trivial | exact Nat.le_of_ble_eq_true rfl | constructor))) (by (repeat' (first | exact trivial | exact Nat.le_of_ble_eq_true rfl | refine AllLt.of ?_ | constructor)))
      · dsimp only
        rw [htx,e5,Option.map_map,Option.map_map]
        congr 1
        funext p
        simp
      · dsimp only
        rw [hl2]
        (repeat first | exact trivial | refine ⟨rfl,?_⟩)
      · show [_]=[_]
        dsimp only
        unfold u8E
        rw [hl2,u8Xs_append]
        rfl
    · have hd1:d≠255:=fun e=>by
        have:=of_decide_eq_false (show decide ((d.toNat:Int)=255)=false from h1)
        rw [e] at this
        exact this rfl
      have e5:textG (0::d::r)=none:=by rw [textG,if_neg (by decide),if_neg hd0,if_neg hd1]
      have e6:(textG b).map txtP=none:=by rw [htx,e5];rfl
      rw [e6]
      (repeat (first | refine cj_seq ?_ | refine cjr TT rfl ?_ | refine oj_then ?_ | refine cj_ret ?_ | refine nj_then_ret ?_ | refine nj_block_ret ?_))
      refine nj_ret TT rfl fun β w' _ _=>?_
      rfl
end Go.Sy
