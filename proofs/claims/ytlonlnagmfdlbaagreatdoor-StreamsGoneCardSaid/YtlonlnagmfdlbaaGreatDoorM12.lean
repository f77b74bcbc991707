/- Parts of the proof of CStreamsGone: S9, S10, XCl, XRow, CFacts, SFacts, Cv. No conditions. -/
import Derived.Test.YtlonlnagmfdlbaaGreatDoorM11
import Derived.Carry
import Derived.RowKit
import Derived.ChangeStays
import Derived.ChangeSame
import Derived.ReadAgain
import Derived.SizedLaws
import Derived.Deep.DeepHandedRow
import Derived.ProofKit
import Derived.OpenShut
import Derived.Lay
import Derived.SevenTiedAt
import Derived.Stop.Joined
import Derived.Test.YtlonlnagmfdlbaaGreatDoorCards
import Derived.Test.YtlonlnagmfdlbaaGreatDoorTie
import Derived.Shelf.Vars
namespace Go.Sy
open Go.Proofs
theorem und122:Tryz.prog.underlying 122=some (.struct (Tryz.prog.fieldsOf 122)):=by kernel_rfl
theorem eqItem19_ok (m:Nat) (a b:GItem) (w:World):(Op.equalIn (m+1+1) 122 (.agg (itVals a)) (.agg (itVals b))).run Tryz.prog w=.ok (decide (a=b)) w:=by
  rw [run_equalIn_agg w (m+1) 122 _ _ und122 (by kernel_rfl)]
  have h:fieldsAre (Tryz.prog.fieldsOf 122).toList [(3,0),(3,1),(3,2),(3,3),(3,4)]=true:=by kernel_rfl
  generalize (Tryz.prog.fieldsOf 122).toList=fl at h
  obtain ⟨f0,fl,rfl,n0,t0,o0,h⟩:=fieldsAre_cons h
  obtain ⟨f1,fl,rfl,n1,t1,o1,h⟩:=fieldsAre_cons h
  obtain ⟨f2,fl,rfl,n2,t2,o2,h⟩:=fieldsAre_cons h
  obtain ⟨f3,fl,rfl,n3,t3,o3,h⟩:=fieldsAre_cons h
  obtain ⟨f4,fl,rfl,n4,t4,o4,h⟩:=fieldsAre_cons h
  cases fl with
  | cons _ _=>cases h
  | nil =>
    have ii:∀ (f:Field) (o:Nat) (r:GItem) (x:Int),f.type=3->f.offset=o->(itVals r)[o]?=some (.int .i64 x)->(part f.type (itVals r) f.offset).run Tryz.prog w=.ok (.int .i64 x) w:=fun f o r x ht ho hx=>run_part1 (by rw [ht];exact und3) rfl (by rw [ho];exact hx)
    rw [eqFields_cons (r:=a.doc == b.doc) n0 (ii f0 0 a _ t0 o0 rfl) (ii f0 0 b _ t0 o0 rfl) (run_equalIn_int w m f0.type .i64 .i64 a.doc b.doc (by rw [t0];exact und3))]
    rw [eqFields_cons (r:=a.at_ == b.at_) n1 (ii f1 1 a _ t1 o1 rfl) (ii f1 1 b _ t1 o1 rfl) (run_equalIn_int w m f1.type .i64 .i64 a.at_ b.at_ (by rw [t1];exact und3))]
    rw [eqFields_cons (r:=a.st == b.st) n2 (ii f2 2 a _ t2 o2 rfl) (ii f2 2 b _ t2 o2 rfl) (run_equalIn_int w m f2.type .i64 .i64 a.st b.st (by rw [t2];exact und3))]
    rw [eqFields_cons (r:=a.en == b.en) n3 (ii f3 3 a _ t3 o3 rfl) (ii f3 3 b _ t3 o3 rfl) (run_equalIn_int w m f3.type .i64 .i64 a.en b.en (by rw [t3];exact und3))]
    rw [eqFields_cons (r:=a.lv == b.lv) n4 (ii f4 4 a _ t4 o4 rfl) (ii f4 4 b _ t4 o4 rfl) (run_equalIn_int w m f4.type .i64 .i64 a.lv b.lv (by rw [t4];exact und3))]
    simp only [Op.eqFields,Sem.run_pure]
    have:(decide (a=b))=(a.doc == b.doc&&(a.at_ == b.at_&&(a.st == b.st&&(a.en == b.en&&(a.lv == b.lv))))):=by
      rw [Bool.eq_iff_iff]
      cases a;cases b
      simp
    rw [this]
    cases (a.doc == b.doc)<;>cases (a.at_ == b.at_)<;>cases (a.st == b.st)<;>cases (a.en == b.en)<;>cases (a.lv == b.lv)<;>rfl
section
variable {cf:Cf} {Q:Exit->Act->World->Prop} {σ:Snap} {env:Env} {hp:HP} {A:List AE} {nh:Nat} {it:Item} {rest:List Item}
theorem oj_neItem19 {d:Nat} {x y:Operand} {yt:TypeId} (a b:GItem) (hP:cf.P=Tryz.prog)
    (hop:it.o.op=.binOp .neq 122 x y yt) (hd:it.o.dst=some d) (hg:guardVal it.guard env=some true) (hN:Nat.blt d cf.N=true) (hx:evalO env x=some (.agg (itCells a))) (hy:evalO env y=some (.agg (itCells b)))
    (hk:OJ cf rest Q σ ((d,.a (.b (!decide (a=b))))::env) hp A nh):OJ cf (it::rest) Q σ env hp A nh:=by
  refine oj_val (.a (.b (!decide (a=b)))) hd hg hN trivial (fun _ ac β ha w=>?_) hk
  have h1:ac.eval x=.agg (itVals a):=evalO_eval ha hx
  have h2:ac.eval y=.agg (itVals b):=evalO_eval ha hy
  rw [hP]
  have hG:(eqGuard .neq 122 x y (.agg (itVals a)) (.agg (itVals b))).run Tryz.prog w=.ok () w:=run_eqGuard_agg w _ _ _ _ _ _ (by kernel_rfl)
  have hE:(Op.equalIn 10000 122 (.agg (itVals a)) (.agg (itVals b))).run Tryz.prog w=.ok (decide (a=b)) w:=eqItem19_ok 9998 a b w
  have hB:(binOp .neq 122 (.agg (itVals a)) (.agg (itVals b))).run Tryz.prog w=.ok (.bool (!decide (a=b))) w:=by
    rw [run_neq_struct,hE]
    rfl
  simp only [execOp,hop,h1,h2,Sem.run_bind,hG,hB,Result.andThen_ok,Sem.run_pure]
  rfl
end
def it9E (ao:Option Addr) (cap:Nat) (l:List GItem):AE:=⟨ao,l.length,cap,122,5,itXs l⟩
theorem it9_sealed {σ:Snap} {ao:Option Addr} {cap:Nat} {l:List GItem} (hS:ArrSealed σ (it9E ao cap l)) (hc:l.length<=cap):SlAt σ ao l.length cap 5 (itRows l) :=
  hS.sl rfl (fun r hr=>⟨(itRows_all l r hr).1,(itRows_all l r hr).2.1⟩) (by simp [itRows]) rfl hc
structure It9S where
  k:Nat
  oo:Option Addr
  oc:Nat
set_option maxRecDepth 100000 in
set_option maxHeartbeats 1000000 in
theorem theirs19_c (σ:Snap) (xs:List GItem) (hl:xs.length<=100000000) (ao:Option Addr) (cap:Nat) (H:SlAt σ ao xs.length cap 5 (itRows xs)) :
    PureS Tryz.prog 44 [.a (.v (.slice ao xs.length cap))] σ (fun v σ'=>∃ bo bc,v=.slice bo xs.length bc/\SlAt σ' bo xs.length bc 5 (itRows xs)):=by
  refine enter_s Tryz.func44 rfl rfl (by (repeat' (first | exact trivial | constructor))) fun w=>?_
  (repeat (first | refine cj_seq ?_ | refine cjr TT rfl ?_ | refine oj_then ?_ | refine cj_block ?_))
  refine cj_nilarr 122 5 ?_
  refine cj_loop (fun (_:It9S)=>σ) (fun t=>[(0,.a (.v (.slice ao xs.length cap))),(3,.a (.v (.slice t.oo (xs.take t.k).length t.oc))),(4,.a (.v (.int .i64 (t.k:Nat))))]) (fun _=>[]) (fun t=>[it9E t.oo t.oc (xs.take t.k)]) 0
    (fun t=>t.k<=xs.length/\t.k<=t.oc) (fun t=>xs.length - t.k) ⟨0,none,0⟩ ⟨Nat.zero_le _,Nat.le_refl _⟩ rfl (by (repeat first | exact trivial | refine ⟨rfl,?_⟩)) (by (repeat first | exact trivial | refine ⟨rfl,?_⟩)) rfl (by (repeat' (first | exact trivial | constructor))) (by (repeat' exact trivial)) fun ⟨k,bo,bc⟩ ⟨hk,hbc⟩=>?_
  dsimp only at hk hbc ⊢
  (repeat (first | refine cj_seq ?_ | refine cjr TT rfl ?_ | refine oj_then ?_))
  refine cj_if rfl (fun h=>?_) (fun h=>?_)
  rotate_left
  · have hk0:k=xs.length:=by have:=of_decide_eq_false h;omega
    subst hk0
    rw [List.take_length]
    (repeat (first | refine cj_seq ?_ | refine cjr TT rfl ?_ | refine oj_then ?_ | refine cj_exit ?_ | refine cj_ret ?_ | refine nj_then ?_ | refine nj_then_exit ?_ | refine nj_block_out ?_))
    refine nj_seal 0 rfl rfl fun s2 hle2 hS=>?_
    refine nj_ret TT rfl fun β w' _ _=>?_
    exact ⟨bo,bc,rfl,it9_sealed hS hbc⟩
  have hkl:k<xs.length:=by have:=of_decide_eq_true h;omega
  have hra:=itRows_get (List.getElem?_eq_getElem hkl)
  have htk:xs.take (k+1)=xs.take k++[xs[k]]:=List.take_succ_eq_append_getElem hkl
  have hlk:(xs.take k).length=k:=by rw [List.length_take];omega
  generalize xs[k]=x at *
  have hlk1:(xs.take (k+1)).length=k+1:=by rw [List.length_take];omega
  have hE0:it9E bo bc (xs.take k)=⟨bo,k,bc,122,5,itXs (xs.take k)⟩:=by unfold it9E;rw [hlk]
  rw [hlk,hE0]
  (repeat (first | refine cj_seq ?_ | refine cj_skip ?_ | refine cj_block ?_ | refine nj_then ?_))
  refine cj_draw [(0,.pure),(1,.pure),(2,.pure),(3,.pure),(4,.pure),(5,.quiet),(6,.pure),(7,.pure),(8,.pure),(9,.pure),(10,.quiet),(11,.pure),(12,.pure),(13,.pure),(14,.pure),(15,.quiet),(16,.pure),(17,.pure),(18,.pure),(19,.pure),(20,.quiet),(21,.pure),(22,.pure),(23,.pure),(24,.pure),(25,.quiet),(26,.pure),(27,.keep),(28,.sink),(29,.pure)] mixed (by kernel_rfl) (oj_run TT rfl ?_)
  refine oj_idx TT rfl rfl rfl rfl rfl rfl rfl rfl rfl H (by omega) hra (oj_run TT rfl ?_)
  refine oj_idx TT rfl rfl rfl rfl rfl rfl rfl rfl rfl H (by omega) hra (oj_run TT rfl ?_)
  refine oj_idx TT rfl rfl rfl rfl rfl rfl rfl rfl rfl H (by omega) hra (oj_run TT rfl ?_)
  refine oj_idx TT rfl rfl rfl rfl rfl rfl rfl rfl rfl H (by omega) hra (oj_run TT rfl ?_)
  refine oj_idx TT rfl rfl rfl rfl rfl rfl rfl rfl rfl H (by omega) hra (oj_run TT rfl ?_)
  refine oj_append_lit TT 0 rfl rfl rfl rfl rfl rfl rfl rfl rfl rfl rfl rfl rfl rfl rfl rfl rfl rfl (by (repeat' (first | exact trivial | refine AllLt.of ?_ | constructor))) rfl (by omega) (by show (k+1)*40<=_;omega) fun ao' cap' hcap'=>oj_run TT rfl ?_
  (repeat (first | refine cjr TT rfl ?_ | refine oj_nil ?_ | refine nj_then ?_ | refine nj_block ?_ | (refine oj_add rfl rfl rfl rfl rfl rfl (by omega) ?_;refine oj_run TT rfl ?_)))
  refine nj_again (⟨k+1,ao',cap'⟩:It9S) ⟨hkl,hcap'⟩ (by dsimp only;omega) rfl ?_ (by (repeat first | exact trivial | refine ⟨rfl,?_⟩)) ?_ (by (repeat' (first | exact trivial | constructor))) (by (repeat' exact trivial))
  · dsimp only
    rw [hlk1]
    (repeat first | exact trivial | refine ⟨rfl,?_⟩)
  · show [_]=[_]
    dsimp only
    unfold it9E
    rw [hlk1,htk,itXs_append]
    rfl
set_option maxRecDepth 100000 in
set_option maxHeartbeats 1000000 in
theorem Same19_c (σ:Snap) (a b:List GItem) (hl:a.length<=140737488355328) (ao:Option Addr) (ac:Nat) (HA:SlAt σ ao a.length ac 5 (itRows a)) (bo:Option Addr) (bc:Nat) (HB:SlAt σ bo b.length bc 5 (itRows b)) :
    PlainS Tryz.prog 43 [.a (.v (.slice ao a.length ac)),.a (.v (.slice bo b.length bc))] σ (fun v=>v=.bool (decide (a=b))):=by
  refine enter_p Tryz.func43 rfl rfl (by (repeat' (first | exact trivial | constructor))) fun w=>?_
  (repeat (first | refine cj_seq ?_ | refine cjr TT rfl ?_ | refine oj_then ?_))
  refine cj_if rfl (fun h=>?_) (fun h=>?_)
  · have h:(!decide ((a.length:Int)=b.length))=true:=h
    have hne:a≠b:=fun e=>by rw [e] at h;simp at h
    (repeat (first | refine cj_seq ?_ | refine cjr TT rfl ?_ | refine oj_then ?_ | refine cj_ret ?_ | refine nj_then_ret ?_))
    refine nj_ret TT rfl fun β w' _ _=>?_
    rw [decide_eq_false hne]
    rfl
  have hlen:a.length=b.length:=by
    have h:(!decide ((a.length:Int)=b.length))=false:=h
    simp at h
    omega
  (repeat (first | refine cj_seq ?_ | refine cjr TT rfl ?_ | refine oj_then ?_ | refine cj_skip ?_ | refine cj_block ?_ | refine nj_then ?_))
  refine cj_loop (fun (_:Nat)=>σ) (fun k=>[(0,.a (.v (.slice ao a.length ac))),(1,.a (.v (.slice bo b.length bc))),(5,.a (.v (.int .i64 k)))]) (fun _=>[]) (fun _=>[]) 0 (fun k=>k<=a.length/\a.take k=b.take k) (fun k=>a.length - k) 0 ⟨Nat.zero_le _,rfl⟩ rfl (by (repeat first | exact trivial | refine ⟨rfl,?_⟩)) (by (repeat first | exact trivial | refine ⟨rfl,?_⟩)) rfl (by (repeat' (first | exact trivial | constructor))) (by (repeat' exact trivial)) fun k ⟨hk,hw⟩=>?_
  (repeat (first | refine cj_seq ?_ | refine cjr TT rfl ?_ | refine oj_then ?_))
  refine cj_if rfl (fun h=>?_) (fun h=>?_)
  rotate_left
  · have hk0:k=a.length:=by have:=of_decide_eq_false h;omega
    rw [hk0,List.take_length,hlen,List.take_length] at hw
    (repeat (first | refine cj_seq ?_ | refine cjr TT rfl ?_ | refine oj_then ?_ | refine cj_exit ?_ | refine cj_ret ?_ | refine nj_then ?_ | refine nj_then_exit ?_ | refine nj_block_out ?_))
    refine nj_ret TT rfl fun β w' _ _=>?_
    rw [decide_eq_true hw]
    rfl
  have hkl:k<a.length:=by have:=of_decide_eq_true h;omega
  have hkb:k<b.length:=by omega
  have hra:=itRows_get (List.getElem?_eq_getElem hkl)
  have hrb:=itRows_get (List.getElem?_eq_getElem hkb)
  have hta:a.take (k+1)=a.take k++[a[k]]:=List.take_succ_eq_append_getElem hkl
  have htb:b.take (k+1)=b.take k++[b[k]]:=List.take_succ_eq_append_getElem hkb
  have hab:a=b->a[k]=b[k]:=fun e=>by subst e;rfl
  generalize a[k]=x at *
  generalize b[k]=y at *
  (repeat (first | refine cj_seq ?_ | refine cj_skip ?_ | refine cj_block ?_ | refine nj_then ?_))
  refine cj_draw [(0,.pure),(1,.pure),(2,.pure),(3,.quiet),(4,.pure),(5,.pure),(6,.pure),(7,.quiet),(8,.pure)] mixed (by kernel_rfl) (oj_run TT rfl ?_)
  refine oj_idx TT rfl rfl rfl rfl rfl rfl rfl rfl rfl HA (by omega) hra (oj_run TT rfl ?_)
  refine oj_idx TT rfl rfl rfl rfl rfl rfl rfl rfl rfl HB (by omega) hrb (oj_run TT rfl ?_)
  refine oj_neItem19 x y rfl rfl rfl rfl rfl rfl rfl (oj_run TT rfl ?_)
  (repeat refine oj_then ?_)
  refine cj_if rfl (fun h=>?_) (fun h=>?_)
  · have h:(!decide (x=y))=true:=h
    have hne:a≠b:=fun e=>by rw [hab e] at h;simp at h
    (repeat (first | refine cj_seq ?_ | refine cjr TT rfl ?_ | refine oj_then ?_ | refine cj_ret ?_ | refine nj_then_ret ?_ | refine nj_block_ret ?_))
    refine nj_ret TT rfl fun β w' _ _=>?_
    rw [decide_eq_false hne]
    rfl
  have hxy:x=y:=by
    have h:(!decide (x=y))=false:=h
    simpa using h
  (repeat (first | refine cjr TT rfl ?_ | refine oj_nil ?_ | refine cj_skip ?_ | refine nj_then ?_ | refine nj_block ?_ | (refine oj_add rfl rfl rfl rfl rfl rfl (by omega) ?_;refine oj_run TT rfl ?_)))
  refine nj_again (k+1) ⟨hkl,by rw [hta,htb,hw,hxy]⟩ (by omega) rfl (by (repeat first | exact trivial | refine ⟨rfl,?_⟩)) (by (repeat first | exact trivial | refine ⟨rfl,?_⟩)) rfl (by (repeat' (first | exact trivial | constructor))) (by (repeat' exact trivial))
set_option maxRecDepth 100000 in
set_option maxHeartbeats 2000000 in
theorem IxTwice_c (σ:Snap) (X:GIx) (IX:IxAt σ X) (hl:X.ds.length<=1000000) (ho:X.ds.Pairwise fun x y=>x.id<y.id) (id:Int) (hid:∃ d∈X.ds,d.id=id) (L:List GRec) (R:RecsOk L) (hs:soundG L=true) (ao:Option Addr) (cap:Nat) (H:SlAt σ ao L.length cap 11 (recRows L)) :
    PlainS Tryz.prog 40 [.agg (ixCells X),.agg [.v (.int .i64 id),.v (.slice ao L.length cap)]] σ (fun v=>v=(SV.tup [.agg (ixCells ix0),.a (.v (.int .i64 7))]).den β0):=by
  refine enter_p Tryz.func40 rfl rfl ⟨ixCells_lt 0 X,(by (repeat' (first | exact trivial | refine AllLt.of ?_ | constructor))),trivial⟩ fun w=>?_
  (repeat (first | refine cj_seq ?_ | refine cjr TT rfl ?_ | refine oj_then ?_))
  refine oj_callP rfl rfl rfl rfl rfl Tryz.call105 (by (repeat' (first | exact trivial | constructor))) (Sound_c σ L R.len R.fit R.bw ao cap H) fun v hv=>⟨.a .tt,trivial,by rw [hv,hs];rfl,?_⟩
  refine oj_run TT rfl ?_
  (repeat (first | refine cj_seq ?_ | refine cjr TT rfl ?_ | refine oj_then ?_ | refine cj_if_f rfl ?_ | refine cj_skip ?_ | refine nj_then ?_))
  refine oj_set 16 (.agg (ixCells X)) rfl (ixCells_lt _ _) (fun _=>rfl) ?_
  refine oj_callP (ys:=[.agg (ixCells X),.a (.v (.int .i64 id))]) rfl rfl rfl rfl rfl Tryz.call102 ⟨ixCells_lt 0 X,trivial,trivial⟩ (place_c σ X IX.docs hl ho id) fun v ⟨p,hv,hp⟩=>⟨.tup [.a (.v (.int .i64 p)),.a (.b (isAt X.ds id p))],(by (repeat' (first | exact trivial | refine SV.lt_tup ?_ | constructor))),hv.symm,?_⟩
  have hi:isAt X.ds id p=true:=by
    have h1:=find_place ho hp
    cases hb:isAt X.ds id p with
    | true=>rfl
    | false =>
      rw [hb,if_neg (by decide),List.find?_eq_none] at h1
      obtain ⟨d,hd,he⟩:=hid
      exact absurd (h1 d hd) (by simp [he])
  rw [hi]
  refine oj_run TT rfl ?_
  (repeat (first | refine cj_seq ?_ | refine cjr TT rfl ?_ | refine oj_then ?_))
  refine cj_if rfl (fun _=>?_) (fun h=>absurd h (by decide))
  (repeat (first | refine cj_seq ?_ | refine cjr TT rfl ?_ | refine oj_then ?_ | refine cj_ret ?_ | refine nj_then_ret ?_))
  refine nj_ret TT rfl fun β w' _ _=>?_
  rfl
end Go.Sy
namespace Go.Sy
open Go.Proofs
theorem allOf_snoc {X Y:GIx} {d:GDoc} (h:Y.ds=X.ds++[d]):(allOf Y).length=(allOf X).length+d.L.length:=by
  unfold allOf
  rw [h,List.flatMap_append,List.length_append]
  simp [itemsD_len]
theorem next_mono {xs:List GLine} {next:Int} (h:GInv ⟨xs,next,[]⟩) (ps:List SRow):next<=(addAll ⟨xs,next,[]⟩ ps).next:=by
  obtain ⟨h1,h2,-⟩:=addAll_inv ps h
  have e1:next=xs.length:=h.next
  have e2:=h1.next
  have:xs.length<=(addAll ⟨xs,next,[]⟩ ps).xs.length:=by
    apply Classical.byContradiction
    intro hl
    obtain ⟨y,hy,-⟩:=h2 _ _ (List.getElem?_eq_getElem (show (addAll ⟨xs,next,[]⟩ ps).xs.length<xs.length by omega))
    have:=(List.getElem?_eq_some_iff.1 hy).1
    omega
  omega
structure GoS where
  k:Nat
  X:GIx
set_option maxRecDepth 100000 in
set_option maxHeartbeats 8000000 in
theorem StreamsGone_c (σ:Snap) (m:Int) (hm:σ.cell ⟨0,0,none⟩=some (.int .i64 m)) (gs:List GVal) (rows:List (List AT)) (lo:Option Addr) (lc:Nat) (H:SlAt σ lo gs.length lc 8 rows) (hl:gs.length<=140737488355328) (hR:RepL σ gs rows) (gv:GVal) (cv:List AT) (hV:RepV σ gv cv) (id:Int) :
    PureS Tryz.prog 8 [.a (.v (.slice lo gs.length lc)),.agg cv,.a (.v (.int .i64 id))] σ (fun v _=>v=.bool true):=by
  obtain ⟨gla,glc,glrows,gma,gmc,gvrows,rfl,GV⟩:=hV.open
  refine enter_s Tryz.func8 rfl rfl ⟨trivial,vCells_lt 0 _ _ _ _ _,trivial,trivial⟩ fun w=>?_
  (repeat (first | refine cj_seq ?_ | refine cjr TT rfl ?_ | refine oj_then ?_))
  refine oj_callS rfl rfl rfl rfl rfl Tryz.call35 trivial (awake19_c σ m hm) fun v s0 hle0 hv=>⟨.a .tt,trivial,hv.symm,?_⟩
  have H:=H.mono hle0
  have hR:=hR.mono hle0
  have hV:=hV.mono hle0
  refine oj_run TT rfl ?_
  (repeat (first | refine cj_seq ?_ | refine cjr TT rfl ?_ | refine oj_then ?_))
  refine oj_split 34 rfl (fun h=>?_) (fun h=>?_)
  · refine oj_run TT rfl ?_
    (repeat (first | refine cj_seq ?_ | refine cjr TT rfl ?_ | refine oj_then ?_ | refine cj_if_t rfl ?_ | refine cj_ret ?_ | refine nj_then_ret ?_))
    refine nj_ret TT rfl fun β w' _ _=>?_
    rfl
  have h6:gs.length<=6:=by have:=of_decide_eq_false (show decide ((6:Int)<gs.length)=false from h);omega
  refine oj_run TT rfl ?_
  refine oj_set 35 (.agg (vCells gv gla glc gma gmc)) rfl (vCells_lt _ _ _ _ _ _) (fun _=>rfl) ?_
  refine oj_callP (ys:=[.agg (vCells gv gla glc gma gmc),.a (.v (.int .i64 300))]) rfl rfl rfl rfl rfl Tryz.call13 ⟨vCells_lt 0 _ _ _ _ _,trivial,trivial⟩ (Few_c s0 gv _ 300 hV (by omega) (by omega)) fun v ⟨fb,hv,hfew⟩=>⟨.a (.b fb),trivial,hv.symm,?_⟩
  refine oj_run TT rfl ?_
  (repeat refine oj_then ?_)
  refine cj_if rfl (fun h=>?_) (fun h=>?_)
  · (repeat (first | refine cj_seq ?_ | refine cjr TT rfl ?_ | refine oj_then ?_ | refine cj_ret ?_ | refine nj_then_ret ?_))
    refine nj_ret TT rfl fun β w' _ _=>?_
    rfl
  have hgw:gv.weight<=300:=by
    have:=hfew (by simpa using h)
    omega
  (repeat (first | refine cj_seq ?_ | refine cjr TT rfl ?_ | refine cj_skip ?_ | refine nj_then ?_))
  refine oj_callP rfl rfl rfl rfl rfl Tryz.call38 (by (repeat' exact trivial)) (New_c s0) fun v hv=>⟨.agg (ixCells ix0),ixCells_lt _ _,hv.symm,?_⟩
  refine oj_run TT rfl ?_
  (repeat (first | refine cj_seq ?_ | refine cjr TT rfl ?_ | refine oj_then ?_ | refine cj_block ?_))
  refine cj_loop2 (fun (s:Snap) (_:GoS)=>s) (fun _ t=>[(0,.a (.v (.slice lo gs.length lc))),(2,.a (.v (.int .i64 id))),(4,.a (.p 0 0)),(7,.a .tt),(8,.a (.p 1 0)),(9,.a (.v (.int .i64 (allOf t.X).length))),(10,.a (.v (.int .i64 (t.k:Nat))))]) (fun _ t=>[(0,.loc 28,vCells gv gla glc gma gmc),(1,.loc 60,ixCells t.X)]) (fun _ _=>[]) 2
    (fun s t=>s0.le s/\t.k<=gs.length/\IxAt s t.X/\MadeOk 2 t.X t.k) (fun _ t=>gs.length - t.k) s0 ⟨0,ix0⟩ ⟨Snap.le_refl _,Nat.zero_le _,ix0_at s0,made0 2⟩ rfl (by (repeat first | exact trivial | refine ⟨rfl,?_⟩)) (by (repeat first | exact trivial | refine ⟨rfl,?_⟩)) rfl ⟨trivial,trivial,by show 0<2;omega,trivial,by show 1<2;omega,trivial,trivial,trivial⟩
    (by exact ⟨⟨by omega,vCells_lt 2 _ _ _ _ _⟩,⟨by omega,ixCells_lt 2 _⟩,trivial⟩) fun s ⟨k,X⟩ ⟨hle,hk,IX,M⟩=>?_
  dsimp only at hk IX M ⊢
  have H:=H.mono hle
  have hR:=hR.mono hle
  have hV:=hV.mono hle
  have hal:=allOf_len M
  (repeat (first | refine cj_seq ?_ | refine cjr TT rfl ?_ | refine oj_then ?_))
  refine cj_if rfl (fun h=>?_) (fun h=>?_)
  · have hkl:k<gs.length:=by have:=of_decide_eq_true h;omega
    obtain ⟨r,hr1,hr2⟩:=hR.get (List.getElem?_eq_getElem hkl)
    generalize gs[k]=g at *
    obtain ⟨la,lc',lrows,ma,mc,vrows,rfl,V⟩:=hr2.open
    (repeat (first | refine cj_seq ?_ | refine cjr TT rfl ?_ | refine cj_skip ?_ | refine cj_block ?_ | refine nj_then ?_))
    refine oj_idx TT rfl rfl rfl rfl rfl rfl rfl rfl rfl H (by omega) hr1 (oj_run TT rfl ?_)
    refine oj_callP rfl rfl rfl rfl rfl Tryz.call13 (by (repeat' (first | exact trivial | exact vCells_lt _ _ _ _ _ _ | constructor))) (Few_c s g _ 200 V.rep (by omega) (by omega)) fun v ⟨fb,hv,hfew⟩=>⟨.a (.b fb),trivial,hv.symm,?_⟩
    refine oj_run TT rfl ?_
    (repeat refine oj_then ?_)
    refine cj_if rfl (fun h=>?_) (fun h=>?_)
    · (repeat (first | refine cj_seq ?_ | refine cjr TT rfl ?_ | refine oj_then ?_ | refine cj_ret ?_ | refine nj_then_ret ?_ | refine nj_block_ret ?_))
      refine nj_ret TT rfl fun β w' _ _=>?_
      rfl
    have hwg:g.weight<=300:=by
      have:=hfew (by simpa using h)
      omega
    (repeat (first | refine cj_seq ?_ | refine cjr TT rfl ?_ | refine cj_skip ?_ | refine nj_then ?_))
    refine oj_idx TT rfl rfl rfl rfl rfl rfl rfl rfl rfl H (by omega) hr1 (oj_run TT rfl ?_)
    refine oj_callS rfl rfl rfl rfl rfl Tryz.call39 ⟨vCells_lt _ _ _ _ _ _,trivial,trivial⟩ (Shred_s s g _ 2 V.rep (by omega)) fun v s1 hle1 ⟨ao,cap,hv,HL⟩=>⟨.tup [.a (.v (.slice ao (shredG g 2).1.length cap)),.a (.v (.int .i64 (shredG g 2).2))],(by (repeat' (first | exact trivial | refine SV.lt_tup ?_ | constructor))),hv.symm,?_⟩
    rw [shredG_k (by omega) (by omega)] at HL ⊢
    have IX:=IX.mono hle1
    by_cases hs:sane g≠0
    · rw [if_pos hs] at HL ⊢
      dsimp only at HL ⊢
      refine oj_run TT rfl ?_
      (repeat (first | refine cj_seq ?_ | refine cjr TT rfl ?_ | refine oj_then ?_))
      refine cj_if rfl (fun h=>absurd (by simpa using h) hs) (fun h=>?_)
      (repeat (first | refine cjr TT rfl ?_ | refine oj_nil ?_ | refine cj_skip ?_ | refine nj_then ?_ | refine nj_block ?_ | (refine oj_add rfl rfl rfl rfl rfl rfl (by omega) ?_;refine oj_run TT rfl ?_)))
      refine nj_again (s1,(⟨k+1,X⟩:GoS)) ⟨Snap.le_trans hle hle1,hkl,IX,M.skip⟩ (by dsimp only;omega) rfl (by (repeat first | exact trivial | refine ⟨rfl,?_⟩)) (by (repeat first | exact trivial | refine ⟨rfl,?_⟩)) rfl ⟨trivial,trivial,by show 0<2;omega,trivial,by show 1<2;omega,trivial,trivial,trivial⟩ (by exact ⟨⟨by omega,vCells_lt 2 _ _ _ _ _⟩,⟨by omega,ixCells_lt 2 _⟩,trivial⟩)
    have hs:sane g=0:=by simpa using hs
    rw [if_neg (by simp [hs])] at HL ⊢
    dsimp only at HL ⊢
    obtain ⟨hc1,hc2,hc3,hsound,R,-⟩:=shred_facts V.rep (gap:=2) (by omega) (by omega) (by omega) hs rfl
    have hlev:=shred_levels (gap:=2) (by omega) g
    have hwf:=V.rep.wf
    generalize hLdef:(shredV 2 g 0 false emptyS 0).1=L at *
    refine oj_run TT rfl ?_
    (repeat (first | refine cj_seq ?_ | refine cjr TT rfl ?_ | refine oj_then ?_))
    refine cj_if rfl (fun _=>?_) (fun h=>absurd h (by decide))
    (repeat (first | refine cj_seq ?_ | refine cjr TT rfl ?_))
    have hnum:=M.num
    have hadd:=IxAdd_c s1 X IX M.idx k L R (by omega) hsound hlev ao cap HL (fun d hd=>(M.id d hd).2) (by omega) (k*300) M.fit (by omega)
    refine oj_set 65 (.agg (ixCells X)) rfl (ixCells_lt _ _) (fun _=>rfl) ?_
    refine oj_callS rfl rfl rfl rfl rfl Tryz.call40 ⟨ixCells_lt 0 X,(by (repeat' (first | exact trivial | refine AllLt.of ?_ | constructor))),trivial⟩ hadd fun v s2 hle2 ⟨X',hv,IX',hP',⟨lo',lc2,ids,hds⟩,hfit⟩=>⟨.tup [.agg (ixCells X'),.a (.v (.int .i64 0))],(by intro x hx;simp only [List.mem_cons,List.not_mem_nil,or_false] at hx;rcases hx with rfl | rfl;exact ixCells_lt 0 X';trivial),hv.symm,?_⟩
    have hlen:=allOf_snoc hds
    refine oj_run TT rfl ?_
    (repeat (first | refine cj_seq ?_ | refine cjr TT rfl ?_ | refine oj_then ?_))
    refine cj_if rfl (fun h=>absurd h (by decide)) (fun _=>?_)
    (repeat (first | refine cj_seq ?_ | refine cjr TT rfl ?_ | refine oj_then ?_ | refine oj_nil ?_ | refine cj_skip ?_ | refine nj_then ?_ | refine nj_block ?_ | (refine oj_add rfl rfl rfl rfl rfl rfl (by omega) ?_;refine oj_run TT rfl ?_)))
    have M':MadeOk 2 X' (k+1):=by
      refine ⟨hP',fun d hd=>?_,fun d hd=>?_,?_,hfit.mono (by omega)⟩
      · rw [hds] at hd
        rcases List.mem_append.1 hd with hd | hd
        · exact M.doc d hd
        · rw [List.mem_singleton] at hd
          subst hd
          exact ⟨g,hwf,hs,hwg,hLdef.symm,hsound,R,by show L.length<=300;omega⟩
      · rw [hds] at hd
        rcases List.mem_append.1 hd with hd | hd
        · have:=M.id d hd
          omega
        · rw [List.mem_singleton] at hd
          subst hd
          show 0<=(k:Int)/\(k:Int)<((k+1:Nat):Int)
          omega
      · rw [hds,List.length_append,List.length_singleton]
        omega
    have hlen:((allOf X').length:Int)=((allOf X).length:Int)+L.length:=by rw [hlen];rfl
    refine nj_set 9 (.a (.v (.int .i64 (allOf X').length))) rfl trivial (fun _=>congrArg (Value.int .i64) hlen.symm) ?_
    refine nj_again (s2,(⟨k+1,X'⟩:GoS)) ⟨Snap.le_trans hle (Snap.le_trans hle1 hle2),hkl,IX',M'⟩ (by dsimp only;omega) rfl (by (repeat first | exact trivial | refine ⟨rfl,?_⟩)) (by (repeat first | exact trivial | refine ⟨rfl,?_⟩)) rfl ⟨trivial,trivial,by show 0<2;omega,trivial,by show 1<2;omega,trivial,trivial,trivial⟩ (by exact ⟨⟨by omega,vCells_lt 2 _ _ _ _ _⟩,⟨by omega,ixCells_lt 2 _⟩,trivial⟩)
  have hk0:k=gs.length:=by have:=of_decide_eq_false h;omega
  have hnum:=M.num
  have hfx:=M.fit.xs
  have hfn:=M.fit.next
  have hfc:=M.fit.cnt
  dsimp only at hfx hfn hfc
  (repeat (first | refine cj_seq ?_ | refine cjr TT rfl ?_ | refine cj_exit ?_ | refine nj_then ?_ | refine nj_then_exit ?_ | refine nj_block_out ?_))
  refine oj_set 80 (.agg (vCells gv gla glc gma gmc)) rfl (vCells_lt _ _ _ _ _ _) (fun _=>rfl) ?_
  refine oj_callS rfl rfl rfl rfl rfl Tryz.call39 ⟨vCells_lt _ _ _ _ _ _,trivial,trivial⟩ (Shred_s s gv _ 2 hV (by omega)) fun v s1 hle1 ⟨ao,cap,hv,HL⟩=>⟨.tup [.a (.v (.slice ao (shredG gv 2).1.length cap)),.a (.v (.int .i64 (shredG gv 2).2))],(by (repeat' (first | exact trivial | refine SV.lt_tup ?_ | constructor))),hv.symm,?_⟩
  rw [shredG_k (by omega) (by omega)] at HL ⊢
  have hmask:=bAnd_le id 15 (by omega) (by omega)
  generalize hmk:bAnd .i64 id 15=msk at hmask
  have hK:∃ K:Int,100+msk=K/\100<=K:=⟨_,rfl,by omega⟩
  obtain ⟨K,hKd,hK1⟩:=hK
  by_cases hs:sane gv≠0
  · rw [if_pos hs] at HL ⊢
    dsimp only at HL ⊢
    refine oj_run TT rfl ?_
    (repeat (first | refine cj_seq ?_ | refine cjr TT rfl ?_ | refine oj_then ?_ | (refine oj_band rfl rfl rfl rfl rfl rfl ?_;refine oj_run TT rfl ?_) | (refine oj_add rfl rfl rfl rfl rfl rfl (by omega) ?_;refine oj_run TT rfl ?_)))
    refine cj_if rfl (fun _=>?_) (fun h=>absurd h (by simp [hs]))
    (repeat (first | refine cj_seq ?_ | refine cjr TT rfl ?_ | refine oj_then ?_ | refine cj_ret ?_ | refine nj_then_ret ?_))
    refine nj_ret TT rfl fun β w' _ _=>?_
    rfl
  have hs:sane gv=0:=by simpa using hs
  rw [if_neg (by simp [hs])] at HL ⊢
  dsimp only at HL ⊢
  obtain ⟨hc1,hc2,hc3,hsound,R,-⟩:=shred_facts hV (gap:=2) (by omega) (by omega) (by omega) hs rfl
  have hlev:=shred_levels (gap:=2) (by omega) gv
  have hwf:=hV.wf
  generalize hLdef:(shredV 2 gv 0 false emptyS 0).1=L at *
  have IX:=IX.mono hle1
  have hV:=hV.mono hle1
  have hKid:∀ d∈X.ds,d.id<K:=fun d hd=>by have:=M.id d hd;omega
  refine oj_run TT rfl ?_
  (repeat (first | refine cj_seq ?_ | refine cjr TT rfl ?_ | refine oj_then ?_ | (refine oj_band rfl rfl rfl rfl rfl rfl ?_;refine oj_run TT rfl ?_) | (refine oj_add rfl rfl rfl rfl rfl rfl (by omega) ?_;refine oj_run TT rfl ?_)))
  refine cj_set 17 (.a (.v (.int .i64 K))) rfl trivial (fun _=>congrArg (Value.int .i64) (by rw [hmk,hKd])) ?_
  refine cj_if rfl (fun h=>absurd h (by decide)) (fun _=>?_)
  (repeat (first | refine cj_seq ?_ | refine cjr TT rfl ?_ | refine cj_skip ?_ | refine nj_then ?_))
  refine oj_set 91 (.agg (ixCells X)) rfl (ixCells_lt _ _) (fun _=>rfl) ?_
  refine oj_callS (ys:=[.agg (ixCells X),.agg [.v (.int .i64 K),.v (.slice ao L.length cap)]]) rfl rfl rfl rfl rfl Tryz.call40 ⟨ixCells_lt 0 X,(by (repeat' (first | exact trivial | refine AllLt.of ?_ | constructor))),trivial⟩
    (IxAdd_x s1 X IX M.idx K L R (by omega) hsound hlev ao cap HL hKid (by omega) (k*300) M.fit (by omega))
    fun v s2 hle2 ⟨Y,hv,IY,PY,_,FY,lo1,lc1,ps,hps,hdsY,hxsY,hnxY⟩=>⟨.tup [.agg (ixCells Y),.a (.v (.int .i64 0))],(by intro x hx;simp only [List.mem_cons,List.not_mem_nil,or_false] at hx;rcases hx with rfl | rfl;exact ixCells_lt 0 Y;trivial),hv.symm,?_⟩
  have IX:=IX.mono hle2
  have hV:=hV.mono hle2
  have HL:=HL.mono hle2
  have hYx:=FY.xs
  have hYc:=FY.cnt
  dsimp only at hYx hYc
  have hlenY:Y.ds.length<=7:=by rw [hdsY,List.length_append,List.length_singleton];omega
  have hallY:=allOf_snoc hdsY
  have hdY:∀ d∈Y.ds,d.ids.length=d.L.length/\d.L.length<=300:=fun d hd=>by
    refine ⟨(PY.doc d hd).1,?_⟩
    rw [hdsY] at hd
    rcases List.mem_append.1 hd with hd | hd
    · obtain ⟨_,_,_,_,_,_,_,h⟩:=M.doc d hd
      exact h
    · rw [List.mem_singleton] at hd
      subst hd
      show L.length<=300
      omega
  have hdX:∀ d∈X.ds,d.ids.length=d.L.length/\d.L.length<=100000:=fun d hd=>⟨(M.idx.doc d hd).1,by obtain ⟨_,_,_,_,_,_,_,h⟩:=M.doc d hd;omega⟩
  refine oj_run TT rfl ?_
  (repeat (first | refine cj_seq ?_ | refine cjr TT rfl ?_ | refine oj_then ?_))
  refine oj_set 99 (.agg (ixCells Y)) rfl (ixCells_lt _ _) (fun _=>rfl) ?_
  refine oj_callS (ys:=[.agg (ixCells Y),.a (.v (.int .i64 K))]) rfl rfl rfl rfl rfl Tryz.call41 ⟨ixCells_lt 0 Y,trivial,trivial⟩
    (IxDrop_c s2 Y IY (by omega) PY.ord (by omega) (fun x hx=>by have:=hYc x hx;omega) (fun d hd=>by have:=hdY d hd;omega) K)
    fun v s3 hle3 ⟨Z,e,hv,IZ,hD⟩=>⟨.tup [.agg (ixCells Z),.a (.v (.int .i64 e))],(by intro x hx;simp only [List.mem_cons,List.not_mem_nil,or_false] at hx;rcases hx with rfl | rfl;exact ixCells_lt 0 Z;trivial),hv.symm,?_⟩
  have hZ:e=0/\Z.ds=X.ds/\Z.xs=X.xs/\X.next<=Z.next:=by
    have hat:∀ p,PlaceAt Y.ds K p->p=X.ds.length:=fun p hp=>by
      have hlast:Y.ds[X.ds.length]?=some ⟨K,ao,cap,L,lo1,lc1,(addAll ⟨X.xs,X.next,[]⟩ ps).ids⟩:=by rw [hdsY];simp
      rcases Nat.lt_trichotomy p X.ds.length with h | h | h
      · have h1:Y.ds[p]?=some X.ds[p]:=by rw [hdsY,List.getElem?_append_left h,List.getElem?_eq_getElem h]
        have h2:=hp.hi p _ (Nat.le_refl p) h1
        have h3:=hKid _ (List.getElem_mem h)
        omega
      · exact h
      · have:=hp.lo X.ds.length _ h hlast
        exact absurd this (by show ¬ K<K;omega)
    have hlast:Y.ds[X.ds.length]?=some ⟨K,ao,cap,L,lo1,lc1,(addAll ⟨X.xs,X.next,[]⟩ ps).ids⟩:=by rw [hdsY];simp
    have hdrop:=drop_add M.idx.inv ps
    rw [<-hxsY] at hdrop
    cases hD with
    | away p hp h2 =>
      exfalso
      unfold isAt at h2
      rw [hat p hp,hlast] at h2
      simp at h2
    | lines p hp d h2 h3 h4 =>
      exfalso
      rw [hat p hp,hlast] at h2
      obtain rfl:=Option.some.inj h2
      rw [hdrop] at h4
      cases h4
    | ok p hp d h2 h3 X' h4 h5 h6 =>
      have hp:=hat p hp
      rw [hp,hlast] at h2
      obtain rfl:=Option.some.inj h2
      rw [hdrop] at h4
      refine ⟨rfl,?_,(Option.some.inj h4).symm,?_⟩
      · rw [h5,hp,hdsY]
        rw [List.eraseIdx_append_of_length_le (Nat.le_refl _),Nat.sub_self]
        simp
      · rw [h6,hnxY]
        exact next_mono M.idx.inv ps
  obtain ⟨rfl,hZd,hZx,hZn⟩:=hZ
  have IX:=IX.mono hle3
  have IY:=IY.mono hle3
  have hV:=hV.mono hle3
  have HL:=HL.mono hle3
  refine oj_run TT rfl ?_
  (repeat (first | refine cj_seq ?_ | refine cjr TT rfl ?_ | refine oj_then ?_))
  refine oj_set 105 (.agg (ixCells Y)) rfl (ixCells_lt _ _) (fun _=>rfl) ?_
  refine oj_callP (ys:=[.agg (ixCells Y),.agg [.v (.int .i64 K),.v (.slice ao L.length cap)]]) rfl rfl rfl rfl rfl Tryz.call40 ⟨ixCells_lt 0 Y,(by (repeat' (first | exact trivial | refine AllLt.of ?_ | constructor))),trivial⟩
    (IxTwice_c s3 Y IY (by omega) PY.ord K ⟨_,by rw [hdsY];exact List.mem_append_right _ (List.mem_singleton.2 rfl),rfl⟩ L R hsound ao cap HL)
    fun v hv=>⟨.tup [.agg (ixCells ix0),.a (.v (.int .i64 7))],(by intro x hx;simp only [List.mem_cons,List.not_mem_nil,or_false] at hx;rcases hx with rfl | rfl;exact ixCells_lt 0 ix0;trivial),hv.symm,?_⟩
  refine oj_run TT rfl ?_
  (repeat (first | refine cj_seq ?_ | refine cjr TT rfl ?_ | refine oj_then ?_))
  refine oj_set 113 (.agg (ixCells X)) rfl (ixCells_lt _ _) (fun _=>rfl) ?_
  refine oj_callS (ys:=[.agg (ixCells X),.a (.v (.int .i64 K))]) rfl rfl rfl rfl rfl Tryz.call41 ⟨ixCells_lt 0 X,trivial,trivial⟩
    (IxDrop_c s3 X IX (by omega) M.idx.ord (by omega) (fun x hx=>by have:=hfc x hx;omega) (fun d hd=>by have:=hdX d hd;omega) K)
    fun v s4 hle4 ⟨Z2,e,hv,IZ2,hD⟩=>⟨.tup [.agg (ixCells Z2),.a (.v (.int .i64 e))],(by intro x hx;simp only [List.mem_cons,List.not_mem_nil,or_false] at hx;rcases hx with rfl | rfl;exact ixCells_lt 0 Z2;trivial),hv.symm,?_⟩
  have he6:e=6:=by
    cases hD with
    | away p hp h2=>rfl
    | lines p hp d h2 h3 h4=>rfl
    | ok p hp d h2 h3 X' h4 h5 h6 =>
      exfalso
      have:=hKid d (List.mem_of_getElem? h2)
      omega
  subst he6
  have IX:=IX.mono hle4
  have IY:=IY.mono hle4
  have IZ:=IZ.mono hle4
  have hV:=hV.mono hle4
  refine oj_run TT rfl ?_
  (repeat (first | refine cj_seq ?_ | refine cjr TT rfl ?_ | refine oj_then ?_))
  refine oj_own 6 1 2 rfl (by (repeat' (first | exact trivial | refine AllLt.of ?_ | constructor))) rfl (by decide) fun gp=>?_
  refine oj_seal 0 rfl rfl rfl fun s5 hle5 hS5=>?_
  have P:=deep_at rfl hS5
  have IX:=IX.mono hle5
  have IY:=IY.mono hle5
  have IZ:=IZ.mono hle5
  have hV:=hV.mono hle5
  have hmX:=IxMatch_c s5 X IX (by omega) (fun d hd=>by have:=hdX d hd;omega) (by omega) [deepP] (by decide) _ _ P
  rw [on_deep M.idx] at hmX
  have hall:(X.ds.flatMap fun d=>itemsD d.id d.L)=allOf X:=rfl
  rw [hall] at hmX
  refine oj_set 120 (.agg (ixCells X)) rfl (ixCells_lt _ _) (fun _=>rfl) ?_
  refine oj_callS rfl rfl rfl rfl rfl Tryz.call30 ⟨ixCells_lt 0 X,trivial,trivial⟩ hmX fun v s6 hle6 ⟨ox,cx,hv,HX⟩=>⟨.a (.v (.slice ox (allOf X).length cx)),trivial,hv.symm,?_⟩
  have P:=P.mono hle6
  have IY:=IY.mono hle6
  have IZ:=IZ.mono hle6
  have hV:=hV.mono hle6
  clear hmX
  have hmY:=IxMatch_c s6 Y IY (by omega) (fun d hd=>by have:=hdY d hd;omega) (by omega) [deepP] (by decide) _ _ P
  rw [on_deep PY] at hmY
  have hall:(Y.ds.flatMap fun d=>itemsD d.id d.L)=allOf Y:=rfl
  rw [hall] at hmY
  refine oj_run TT rfl ?_
  (repeat (first | refine cj_seq ?_ | refine cjr TT rfl ?_ | refine oj_then ?_))
  refine oj_set 123 (.agg (ixCells Y)) rfl (ixCells_lt _ _) (fun _=>rfl) ?_
  refine oj_callS rfl rfl rfl rfl rfl Tryz.call30 ⟨ixCells_lt 0 Y,trivial,trivial⟩ hmY fun v s7 hle7 ⟨oy,cy,hv,HY⟩=>⟨.a (.v (.slice oy (allOf Y).length cy)),trivial,hv.symm,?_⟩
  have P:=P.mono hle7
  have IZ:=IZ.mono hle7
  have HX:=HX.mono hle7
  have hV:=hV.mono hle7
  clear hmY
  have hmZ:=IxMatch_c s7 Z IZ (by rw [hZd];omega) (fun d hd=>by rw [hZd] at hd;have:=hdX d hd;omega) (by rw [hZx];omega) [deepP] (by decide) _ _ P
  rw [hZx,hZd,on_deep M.idx] at hmZ
  have hall:(X.ds.flatMap fun d=>itemsD d.id d.L)=allOf X:=rfl
  rw [hall] at hmZ
  refine oj_run TT rfl ?_
  (repeat (first | refine cj_seq ?_ | refine cjr TT rfl ?_ | refine oj_then ?_))
  refine oj_set 126 (.agg (ixCells Z)) rfl (ixCells_lt _ _) (fun _=>rfl) ?_
  refine oj_callS rfl rfl rfl rfl rfl Tryz.call30 ⟨ixCells_lt 0 Z,trivial,trivial⟩ hmZ fun v s8 hle8 ⟨oz,cz,hv,HZ⟩=>⟨.a (.v (.slice oz (allOf X).length cz)),trivial,hv.symm,?_⟩
  clear hmZ
  have IZ:=IZ.mono hle8
  have HX:=HX.mono hle8
  have hV:=hV.mono hle8
  refine oj_run TT rfl ?_
  (repeat (first | refine cj_seq ?_ | refine cjr TT rfl ?_ | refine oj_then ?_))
  refine oj_split 134 rfl (fun _=>?_) (fun h=>absurd h (by simp))
  refine oj_run TT rfl ?_
  refine oj_split 138 rfl (fun _=>?_) (fun h=>absurd h (by simp))
  refine oj_run TT rfl ?_
  refine oj_split 142 rfl (fun _=>?_) (fun h=>absurd h (by simp))
  refine oj_run TT rfl ?_
  refine oj_split 146 rfl (fun _=>?_) (fun h=>absurd h (by simp))
  refine oj_run TT rfl ?_
  refine oj_split 152 rfl (fun _=>?_) (fun h=>absurd h (by simp))
  refine oj_run TT rfl ?_
  have hcnt:((allOf Y).length:Int)=(allOf X).length+cntV gv:=by have:=hallY;dsimp only at this;omega
  refine oj_set 156 (.agg (vCells gv gla glc gma gmc)) rfl (vCells_lt _ _ _ _ _ _) (fun _=>rfl) ?_
  refine oj_callP rfl rfl rfl rfl rfl Tryz.call42 (by (repeat' (first | exact trivial | exact vCells_lt _ _ _ _ _ _ | constructor))) (Count_c gv s8 _ hV (by omega)) fun v hv=>⟨.a (.v (.int .i64 (cntV gv))),trivial,hv.symm,?_⟩
  refine oj_run TT rfl ?_
  refine oj_add rfl rfl rfl rfl rfl rfl (by omega) (oj_run TT rfl ?_)
  refine oj_split 161 rfl (fun _=>?_) (fun h=>absurd (show decide (((allOf Y).length:Int)=(allOf X).length+cntV gv)=false from h) (by rw [hcnt];simp))
  refine oj_run TT rfl ?_
  refine oj_callS rfl rfl rfl rfl rfl Tryz.call44 (by (repeat' (first | exact trivial | constructor))) (theirs19_c s8 (allOf X) (by omega) ox cx HX) fun v s9 hle9 ⟨bx,dx,hv,BX⟩=>⟨.a (.v (.slice bx (allOf X).length dx)),trivial,hv.symm,?_⟩
  have HZ:=HZ.mono hle9
  have IZ:=IZ.mono hle9
  refine oj_run TT rfl ?_
  refine oj_callS rfl rfl rfl rfl rfl Tryz.call44 (by (repeat' (first | exact trivial | constructor))) (theirs19_c s9 (allOf X) (by omega) oz cz HZ) fun v s10 hle10 ⟨bz,dz,hv,BZ⟩=>⟨.a (.v (.slice bz (allOf X).length dz)),trivial,hv.symm,?_⟩
  have BX:=BX.mono hle10
  have IZ:=IZ.mono hle10
  refine oj_run TT rfl ?_
  refine oj_callP rfl rfl rfl rfl rfl Tryz.call43 (by (repeat' (first | exact trivial | constructor))) (Same19_c s10 (allOf X) (allOf X) (by omega) bx dx BX bz dz BZ) fun v hv=>⟨.a .tt,trivial,by rw [hv,decide_eq_true rfl];rfl,?_⟩
  refine oj_run TT rfl ?_
  refine oj_callP rfl rfl rfl rfl rfl Tryz.call45 (by (repeat' (first | exact trivial | refine AllLt.of ?_ | constructor))) (SoundGd_c s10 Z.xs (by rw [hZx];omega) Z.go Z.gc Z.next IZ.gl IZ.ok) fun v hv=>⟨.a .tt,trivial,by rw [hv,hZx];exact (congrArg Value.bool (snd_next hZn (sound_of M.idx.inv))).symm,?_⟩
  refine oj_run TT rfl ?_
  (repeat (first | refine oj_then ?_ | refine cj_ret ?_))
  refine nj_ret TT rfl fun β w' _ _=>?_
  rfl
end Go.Sy
/- From a row's data to what the walks ask: a value that is read in the world is a tree that lies in memory, all of it sealed. -/
namespace Go.Sy
open Go.ChangeShapes Go.RowKit
def snapOf (W:World):Snap:=fun b=>W.heap[b]?
theorem snapOf_sealed (W:World):Sealed (snapOf W) W:=fun _ _ h=>h
theorem snapOf_cell (W:World) (a:Addr):(snapOf W).cell a=W.cell? a:=rfl
structure VT (P:Program) (tV tL tM tE tD tS tI tB:TypeId):Prop where
  v:∃ fs:Array Field,P.underlying tV=some (.struct fs)/\fs.toList.map (fun f=>(f.type,f.offset))=[(tI,0),(tB,1),(tD,2),(tS,5),(tL,6),(tM,7)]
  l:P.underlying tL=some (.slice tV)
  m:P.underlying tM=some (.slice tE)
  e:∃ fs:Array Field,P.underlying tE=some (.struct fs)/\fs.toList.map (fun f=>(f.type,f.offset))=[(tS,0),(tV,1)]
  d:∃ fs:Array Field,P.underlying tD=some (.struct fs)/\fs.toList.map (fun f=>(f.type,f.offset))=[(tB,0),(tS,1),(tI,2)]
  s:P.underlying tS=some .string
  i:P.underlying tI=some (.int .i64)
  b:P.underlying tB=some .bool
  cV:P.cellsOf tV=8
  cE:P.cellsOf tE=9
  cD:P.cellsOf tD=3
  cS:P.cellsOf tS=1
  cI:P.cellsOf tI=1
  cB:P.cellsOf tB=1
  cL:P.cellsOf tL=1
  cM:P.cellsOf tM=1
  bV:0<P.bytesOf tV
  bE:0<P.bytesOf tE
section
variable {H:Type} {enc:TypeId×Value->H} {P:Program} {w:World} {sp:Nat->Bool} {held:Bool}
theorem field_at {fs:Array Field} {l:List (TypeId×Nat)} (h:fs.toList.map (fun f=>(f.type,f.offset))=l) {i:Nat} {t:TypeId} {o:Nat} (hi:l[i]?=some (t,o)) :
    ∃ f,fs[i]?=some f/\f.type=t/\f.offset=o:=by
  subst h
  rw [List.getElem?_map] at hi
  simp only [Option.map_eq_some_iff,Prod.mk.injEq] at hi
  obtain ⟨f,h1,h2,h3⟩:=hi
  exact ⟨f,by simpa using h1,h2,h3⟩
theorem open_struct {t:TypeId} {fs:Array Field} {l:List (TypeId×Nat)} {n:Nat} {cs:List Value} {x:DataW H×List MemPlace} (hu:P.underlying t=some (.struct fs)) (hl:fs.toList.map (fun f=>(f.type,f.offset))=l)
    (h:DataW.trod enc P w 0 sp held n t cs=some x) :
    ∃ m,m<n/\cs.length=P.cellsOf t/\∀ (i:Nat) (u:TypeId) (o:Nat),l[i]?=some (u,o)->∃ y:DataW H×List MemPlace,DataW.trod enc P w 0 sp held m u ((cs.drop o).take (P.cellsOf u))=some y/\∀ k∈y.1.weights P u,k∈x.1.weights P t:=by
  obtain ⟨xs,m,rfl,rfl,h1,h2,h3⟩:=DataW.trod_struct hu h
  refine ⟨m,by omega,h1,fun i u o hi=>?_⟩
  obtain ⟨f,hf,rfl,rfl⟩:=field_at hl hi
  have hi':i<xs.length:=by
    rw [h2]
    have:=(List.getElem?_eq_some_iff.1 (show fs.toList[i]?=some f by simpa using hf)).1
    simpa using this
  refine ⟨xs[i],by rw [h3 i f hf,List.getElem?_eq_getElem hi'],fun k hk=>?_⟩
  rw [DataW.weights.eq_def]
  simp only [hu]
  exact DataW.weights_mem_each (j:=i) (t:=f.type) (d:=xs[i].1) (by simp;exact ⟨f,by simpa using hf,rfl⟩) (by simp [List.getElem?_eq_getElem hi']) k hk
theorem weightsAll_mem {e:TypeId}:∀ {ds:List (DataW H)} {d:DataW H},d∈ds->∀ k∈d.weights P e,k∈DataW.weightsAll P e ds
  | _::_,_,.head _,k,hk=>by rw [DataW.weightsAll];exact List.mem_append_left _ hk
  | _::_,_,.tail _ h,k,hk=>by rw [DataW.weightsAll];exact List.mem_append_right _ (weightsAll_mem h k hk)
theorem open_sl {t e:TypeId} {n sz:Nat} {c:Value} {x:DataW H×List MemPlace} (hu:P.underlying t=some (.slice e)) (hc:P.cellsOf e=sz) (hb:0<P.bytesOf e) (h:DataW.trod enc P w 0 sp held n t [c]=some x)
    (hw:∀ k∈x.1.weights P t,k<=reachBytes) :
    ∃ (ao:Option Addr) (len cap m:Nat),c=.slice ao len cap/\m<n/\len<=cap/\len<=reachBytes /\
      (len=0\/∃ a,ao=some a/\∀ i,i<len->∃ (cs:List Value) (y:DataW H×List MemPlace),cs.length=sz/\(∀ j v,cs[j]?=some v->w.cell? (a.add (i*sz+j))=some v) /\
        DataW.trod enc P w 0 sp held m e cs=some y/\∀ k∈y.1.weights P e,k∈x.1.weights P t):=by
  rcases DataW.trod_slice hu h with ⟨h1,rfl⟩ | ⟨a,len,cap,elems,rest,m,rfl,h1,rfl,_,h3,h4,h5,h6,_,_⟩
  · injection h1 with h1
    subst h1
    refine ⟨none,0,0,0,rfl,?_,Nat.le_refl _,by decide,.inl rfl⟩
    cases n with
    | zero=>simp [DataW.trod] at h
    | succ n=>omega
  · injection h1 with h1
    subst h1
    have hwt:(DataW.slice (elems.map (·.1)) (rest.map (·.1)):DataW H).weights P t=((elems.map (·.1)).length+(rest.map (·.1)).length)*P.bytesOf e::(DataW.weightsAll P e (elems.map (·.1))++DataW.weightsAll P e (rest.map (·.1))):=by
      rw [DataW.weights.eq_def]
      simp only [hu]
    refine ⟨some a,len,cap,m,rfl,by omega,h3,?_,.inr ⟨a,rfl,fun i hi=>?_⟩⟩
    · have:=hw _ (by rw [hwt];exact List.mem_cons_self)
      simp only [List.length_map] at this
      have h7:elems.length<=(elems.length+rest.length)*P.bytesOf e:=Nat.le_trans (Nat.le_add_right _ _) (Nat.le_mul_of_pos_right _ hb)
      omega
    · have hi':i<elems.length:=by omega
      have h8:=h6 i hi
      rw [List.getElem?_eq_getElem hi',hc] at h8
      obtain ⟨cs,h9,h10⟩:=Option.bind_eq_some_iff.1 h8
      obtain ⟨_,h11,h12⟩:=World.cells?_some h9
      refine ⟨cs,elems[i],h11,fun j v hj=>?_,h10,fun k hk=>?_⟩
      · have hj':j<sz:=by rw [<-h11];exact (List.getElem?_eq_some_iff.1 hj).1
        have:=h12 j hj'
        rw [hj] at this
        rw [<-this]
        congr 1
        exact (Addr.add_add _ _ _).symm
      · rw [hwt]
        exact List.mem_cons_of_mem _ (List.mem_append_left _ (weightsAll_mem (List.mem_map.2 ⟨elems[i],List.getElem_mem hi',rfl⟩) k hk))
theorem RepL.range {σ:Snap} {G:Nat->GVal} {R:Nat->List AT}:∀ l:List Nat,(∀ i∈l,RepV σ (G i) (R i))->RepL σ (l.map G) (l.map R)
  | [],_=>by simp [RepL]
  | a::l,h=>by
    simp only [List.map_cons,RepL]
    exact ⟨R a,l.map R,rfl,h a List.mem_cons_self,RepL.range l fun i hi=>h i (List.mem_cons_of_mem _ hi)⟩
theorem keyRows_range (K:Nat->ByteArray) (R:Nat->List AT):∀ l:List Nat,keyRows (l.map K) (l.map R)=l.map fun i=>keyRow (K i) (R i)
  | []=>rfl
  | a::l=>by simp [keyRows,keyRows_range K R l]
theorem slAt_range {ao:Option Addr} {len cap sz:Nat} {R:Nat->List AT} (h1:len<=cap) (h2:∀ i,i<len->(R i).length=sz/\∀ c∈R i,c.lt 0)
    (h3:len=0\/∃ a,ao=some a/\∀ i,i<len->∀ j v,((R i).map (AT.den β0))[j]?=some v->w.cell? (a.add (i*sz+j))=some v):SlAt (snapOf w) ao len cap sz ((List.range len).map R):=by
  refine ⟨by simp,h1,fun r hr=>?_,?_⟩
  · obtain ⟨i,hi,rfl⟩:=List.mem_map.1 hr
    exact h2 i (List.mem_range.1 hi)
  · rcases h3 with h3 | ⟨a,h3,h4⟩
    · exact .inl h3
    · refine .inr ⟨a,h3,fun i r j c hr hc=>?_⟩
      rw [List.getElem?_map] at hr
      obtain ⟨i',h5,rfl⟩:=Option.map_eq_some_iff.1 hr
      obtain ⟨h6,h7⟩:=List.getElem?_eq_some_iff.1 h5
      have h8:i<len:=by simpa using h6
      have h9:i'=i:=by simpa using h7.symm
      subst h9
      rw [snapOf_cell]
      exact h4 i' h8 j _ (by rw [List.getElem?_map,hc];rfl)
variable {tV tL tM tE tD tS tI tB:TypeId}
theorem open_str {n:Nat} {t:TypeId} {c:Value} {x:DataW H×List MemPlace} (hu:P.underlying t=some .string) (h:DataW.trod enc P w 0 sp held n t [c]=some x) (hw:∀ k∈x.1.weights P t,k<=reachBytes) :
    ∃ s:ByteArray,c=.string s/\s.size<=mostLen:=by
  obtain ⟨s,h1,rfl,_⟩:=DataW.trod_string hu h
  injection h1 with h1
  subst h1
  refine ⟨s,rfl,?_⟩
  have:=hw s.data.toList.length (by rw [DataW.weights.eq_def];exact List.mem_cons_self)
  have h2:s.data.toList.length=s.size:=rfl
  rw [h2] at this
  exact this
theorem open_val (T:VT P tV tL tM tE tD tS tI tB):∀ (n:Nat) (cs:List Value) (x:DataW H×List MemPlace),DataW.trod enc P w 0 sp held n tV cs=some x->(∀ k∈x.1.weights P tV,k<=reachBytes) ->
    ∃ (g:GVal) (r:List AT),cs=r.map (AT.den β0)/\RepV (snapOf w) g r:=by
  intro n
  induction n using Nat.strongRecOn with
  | _ n ih=>?_
  intro cs x h hw
  obtain ⟨fs,hu,hl⟩:=T.v
  obtain ⟨m,hm,hlen,hf⟩:=open_struct hu hl h
  rw [T.cV] at hlen
  match cs,hlen with
  | [c0,c1,c2,c3,c4,c5,c6,c7],_ =>
  obtain ⟨y0,h0,_⟩:=hf 0 tI 0 rfl
  obtain ⟨y1,h1,_⟩:=hf 1 tB 1 rfl
  obtain ⟨y2,h2,w2⟩:=hf 2 tD 2 rfl
  obtain ⟨y3,h3,w3⟩:=hf 3 tS 5 rfl
  obtain ⟨y4,h4,w4⟩:=hf 4 tL 6 rfl
  obtain ⟨y5,h5,w5⟩:=hf 5 tM 7 rfl
  rw [T.cI] at h0
  rw [T.cB] at h1
  rw [T.cD] at h2
  rw [T.cS] at h3
  rw [T.cL] at h4
  rw [T.cM] at h5
  simp only [List.drop_zero,List.drop_succ_cons,List.take_succ_cons,List.take_zero] at h0 h1 h2 h3 h4 h5
  obtain ⟨k,e0,-,-⟩:=DataW.trod_int T.i h0
  obtain ⟨b,e1,-⟩:=DataW.trod_bool T.b h1
  obtain ⟨s,e5,hs⟩:=open_str T.s h3 fun k hk=>hw k (w3 k hk)
  obtain ⟨fd,hud,hld⟩:=T.d
  obtain ⟨md,hmd,-,hfd⟩:=open_struct hud hld h2
  obtain ⟨z0,g0,_⟩:=hfd 0 tB 0 rfl
  obtain ⟨z1,g1,v1⟩:=hfd 1 tS 1 rfl
  obtain ⟨z2,g2,_⟩:=hfd 2 tI 2 rfl
  rw [T.cB] at g0
  rw [T.cS] at g1
  rw [T.cI] at g2
  simp only [List.drop_zero,List.drop_succ_cons,List.take_succ_cons,List.take_zero] at g0 g1 g2
  obtain ⟨ng,e2,-⟩:=DataW.trod_bool T.b g0
  obtain ⟨dg,e3,hdg⟩:=open_str T.s g1 fun k hk=>hw k (w2 k (v1 k hk))
  obtain ⟨ex,e4,-,-⟩:=DataW.trod_int T.i g2
  injection e0 with e0
  injection e1 with e1
  injection e2 with e2
  injection e4 with e4
  subst e0 e1 e2 e3 e4 e5
  obtain ⟨la,ll,lc,ml,rfl,hml,hll,hlr,hle⟩:=open_sl T.l T.cV T.bV h4 fun k hk=>hw k (w4 k hk)
  obtain ⟨ma,lm,mc,mm,rfl,hmm,hlm,hmr,hme⟩:=open_sl T.m T.cE T.bE h5 fun k hk=>hw k (w5 k hk)
  have HL:∀ i,∃ gr:GVal×List AT,i<ll->RepV (snapOf w) gr.1 gr.2/\∀ a,la=some a->∀ j v,(gr.2.map (AT.den β0))[j]?=some v->w.cell? (a.add (i*8+j))=some v:=by
    intro i
    by_cases hi:i<ll
    · rcases hle with h0 | ⟨a,rfl,hle⟩
      · omega
      · obtain ⟨cs,y,_,q2,q3,q4⟩:=hle i hi
        obtain ⟨g,r,rfl,hr⟩:=ih ml (by omega) cs y q3 fun k hk=>hw k (w4 k (q4 k hk))
        exact ⟨(g,r),fun _=>⟨hr,fun a' ha=>by injection ha with ha;subst ha;exact q2⟩⟩
    · exact ⟨(.mk 0 false ⟨false,⟨#[]⟩,0⟩ ⟨#[]⟩ [] [] [],[]),fun h=>absurd h hi⟩
  have HM:∀ i,∃ gr:ByteArray×GVal×List AT,i<lm->gr.1.size<=mostLen/\RepV (snapOf w) gr.2.1 gr.2.2/\∀ a,ma=some a->∀ j v,((keyRow gr.1 gr.2.2).map (AT.den β0))[j]?=some v->w.cell? (a.add (i*9+j))=some v:=by
    intro i
    by_cases hi:i<lm
    · rcases hme with h0 | ⟨a,rfl,hme⟩
      · omega
      · obtain ⟨cs,y,q1,q2,q3,q4⟩:=hme i hi
        obtain ⟨fe,hue,hle'⟩:=T.e
        obtain ⟨me,hme',-,hfe⟩:=open_struct hue hle' q3
        obtain ⟨u0,p0,x0⟩:=hfe 0 tS 0 rfl
        obtain ⟨u1,p1,x1⟩:=hfe 1 tV 1 rfl
        rw [T.cS] at p0
        rw [T.cV] at p1
        match cs,q1 with
        | c::cs',q1 =>
          simp only [List.drop_zero,List.drop_succ_cons,List.take_succ_cons,List.take_zero] at p0 p1
          rw [List.take_of_length_le (by simp at q1;omega)] at p1
          obtain ⟨key,rfl,hk⟩:=open_str T.s p0 fun k hk=>hw k (w5 k (q4 k (x0 k hk)))
          obtain ⟨g,r,rfl,hr⟩:=ih me (by omega) cs' u1 p1 fun k hk=>hw k (w5 k (q4 k (x1 k hk)))
          exact ⟨(key,g,r),fun _=>⟨hk,hr,fun a' ha=>by injection ha with ha;subst ha;exact q2⟩⟩
    · exact ⟨(⟨#[]⟩,.mk 0 false ⟨false,⟨#[]⟩,0⟩ ⟨#[]⟩ [] [] [],[]),fun h=>absurd h hi⟩
  obtain ⟨FL,HL⟩:=Classical.axiomOfChoice HL
  obtain ⟨FM,HM⟩:=Classical.axiomOfChoice HM
  refine ⟨.mk k b ⟨ng,dg,ex⟩ s ((List.range ll).map fun i=>(FL i).1) ((List.range lm).map fun i=>(FM i).1) ((List.range lm).map fun i=>(FM i).2.1),
    [.v (.int .i64 k),.b b,.b ng,.v (.string dg),.v (.int .i64 ex),.v (.string s),.v (.slice la ll lc),.v (.slice ma lm mc)],rfl,?_⟩
  simp only [RepV]
  refine ⟨la,lc,(List.range ll).map fun i=>(FL i).2,ma,mc,(List.range lm).map fun i=>(FM i).2.2,by simp,?_,RepL.range _ fun i hi=>(HL i (List.mem_range.1 hi)).1,by simp,?_,RepL.range _ fun i hi=>(HM i (List.mem_range.1 hi)).2.1,hdg,hs,by simpa [mostLen,reachBytes] using hlr,by simpa [mostLen,reachBytes] using hmr,?_⟩
  · simp only [List.length_map,List.length_range]
    refine slAt_range hll (fun i hi=>⟨(HL i hi).1.len,(HL i hi).1.clo⟩) ?_
    rcases hle with h0 | ⟨a,rfl,_⟩
    · exact .inl h0
    · exact .inr ⟨a,rfl,fun i hi=>(HL i hi).2 a rfl⟩
  · rw [keyRows_range]
    simp only [List.length_map,List.length_range]
    refine slAt_range hlm (fun i hi=>⟨by simp [keyRow,(HM i hi).2.1.len],fun c hc=>?_⟩) ?_
    · cases hc with
      | head=>trivial
      | tail _ hc=>exact (HM i hi).2.1.clo c hc
    · rcases hme with h0 | ⟨a,rfl,_⟩
      · exact .inl h0
      · exact .inr ⟨a,rfl,fun i hi=>(HM i hi).2.2 a rfl⟩
  · intro key hk
    obtain ⟨i,hi,rfl⟩:=List.mem_map.1 hk
    exact (HM i (List.mem_range.1 hi)).1
end
end Go.Sy
/- The closing of a law's row, alike from law to law. -/
namespace Go.Sy
open Go.ChangeShapes Go.RowKit
section
variable {H:Type} {enc:TypeId×Value->H} {P:Program} {W W':World} {sp:Nat->Bool}
theorem trodAll_stays {T:TypeId->Prop} (K:_root_.Go.Kids P T) (hz:∀ t e,T t->P.underlying t=some (.slice e)->0<P.cellsOf e) :
    ∀ {ts:List TypeId} {vs:List Value} {ds:List (DataW H)} {ps:List MemPlace},(∀ t∈ts,T t)->DataW.TrodAll enc P W 0 (fun _=>true) true ts vs ds ps ->
      (∀ p∈ps,W.sameAt W' p)->(∀ p∈ps,sp p.block=true)->DataW.TrodAll enc P W' 0 sp true ts vs ds ps
  | [],[],[],_,_,h,_,_=>h
  | _::_,_::_,_::_,_,hT,⟨p,q,⟨n,h1⟩,h2,e⟩,hs,hb =>
    ⟨p,q,⟨n,DataW.trod_stays K (fun ht hu=>hz _ _ ht hu) (fun h=>by cases h) (hT _ List.mem_cons_self) h1 (fun x hx=>hs x (by rw [e];exact List.mem_append_left _ hx)) (fun x hx=>hb x (by rw [e];exact List.mem_append_left _ hx))⟩,
      trodAll_stays K hz (fun t ht=>hT t (List.mem_cons_of_mem _ ht)) h2 (fun x hx=>hs x (by rw [e];exact List.mem_append_right _ hx)) (fun x hx=>hb x (by rw [e];exact List.mem_append_right _ hx)),e⟩
theorem below_of_fr {M:Nat->Prop} {w w':World} (h:Fr M w w') (hM:∀ b,¬ M b):Below w.heap.size w w':=⟨h.os,h.tape,h.output,h.size,fun k hk=>h.block k hk (hM k)⟩
theorem post_of_law {f:Func} {s:ChangeSpec} {apart fresh handsOn again:Bool} {args:Array Value} {ds gs:List (DataW H)} {before:List MemPlace} {tB:TypeId}
    (hl:laidOutB P=true) (hm:mapsRowed P=true) (hz:∀ t e,t<P.types.size->P.underlying t=some (.slice e)->0<P.cellsOf e)
    (hts:∀ t∈f.params.toList,t<P.types.size) (hr:f.resultTypes=#[tB]) (hB:P.underlying tB=some .bool) (hv:s.vars=[])
    (hres:(s.fn H (ds++gs)).results=[.lit (.bool true)]) (hargs:(s.fn H (ds++gs)).args=ds) (hvars:(s.fn H (ds++gs)).vars=[])
    (hW:DataW.Whole enc P f.params.toList s.vars apart W args.toList ds gs before) (hb:Below W.heap.size W W') :
    s.post enc P f apart fresh handsOn again W args (.bool true) W':=by
  have hW':=hW
  obtain ⟨p,q,hA,hV,rfl,hfz,hnd⟩:=hW
  rw [hv] at hV
  obtain ⟨rfl,rfl⟩:=trodVars_none hV
  have hlt:∀ x∈p++([]:List MemPlace),x.block<W.heap.size:=fun x hx=>hW'.lt x hx
  have h1:∀ (b:Nat) (sp:Nat->Bool) (hd:Bool),DataW.TrodAll enc P W' b sp hd f.resultTypes.toList ((Value.bool true).resultList f.resultTypes.size) (s.fn H (ds++[])).results []:=by
    intro b sp hd
    rw [hr,hres]
    exact trodAll_mk1 (shut_bool hB true)
  have h2:∀ sp:Nat->Bool,(∀ x∈p++([]:List MemPlace),sp x.block=true)->DataW.TrodAll enc P W' 0 sp true f.params.toList args.toList (s.fn H (ds++[])).args p:=by
    intro sp hs
    rw [hargs]
    exact trodAll_stays (T:=(·<P.types.size)) (kids_rows hl hm) hz hts hA (fun x hx=>hb.same (hlt x (List.mem_append_left _ hx))) (fun x hx=>hs x (List.mem_append_left _ hx))
  have h3:∀ sp:Nat->Bool,DataW.TrodVars enc P W' sp s.vars (s.fn H (ds++[])).vars []:=by
    intro sp
    rw [hv,hvars]
    rfl
  have hold:∀ x∈p++([]:List MemPlace),(fun b=>decide (b<W.heap.size)) x.block=true:=fun x hx=>by simpa using hlt x hx
  refine ⟨ds,[],_,[],p,[],hW',h1 _ _ _,h2 _ hold,h3 _,hb.frame _,fun _=>⟨ok_one hr rfl (okWide_bool_mk hB _),_,_,([]++p)++[],⟨[]++p,[],trodAll_append (h2 _ (fun _ _=>rfl)) (h1 _ _ _),h3 _,rfl,?_,?_⟩,?_⟩⟩
  · intro b off hp
    have hp':MemPlace.cell b off∈p++([]:List MemPlace):=by simpa using hp
    rw [hb.frozen (p:=⟨b,off,none⟩) (hlt _ hp')]
    exact hfz b off hp'
  · intro ha
    have:=hnd ha
    simpa using this
  · intro x hp _
    simpa using hp
theorem okWide_agg {tV tL tM tE tD tS tI tB:TypeId} (T:VT P tV tL tM tE tD tS tI tB) {r:Reach} {base:Nat} {v:Value} (h:Value.okWide P W r base tV v):∃ cs:Array Value,v=.agg cs/\cs.size=P.cellsOf tV:=by
  obtain ⟨fs,hu,_⟩:=T.v
  unfold Value.okWide at h
  rw [hu] at h
  obtain ⟨cs,h1,h2,_⟩:=h
  exact ⟨cs,h1,h2⟩
theorem okWide_str {t:TypeId} (T:∃ fs,P.underlying t=some (.struct fs)) {r:Reach} {base:Nat} {v:Value} (h:Value.okWide P W r base t v):∃ (fs:Array Field) (_:P.underlying t=some (.struct fs)) (cs:Array Value),v=.agg cs/\cs.size=P.cellsOf t:=by
  obtain ⟨fs,hu⟩:=T
  unfold Value.okWide at h
  rw [hu] at h
  obtain ⟨cs,h1,h2,_⟩:=h
  exact ⟨fs,hu,cs,h1,h2⟩
theorem weights_le {ts:List TypeId} {ds:List (DataW H)} (h:(DataW.weightsEach P ts ds).all (·<=reachBytes)=true) {j:Nat} {t:TypeId} {d:DataW H} (ht:ts[j]?=some t) (hd:ds[j]?=some d):∀ k∈d.weights P t,k<=reachBytes:=by
  intro k hk
  have:=List.all_eq_true.1 h k (DataW.weights_mem_each ht hd k hk)
  simpa using this
end
end Go.Sy
/- Closed facts of the program that every row's closing asks. -/
namespace Go.Proofs.YtlonlnagmfdlbaaGreatDoor.Row
open Go Go.Proofs Go.Sy Go.ChangeShapes Go.WideShapes Go.ChangeAt Go.RowKit
set_option maxRecDepth 100000
theorem own:ownKnob Tryz.prog.godebug=none:=by kernel_rfl
theorem laidOut:laidOutB Tryz.prog=true:=by kernel_rfl
theorem rowed:mapsRowed Tryz.prog=true:=by kernel_rfl
theorem full:∀ t e,t<Tryz.prog.types.size->Tryz.prog.underlying t=some (.slice e)->0<Tryz.prog.cellsOf e:=slices_full_of Tryz.prog (by kernel_rfl)
theorem vt:VT Tryz.prog 28 25 26 184 24 9 3 4 where
  v:=⟨_,Tryz.underlying28,rfl⟩
  l:=by kernel_rfl
  m:=by kernel_rfl
  e:=⟨_,Tryz.underlying184,rfl⟩
  d:=⟨_,Tryz.underlying24,rfl⟩
  s:=by kernel_rfl
  i:=by kernel_rfl
  b:=by kernel_rfl
  cV:=by kernel_rfl
  cE:=by kernel_rfl
  cD:=by kernel_rfl
  cS:=by kernel_rfl
  cI:=by kernel_rfl
  cB:=by kernel_rfl
  cL:=by kernel_rfl
  cM:=by kernel_rfl
  bV:=of_decide_eq_true (by kernel_rfl)
  bE:=of_decide_eq_true (by kernel_rfl)
end Go.Proofs.YtlonlnagmfdlbaaGreatDoor.Row
/- The library's variable holds a whole number. -/
namespace Go.Proofs.YtlonlnagmfdlbaaGreatDoor.Row
open Go Go.Proofs Go.Sy Go.ChangeShapes Go.WideShapes Go.ChangeAt Go.RowKit
set_option maxRecDepth 100000
theorem farLen (w:World) (h:w.ShapedOpen Tryz.prog):∃ m,w.cell? ⟨0,0,none⟩=some (.int .i64 m):=Go.Proofs.cell_of_shapedOpen_int (zero:=#[.int .i64 0]) (t:=3) h (of_decide_eq_true (by kernel_rfl)) (by kernel_rfl) rfl (by kernel_rfl) (by kernel_rfl) Tryz.underlying3
end Go.Proofs.YtlonlnagmfdlbaaGreatDoor.Row
/- More of what rows hand in: lists of values. No program in sight. -/
namespace Go.Sy
open Go.ChangeShapes Go.RowKit
section
variable {H:Type} {enc:TypeId×Value->H} {P:Program} {w:World} {sp:Nat->Bool} {held:Bool} {tV tL tM tE tD tS tI tB:TypeId}
theorem open_valL (T:VT P tV tL tM tE tD tS tI tB) {n:Nat} {c:Value} {x:DataW H×List MemPlace} (h:DataW.trod enc P w 0 sp held n tL [c]=some x) (hw:∀ k∈x.1.weights P tL,k<=reachBytes) :
    ∃ (ao:Option Addr) (cap:Nat) (gs:List GVal) (rows:List (List AT)),c=.slice ao gs.length cap/\SlAt (snapOf w) ao gs.length cap 8 rows/\gs.length<=140737488355328/\RepL (snapOf w) gs rows:=by
  obtain ⟨la,ll,lc,ml,rfl,hml,hll,hlr,hle⟩:=open_sl T.l T.cV T.bV h hw
  have HL:∀ i,∃ gr:GVal×List AT,i<ll->RepV (snapOf w) gr.1 gr.2/\∀ a,la=some a->∀ j v,(gr.2.map (AT.den β0))[j]?=some v->w.cell? (a.add (i*8+j))=some v:=by
    intro i
    by_cases hi:i<ll
    · rcases hle with h0 | ⟨a,rfl,hle⟩
      · omega
      · obtain ⟨cs,y,_,q2,q3,q4⟩:=hle i hi
        obtain ⟨g,r,rfl,hr⟩:=open_val T ml cs y q3 fun k hk=>hw k (q4 k hk)
        exact ⟨(g,r),fun _=>⟨hr,fun a' ha=>by injection ha with ha;subst ha;exact q2⟩⟩
    · exact ⟨(.mk 0 false ⟨false,⟨#[]⟩,0⟩ ⟨#[]⟩ [] [] [],[]),fun h=>absurd h hi⟩
  obtain ⟨FL,HL⟩:=Classical.axiomOfChoice HL
  refine ⟨la,lc,(List.range ll).map fun i=>(FL i).1,(List.range ll).map fun i=>(FL i).2,by simp,?_,?_,RepL.range _ fun i hi=>(HL i (List.mem_range.1 hi)).1⟩
  · simp only [List.length_map,List.length_range]
    refine slAt_range hll (fun i hi=>⟨(HL i hi).1.len,(HL i hi).1.clo⟩) ?_
    rcases hle with h0 | ⟨a,rfl,_⟩
    · exact .inl h0
    · exact .inr ⟨a,rfl,fun i hi=>(HL i hi).2 a rfl⟩
  · simp only [List.length_map,List.length_range]
    simp only [reachBytes] at hlr
    omega
end
end Go.Sy
