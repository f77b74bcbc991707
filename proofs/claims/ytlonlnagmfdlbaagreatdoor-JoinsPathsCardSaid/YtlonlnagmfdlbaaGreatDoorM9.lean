/- Parts of the proof of CJoinsPaths: H1, SyY, H5, H6. No conditions. -/
import Derived.Test.YtlonlnagmfdlbaaGreatDoorM8
namespace Go.Sy
open Go.Proofs
theorem nj_cutArr {cf:Cf} {Q:Exit->Act->World->Prop} {σ:Snap} {env:Env} {hp:HP} {A:List AE} {nh:Nat} {e:Exit} (i k:Nat) {E:AE} {A':List AE} (hi:A[i]?=some E) (hk:k<=E.n) (hA:A.set i (E.cut k)=A') (h:NJ cf e Q σ env hp A' nh):NJ cf e Q σ env hp A nh :=
  ⟨fun hb a β w ha hw=>h.run hb a β w ha (hA▸hw.cutArr hi hk)⟩
theorem oj_ldSs {cf:Cf} {Q:Exit->Act->World->Prop} {σ:Snap} {env:Env} {hp:HP} {A:List AE} {nh:Nat} {it:Item} {rest:List Item} {d t:Nat} {x:Operand} {T:List (Nat×TI)} (hT:TTok cf.P T) {ti:TI} {g off:Nat} (cs:List AT) (hop:it.o.op=.load t x) (hd:it.o.dst=some d) (hg:guardVal it.guard env=some true) (hN:Nat.blt d cf.N=true)
    (htag:(match it.tag with | .pure=>false | _=>true)=true) (hx:evalO env x=some (.a (.v (.pointer (some ⟨g,off,none⟩))))) (ht:tget T t=some ti) (hag:ti.agg=true)
    (hlen:cs.length=ti.size) (hv:∀ (j:Nat) c,cs[j]?=some c->σ.cell ⟨g,off+j,none⟩=some c.val) (hc:∀ c∈cs,c.lt 0) (k:OJ cf rest Q σ ((d,.agg cs)::env) hp A nh):OJ cf (it::rest) Q σ env hp A nh:=by
  refine oj_valW (.agg cs) hd hg hN (fun c h=>AT.lt_mono (Nat.zero_le _) (hc c h)) htag (fun _ a β ha w hw=>?_) k
  obtain ⟨inf,d',z,hs⟩:=tiOf_spec (hT _ _ ht)
  have hx':a.eval x=.pointer (some ⟨g,off,none⟩):=evalO_eval ha hx
  have hrun:=run_loadCells_list (P:=cf.P) (w:=w) ⟨g,off,none⟩ (cs.map (AT.den β)) (fun j v hv'=>by
    rw [List.getElem?_map] at hv'
    obtain ⟨c,hc',rfl⟩:=map_some hv'
    rw [Addr.add_lit,AT.den_val (hc c (List.mem_of_getElem? hc')) β]
    exact Snap.cell_sealed hw (hv j c hc'))
  have hl:(cs.map (AT.den β)).length=inf.size:=by simp [hlen,hs.size]
  rw [hl] at hrun
  simp only [execOp,hop,Instr.loadAt,hx',Instr.sureAddr,loadVar,Sem.run_bind,Sem.run_pure,Result.andThen_ok,run_isAgg hs.und,hs.agg,hag,if_true,run_size hs.info,hrun]
  rfl
def itCells (x:GItem):List AT:=[.v (.int .i64 x.doc),.v (.int .i64 x.at_),.v (.int .i64 x.st),.v (.int .i64 x.en),.v (.int .i64 x.lv)]
theorem itCells_lt (n:Nat) (x:GItem):∀ c∈itCells x,c.lt n:=by simp [itCells,AT.lt]
def opCells (z:OI):List AT:=itCells z.1++[.v (.int .i64 z.2)]
theorem opCells_lt (n:Nat) (z:OI):∀ c∈opCells z,c.lt n:=by simp [opCells,itCells,AT.lt]
set_option maxRecDepth 100000 in
set_option maxHeartbeats 1000000 in
theorem over_c (σ:Snap) (a d:GItem):PlainS Tryz.prog 97 [.agg (itCells a),.agg (itCells d)] σ (fun v=>v=.bool (overI a d)):=by
  refine enter_p Tryz.func97 rfl rfl ⟨itCells_lt 0 a,itCells_lt 0 d,trivial⟩ fun w=>?_
  (repeat (first | refine cj_seq ?_ | refine cjr TT rfl ?_ | refine oj_then ?_))
  refine oj_split 10 rfl (fun h=>?_) (fun h=>?_)
  · have h:(!decide (a.doc=d.doc))=true:=h
    refine oj_run TT rfl ?_
    (repeat (first | refine oj_then ?_ | refine cj_ret ?_))
    refine nj_ret TT rfl fun β w' _ _=>?_
    exact congrArg Value.bool (by unfold overI;rw [h];rfl)
  · have h:(!decide (a.doc=d.doc))=false:=h
    refine oj_run TT rfl ?_
    (repeat (first | refine oj_then ?_ | refine cj_ret ?_))
    refine nj_ret TT rfl fun β w' _ _=>?_
    exact congrArg Value.bool (by unfold overI;rw [h];rfl)
set_option maxRecDepth 100000 in
set_option maxHeartbeats 1000000 in
theorem holds_c (σ:Snap) (a d:GItem):PlainS Tryz.prog 98 [.agg (itCells a),.agg (itCells d)] σ (fun v=>v=.bool (holdsI a d)):=by
  refine enter_p Tryz.func98 rfl rfl ⟨itCells_lt 0 a,itCells_lt 0 d,trivial⟩ fun w=>?_
  (repeat (first | refine cj_seq ?_ | refine cjr TT rfl ?_ | refine oj_then ?_))
  refine oj_split 10 rfl (fun h=>?_) (fun h=>?_)
  · have h:decide (a.doc=d.doc)=true:=h
    refine oj_run TT rfl ?_
    refine oj_split 17 rfl (fun h2=>?_) (fun h2=>?_)
    · have h2:decide (a.st<d.st)=true:=h2
      refine oj_run TT rfl ?_
      (repeat (first | refine oj_then ?_ | refine cj_ret ?_))
      refine nj_ret TT rfl fun β w' _ _=>?_
      exact congrArg Value.bool (by unfold holdsI;rw [h,h2];rfl)
    · have h2:decide (a.st<d.st)=false:=h2
      refine oj_run TT rfl ?_
      (repeat (first | refine oj_then ?_ | refine cj_ret ?_))
      refine nj_ret TT rfl fun β w' _ _=>?_
      exact congrArg Value.bool (by unfold holdsI;rw [h,h2];rfl)
  · have h:decide (a.doc=d.doc)=false:=h
    refine oj_run TT rfl ?_
    (repeat (first | refine oj_then ?_ | refine cj_ret ?_))
    refine nj_ret TT rfl fun β w' _ _=>?_
    exact congrArg Value.bool (by unfold holdsI;rw [h];rfl)
set_option maxRecDepth 100000 in
set_option maxHeartbeats 1000000 in
theorem ahead_c (σ:Snap) (a d:GItem):PlainS Tryz.prog 94 [.agg (itCells a),.agg (itCells d)] σ (fun v=>v=.bool (aheadI a d)):=by
  refine enter_p Tryz.func94 rfl rfl ⟨itCells_lt 0 a,itCells_lt 0 d,trivial⟩ fun w=>?_
  (repeat (first | refine cj_seq ?_ | refine cjr TT rfl ?_ | refine oj_then ?_))
  refine oj_split 10 rfl (fun h=>?_) (fun h=>?_)
  · have h:decide (a.doc<d.doc)=true:=h
    refine oj_run TT rfl ?_
    (repeat (first | refine oj_then ?_ | refine cj_ret ?_))
    refine nj_ret TT rfl fun β w' _ _=>?_
    exact congrArg Value.bool (by unfold aheadI;rw [h];rfl)
  · have h:decide (a.doc<d.doc)=false:=h
    refine oj_run TT rfl ?_
    refine oj_split 16 rfl (fun h2=>?_) (fun h2=>?_)
    · have h2:decide (a.doc=d.doc)=true:=h2
      refine oj_run TT rfl ?_
      (repeat (first | refine oj_then ?_ | refine cj_ret ?_))
      refine nj_ret TT rfl fun β w' _ _=>?_
      exact congrArg Value.bool (by unfold aheadI;rw [h,h2];rfl)
    · have h2:decide (a.doc=d.doc)=false:=h2
      refine oj_run TT rfl ?_
      (repeat (first | refine oj_then ?_ | refine cj_ret ?_))
      refine nj_ret TT rfl fun β w' _ _=>?_
      exact congrArg Value.bool (by unfold aheadI;rw [h,h2];rfl)
set_option maxRecDepth 100000 in
set_option maxHeartbeats 1000000 in
theorem fits_c (σ:Snap) (a d:GItem) (kid:Bool) (hb:-1000000000000<=a.lv/\a.lv<=1000000000000):PlainS Tryz.prog 87 [.agg (itCells a),.agg (itCells d),.a (.b kid)] σ (fun v=>v=.bool (fitsI a d kid)):=by
  refine enter_p Tryz.func87 rfl rfl ⟨itCells_lt 0 a,itCells_lt 0 d,trivial,trivial⟩ fun w=>?_
  (repeat (first | refine cj_seq ?_ | refine cjr TT rfl ?_ | refine oj_then ?_))
  refine oj_callP rfl rfl rfl rfl rfl Tryz.call98 (by (repeat' (first | exact trivial | refine AllLt.of ?_ | constructor))) (holds_c σ a d) fun v hv=>⟨.a (.b (holdsI a d)),trivial,hv.symm,?_⟩
  refine oj_run TT rfl ?_
  refine oj_split 10 rfl (fun h=>?_) (fun h=>?_)
  · have h:holdsI a d=true:=h
    refine oj_run TT rfl ?_
    refine oj_split 13 rfl (fun h2=>?_) (fun h2=>?_)
    · have h2:(!kid)=true:=h2
      refine oj_run TT rfl ?_
      (repeat (first | refine oj_then ?_ | refine cj_ret ?_))
      refine nj_ret TT rfl fun β w' _ _=>?_
      exact congrArg Value.bool (by unfold fitsI;rw [h,h2];rfl)
    · have h2:(!kid)=false:=h2
      refine oj_run TT rfl ?_
      refine oj_add rfl rfl rfl rfl rfl rfl (by omega) (oj_run TT rfl ?_)
      (repeat (first | refine oj_then ?_ | refine cj_ret ?_))
      refine nj_ret TT rfl fun β w' _ _=>?_
      exact congrArg Value.bool (by unfold fitsI;rw [h,h2];rfl)
  · have h:holdsI a d=false:=h
    refine oj_run TT rfl ?_
    (repeat (first | refine oj_then ?_ | refine cj_ret ?_))
    refine nj_ret TT rfl fun β w' _ _=>?_
    exact congrArg Value.bool (by unfold fitsI;rw [h];rfl)
def itRows (l:List GItem):List (List AT):=l.map itCells
theorem itRows_get {l:List GItem} {i:Nat} {x:GItem} (h:l[i]?=some x):(itRows l)[i]?=some (itCells x):=by unfold itRows;rw [List.getElem?_map,h];rfl
theorem itRows_all (a:List GItem):∀ r∈itRows a,r.length=5/\(∀ c∈r,c.lt 0)/\r.all AT.one=true:=by
  intro r hr
  obtain ⟨x,_,rfl⟩:=List.mem_map.1 hr
  exact ⟨rfl,itCells_lt 0 x,rfl⟩
def itXs (l:List GItem):List Value:=(itRows l).flatten.map AT.val
theorem itXs_append (a b:List GItem):itXs (a++b)=itXs a++itXs b:=by simp [itXs,itRows]
theorem itXs_push (L:List GItem) (x:GItem):itXs L++(itCells x).map AT.val=itXs (L++[x]):=by
  rw [itXs_append]
  simp [itXs,itRows]
theorem itXs_get {l:List GItem} {i j:Nat} {x:GItem} {c:AT} (h:l[i]?=some x) (hj:(itCells x)[j]?=some c):(itXs l)[i*5+j]?=some c.val:=by
  unfold itXs
  rw [List.getElem?_map,flat_get (sz:=5) (fun r hr=>(itRows_all l r hr).1) (itRows_get h) hj]
  rfl
theorem itXs_take (l:List GItem) (k:Nat):(itXs l).take (k*5)=itXs (l.take k):=by
  unfold itXs
  rw [<-List.map_take,flat_take (sz:=5) (fun r hr=>(itRows_all l r hr).1)]
  unfold itRows
  rw [List.map_take]
def itE (ao:Option Addr) (cap:Nat) (l:List GItem):AE:=⟨ao,l.length,cap,71,5,itXs l⟩
theorem it_sealed {σ:Snap} {ao:Option Addr} {cap:Nat} {l:List GItem} (hS:ArrSealed σ (itE ao cap l)) (hc:l.length<=cap):SlAt σ ao l.length cap 5 (itRows l) :=
  hS.sl rfl (fun r hr=>⟨(itRows_all l r hr).1,(itRows_all l r hr).2.1⟩) (by simp [itRows]) rfl hc
theorem itE_cut (ao:Option Addr) (cap:Nat) (l:List GItem) (k:Nat) (hk:k<=l.length):(itE ao cap l).cut k=itE ao cap (l.take k):=by
  unfold itE AE.cut
  dsimp only
  rw [itXs_take,List.length_take,Nat.min_eq_left hk]
def itK (gs:Nat) (ao:Option Addr) (n cap:Nat) (m:Int):AE:=⟨some ⟨gs,0,none⟩,1,1,178,2,[.slice ao n cap,.int .i64 m]⟩
set_option maxRecDepth 100000 in
set_option maxHeartbeats 1000000 in
theorem itPush_c (σ:Snap) (gs:Nat) (ao:Option Addr) (cap:Nat) (m:Int) (S:List GItem) (x:GItem) (hl:S.length<=1000000) (h1:0<=m) (h2:m<=1000000) :
    FnS Tryz.prog 99 [.a (.v (.pointer (some ⟨gs,0,none⟩))),.agg (itCells x)] σ [itK gs ao S.length cap m,itE ao cap S]
      (fun v _ A'=>v=.tuple #[]/\∃ ao' cap',S.length+1<=cap'/\A'=[itK gs ao' (S.length+1) cap' (m+1),itE ao' cap' (S++[x])]):=by
  refine enter_f Tryz.func99 rfl rfl ⟨trivial,itCells_lt 0 x,trivial⟩ fun w=>?_
  (repeat (first | refine cj_seq ?_ | refine cjr TT rfl ?_ | refine oj_then ?_))
  refine cj_draw [(0,.pure),(1,.pure),(2,.pure),(3,.pure),(4,.quiet),(5,.quiet),(6,.keep),(7,.sink),(8,.pure),(9,.pure),(10,.sink)] mixed (by kernel_rfl) (oj_run TT rfl ?_)
  refine oj_ldA 0 (c:=.v (.slice ao S.length cap)) TT rfl rfl rfl rfl rfl rfl rfl rfl rfl rfl rfl trivial (oj_run TT rfl ?_)
  refine oj_append_lit TT 1 rfl rfl rfl rfl rfl rfl rfl rfl rfl rfl rfl rfl rfl rfl rfl rfl rfl rfl (itCells_lt 0 x) rfl (by omega) (by show (S.length+1)*40<=_;omega) fun ao1 cap1 hcap1=>oj_run TT rfl ?_
  refine oj_stA 0 (A':=[itK gs ao1 (S.length+1) cap1 m,⟨ao1,S.length+1,cap1,71,5,itXs S++(itCells x).map AT.val⟩]) TT rfl rfl rfl rfl rfl rfl rfl rfl rfl rfl (by show 0<1*2;omega) trivial rfl rfl (oj_run TT rfl ?_)
  rw [itXs_push]
  (repeat (first | refine cjr TT rfl ?_ | refine oj_then ?_))
  refine oj_ldA 0 (c:=.v (.int .i64 m)) TT rfl rfl rfl rfl rfl rfl rfl rfl rfl rfl rfl trivial (oj_run TT rfl ?_)
  refine oj_add rfl rfl rfl rfl rfl rfl (by omega) (oj_run TT rfl ?_)
  refine oj_stA 0 (A':=[itK gs ao1 (S.length+1) cap1 (m+1),⟨ao1,S.length+1,cap1,71,5,itXs (S++[x])⟩]) TT rfl rfl rfl rfl rfl rfl rfl rfl rfl rfl (by show 1<1*2;omega) trivial rfl rfl (oj_run TT rfl ?_)
  (repeat refine oj_nil ?_)
  refine nj_fend TT rfl fun β w' _ _=>?_
  refine ⟨rfl,ao1,cap1,hcap1,?_⟩
  unfold itE
  rw [List.length_append]
  rfl
set_option maxRecDepth 100000 in
set_option maxHeartbeats 1000000 in
theorem itPop_c (σ:Snap) (gs:Nat) (ao:Option Addr) (cap:Nat) (m:Int) (S:List GItem) (hl:S.length<=1000000) (hSc:S.length<=cap) (f:FuncId) (caps:List PT) (hcap:LtAll (caps.map ptSV))
    (hcall:∀ args w,(callFunc f args).run Tryz.prog w=.ok (.enter f args) w) (q:GItem->Bool) (hq:∀ x∈S,PlainS Tryz.prog f (.agg (itCells x)::caps.map ptSV) σ (fun v=>v=.bool (q x))) (hlt:(SV.a (.fn (.func f) caps)).lt 0) :
    FnS Tryz.prog 95 [.a (.v (.pointer (some ⟨gs,0,none⟩))),.a (.fn (.func f) caps)] σ [itK gs ao S.length cap m,itE ao cap S]
      (fun v _ A'=>v=.tuple #[]/\A'=[itK gs ao (popI q S).length cap m,itE ao cap (popI q S)]):=by
  refine enter_f Tryz.func95 rfl rfl ⟨trivial,hlt,trivial⟩ fun w=>?_
  (repeat refine cj_block ?_)
  refine cj_loop (fun (_:List GItem)=>σ) (fun _=>[(0,.a (.v (.pointer (some ⟨gs,0,none⟩)))),(1,.a (.fn (.func f) caps))]) (fun _=>[]) (fun s=>[itK gs ao s.length cap m,itE ao cap s]) 0
    (fun s=>popI q s=popI q S/\s.length<=S.length/\∀ x∈s,x∈S) (fun s=>s.length) S ⟨rfl,Nat.le_refl _,fun _ h=>h⟩ rfl (by (repeat first | exact trivial | refine ⟨rfl,?_⟩)) (by (repeat first | exact trivial | refine ⟨rfl,?_⟩)) rfl ⟨trivial,hlt,trivial⟩ trivial fun s ⟨hp,hsl,hm⟩=>?_
  (repeat refine cj_seq ?_)
  refine cj_draw [(0,.pure),(1,.pure),(2,.pure),(3,.quiet),(4,.pure),(5,.pure),(6,.pure),(7,.pure),(8,.pure),(9,.pure),(10,.pure),(11,.quiet),(12,.pure),(13,.pure),(14,.pure),(15,.quiet),(16,.pure),(17,.pure),(18,.pure),(19,.quiet),(20,.keep),(21,.pure)] mixed (by kernel_rfl) (oj_run TT rfl ?_)
  refine oj_ldA 0 (c:=.v (.slice ao s.length cap)) TT rfl rfl rfl rfl rfl rfl rfl rfl rfl rfl rfl trivial (oj_run TT rfl ?_)
  refine oj_split 10 rfl (fun h=>?_) (fun h=>?_)
  rotate_left
  · have h0:s=[]:=by
      have h:decide (0<(s.length:Int))=false:=h
      have:=of_decide_eq_false h
      exact List.eq_nil_of_length_eq_zero (by omega)
    subst h0
    refine oj_run TT rfl ?_
    (repeat (first | refine oj_then ?_ | refine cj_if_f rfl ?_ | refine cj_exit ?_ | refine nj_then_exit ?_ | refine nj_block_out ?_))
    refine nj_fend TT rfl fun β w' _ _=>?_
    exact ⟨rfl,by rw [<-hp];rfl⟩
  have h:decide (0<(s.length:Int))=true:=h
  have hne:s≠[]:=by
    intro h0
    subst h0
    cases h
  obtain ⟨s0,x,rfl⟩:∃ s0 x,s=s0++[x]:=⟨s.dropLast,s.getLast hne,(List.dropLast_concat_getLast hne).symm⟩
  have hlen:(s0++[x]).length=s0.length+1:=by simp
  have htop:(s0++[x])[s0.length]?=some x:=by simp
  have hqx:=hq x (hm x (by simp))
  refine oj_run TT rfl ?_
  refine oj_ldA 0 (c:=.v (.slice ao (s0++[x]).length cap)) TT rfl rfl rfl rfl rfl rfl rfl rfl rfl rfl rfl trivial (oj_run TT rfl ?_)
  refine oj_ldA 0 (c:=.v (.slice ao (s0++[x]).length cap)) TT rfl rfl rfl rfl rfl rfl rfl rfl rfl rfl rfl trivial (oj_run TT rfl ?_)
  refine oj_minus rfl rfl rfl rfl rfl rfl (by omega) (oj_run TT rfl ?_)
  refine oj_arrAt 1 (E:=itE ao cap (s0++[x])) rfl (by show 0<(s0++[x]).length;omega) fun g1 hg1=>?_
  have hg1:ao=some ⟨g1,0,none⟩:=hg1
  subst hg1
  refine oj_indexAddr TT rfl rfl rfl rfl rfl rfl rfl rfl rfl ⟨by omega,by omega⟩ (oj_run TT rfl ?_)
  refine oj_ldAs 1 (off:=s0.length*5) TT (itCells x) rfl rfl rfl rfl rfl ?_ rfl rfl rfl rfl rfl ?_ (itCells_lt _ _) (oj_run TT rfl ?_)
  · show some (SV.a (AT.v (.pointer (some (Addr.add ⟨g1,0,none⟩ (((((s0++[x]).length:Nat):Int) - 1).toNat*5))))))=_
    rw [add0,show ((((s0++[x]).length:Nat):Int) - 1).toNat=s0.length by rw [hlen];omega]
  · intro j c hj
    exact itXs_get htop hj
  refine oj_callP (ys:=.agg (itCells x)::caps.map ptSV) rfl rfl rfl rfl rfl hcall ⟨itCells_lt 0 x,hcap⟩ hqx fun v hv=>⟨.a (.b (q x)),trivial,hv.symm,?_⟩
  refine oj_run TT rfl ?_
  (repeat refine oj_then ?_)
  refine cj_if rfl (fun h=>?_) (fun h=>?_)
  rotate_left
  · have h:q x=false:=h
    rw [popI_last,h,if_neg (by decide)] at hp
    (repeat (first | refine cj_exit ?_ | refine nj_then_exit ?_ | refine nj_block_out ?_))
    refine nj_fend TT rfl fun β w' _ _=>?_
    exact ⟨rfl,by rw [<-hp]⟩
  have h:q x=true:=h
  rw [popI_last,h,if_pos rfl] at hp
  (repeat (first | refine cj_skip ?_ | refine cj_block ?_ | refine nj_then ?_))
  refine cj_draw [(0,.pure),(1,.pure),(2,.pure),(3,.pure),(4,.quiet),(5,.pure),(6,.pure),(7,.pure),(8,.quiet),(9,.pure),(10,.pure),(11,.pure),(12,.pure),(13,.pure),(14,.sink)] mixed (by kernel_rfl) (oj_run TT rfl ?_)
  refine oj_ldA 0 (c:=.v (.slice (some ⟨g1,0,none⟩) (s0++[x]).length cap)) TT rfl rfl rfl rfl rfl rfl rfl rfl rfl rfl rfl trivial (oj_run TT rfl ?_)
  refine oj_ldA 0 (c:=.v (.slice (some ⟨g1,0,none⟩) (s0++[x]).length cap)) TT rfl rfl rfl rfl rfl rfl rfl rfl rfl rfl rfl trivial (oj_run TT rfl ?_)
  refine oj_minus rfl rfl rfl rfl rfl rfl (by omega) (oj_run TT rfl ?_)
  refine oj_slice_to TT s0.length rfl rfl rfl rfl rfl rfl rfl rfl rfl (by rw [hlen];omega) (by omega) (by omega) (oj_run TT rfl ?_)
  refine oj_stA 0 (A':=[itK gs (some ⟨g1,0,none⟩) s0.length cap m,itE (some ⟨g1,0,none⟩) cap (s0++[x])]) TT rfl rfl rfl rfl rfl rfl rfl rfl rfl rfl (by show 0<1*2;omega) trivial rfl rfl (oj_run TT rfl ?_)
  (repeat (first | refine oj_nil ?_ | refine nj_block ?_))
  refine nj_cutArr 1 s0.length (A':=[itK gs (some ⟨g1,0,none⟩) s0.length cap m,itE (some ⟨g1,0,none⟩) cap s0]) rfl (by show s0.length<=(s0++[x]).length;omega) ?_ ?_
  · rw [itE_cut _ _ _ _ (by omega),List.take_left]
    rfl
  refine nj_again s0 ⟨hp,by omega,fun y hy=>hm y (List.mem_append_left _ hy)⟩ (by omega) rfl (by (repeat first | exact trivial | refine ⟨rfl,?_⟩)) (by (repeat first | exact trivial | refine ⟨rfl,?_⟩)) rfl ⟨trivial,hlt,trivial⟩ trivial
def opRows (l:List OI):List (List AT):=l.map opCells
theorem opRows_get {l:List OI} {i:Nat} {x:OI} (h:l[i]?=some x):(opRows l)[i]?=some (opCells x):=by unfold opRows;rw [List.getElem?_map,h];rfl
theorem opRows_all (a:List OI):∀ r∈opRows a,r.length=6/\(∀ c∈r,c.lt 0)/\r.all AT.one=true:=by
  intro r hr
  obtain ⟨x,_,rfl⟩:=List.mem_map.1 hr
  exact ⟨rfl,opCells_lt 0 x,rfl⟩
def opXs (l:List OI):List Value:=(opRows l).flatten.map AT.val
theorem opXs_append (a b:List OI):opXs (a++b)=opXs a++opXs b:=by simp [opXs,opRows]
theorem opXs_push (L:List OI) (x:OI):opXs L++(opCells x).map AT.val=opXs (L++[x]):=by
  rw [opXs_append]
  simp [opXs,opRows]
theorem opXs_get {l:List OI} {i j:Nat} {x:OI} {c:AT} (h:l[i]?=some x) (hj:(opCells x)[j]?=some c):(opXs l)[i*6+j]?=some c.val:=by
  unfold opXs
  rw [List.getElem?_map,flat_get (sz:=6) (fun r hr=>(opRows_all l r hr).1) (opRows_get h) hj]
  rfl
theorem opXs_take (l:List OI) (k:Nat):(opXs l).take (k*6)=opXs (l.take k):=by
  unfold opXs
  rw [<-List.map_take,flat_take (sz:=6) (fun r hr=>(opRows_all l r hr).1)]
  unfold opRows
  rw [List.map_take]
def opE (ao:Option Addr) (cap:Nat) (l:List OI):AE:=⟨ao,l.length,cap,169,6,opXs l⟩
theorem op_sealed {σ:Snap} {ao:Option Addr} {cap:Nat} {l:List OI} (hS:ArrSealed σ (opE ao cap l)) (hc:l.length<=cap):SlAt σ ao l.length cap 6 (opRows l) :=
  hS.sl rfl (fun r hr=>⟨(opRows_all l r hr).1,(opRows_all l r hr).2.1⟩) (by simp [opRows]) rfl hc
theorem opE_cut (ao:Option Addr) (cap:Nat) (l:List OI) (k:Nat) (hk:k<=l.length):(opE ao cap l).cut k=opE ao cap (l.take k):=by
  unfold opE AE.cut
  dsimp only
  rw [opXs_take,List.length_take,Nat.min_eq_left hk]
def opK (gs:Nat) (ao:Option Addr) (n cap:Nat) (m:Int):AE:=⟨some ⟨gs,0,none⟩,1,1,268,2,[.slice ao n cap,.int .i64 m]⟩
set_option maxRecDepth 100000 in
set_option maxHeartbeats 1000000 in
theorem opPush_c (σ:Snap) (gs:Nat) (ao:Option Addr) (cap:Nat) (m:Int) (S:List OI) (x:OI) (hl:S.length<=1000000) (h1:0<=m) (h2:m<=1000000) :
    FnS Tryz.prog 161 [.a (.v (.pointer (some ⟨gs,0,none⟩))),.agg (opCells x)] σ [opK gs ao S.length cap m,opE ao cap S]
      (fun v _ A'=>v=.tuple #[]/\∃ ao' cap',S.length+1<=cap'/\A'=[opK gs ao' (S.length+1) cap' (m+1),opE ao' cap' (S++[x])]):=by
  refine enter_f Tryz.func161 rfl rfl ⟨trivial,opCells_lt 0 x,trivial⟩ fun w=>?_
  (repeat (first | refine cj_seq ?_ | refine cjr TT rfl ?_ | refine oj_then ?_))
  refine cj_draw [(0,.pure),(1,.pure),(2,.pure),(3,.pure),(4,.quiet),(5,.quiet),(6,.keep),(7,.sink),(8,.pure),(9,.pure),(10,.sink)] mixed (by kernel_rfl) (oj_run TT rfl ?_)
  refine oj_ldA 0 (c:=.v (.slice ao S.length cap)) TT rfl rfl rfl rfl rfl rfl rfl rfl rfl rfl rfl trivial (oj_run TT rfl ?_)
  refine oj_append_lit TT 1 rfl rfl rfl rfl rfl rfl rfl rfl rfl rfl rfl rfl rfl rfl rfl rfl rfl rfl (opCells_lt 0 x) rfl (by omega) (by show (S.length+1)*48<=_;omega) fun ao1 cap1 hcap1=>oj_run TT rfl ?_
  refine oj_stA 0 (A':=[opK gs ao1 (S.length+1) cap1 m,⟨ao1,S.length+1,cap1,169,6,opXs S++(opCells x).map AT.val⟩]) TT rfl rfl rfl rfl rfl rfl rfl rfl rfl rfl (by show 0<1*2;omega) trivial rfl rfl (oj_run TT rfl ?_)
  rw [opXs_push]
  (repeat (first | refine cjr TT rfl ?_ | refine oj_then ?_))
  refine oj_ldA 0 (c:=.v (.int .i64 m)) TT rfl rfl rfl rfl rfl rfl rfl rfl rfl rfl rfl trivial (oj_run TT rfl ?_)
  refine oj_add rfl rfl rfl rfl rfl rfl (by omega) (oj_run TT rfl ?_)
  refine oj_stA 0 (A':=[opK gs ao1 (S.length+1) cap1 (m+1),⟨ao1,S.length+1,cap1,169,6,opXs (S++[x])⟩]) TT rfl rfl rfl rfl rfl rfl rfl rfl rfl rfl (by show 1<1*2;omega) trivial rfl rfl (oj_run TT rfl ?_)
  (repeat refine oj_nil ?_)
  refine nj_fend TT rfl fun β w' _ _=>?_
  refine ⟨rfl,ao1,cap1,hcap1,?_⟩
  unfold opE
  rw [List.length_append]
  rfl
set_option maxRecDepth 100000 in
set_option maxHeartbeats 1000000 in
theorem opPop_c (σ:Snap) (gs:Nat) (ao:Option Addr) (cap:Nat) (m:Int) (S:List OI) (hl:S.length<=1000000) (hSc:S.length<=cap) (f:FuncId) (caps:List PT) (hcap:LtAll (caps.map ptSV))
    (hcall:∀ args w,(callFunc f args).run Tryz.prog w=.ok (.enter f args) w) (q:OI->Bool) (hq:∀ x∈S,PlainS Tryz.prog f (.agg (opCells x)::caps.map ptSV) σ (fun v=>v=.bool (q x))) (hlt:(SV.a (.fn (.func f) caps)).lt 0) :
    FnS Tryz.prog 159 [.a (.v (.pointer (some ⟨gs,0,none⟩))),.a (.fn (.func f) caps)] σ [opK gs ao S.length cap m,opE ao cap S]
      (fun v _ A'=>v=.tuple #[]/\A'=[opK gs ao (popI q S).length cap m,opE ao cap (popI q S)]):=by
  refine enter_f Tryz.func159 rfl rfl ⟨trivial,hlt,trivial⟩ fun w=>?_
  (repeat refine cj_block ?_)
  refine cj_loop (fun (_:List OI)=>σ) (fun _=>[(0,.a (.v (.pointer (some ⟨gs,0,none⟩)))),(1,.a (.fn (.func f) caps))]) (fun _=>[]) (fun s=>[opK gs ao s.length cap m,opE ao cap s]) 0
    (fun s=>popI q s=popI q S/\s.length<=S.length/\∀ x∈s,x∈S) (fun s=>s.length) S ⟨rfl,Nat.le_refl _,fun _ h=>h⟩ rfl (by (repeat first | exact trivial | refine ⟨rfl,?_⟩)) (by (repeat first | exact trivial | refine ⟨rfl,?_⟩)) rfl ⟨trivial,hlt,trivial⟩ trivial fun s ⟨hp,hsl,hm⟩=>?_
  (repeat refine cj_seq ?_)
  refine cj_draw [(0,.pure),(1,.pure),(2,.pure),(3,.quiet),(4,.pure),(5,.pure),(6,.pure),(7,.pure),(8,.pure),(9,.pure),(10,.pure),(11,.quiet),(12,.pure),(13,.pure),(14,.pure),(15,.quiet),(16,.pure),(17,.pure),(18,.pure),(19,.quiet),(20,.keep),(21,.pure)] mixed (by kernel_rfl) (oj_run TT rfl ?_)
  refine oj_ldA 0 (c:=.v (.slice ao s.length cap)) TT rfl rfl rfl rfl rfl rfl rfl rfl rfl rfl rfl trivial (oj_run TT rfl ?_)
  refine oj_split 10 rfl (fun h=>?_) (fun h=>?_)
  rotate_left
  · have h0:s=[]:=by
      have h:decide (0<(s.length:Int))=false:=h
      have:=of_decide_eq_false h
      exact List.eq_nil_of_length_eq_zero (by omega)
    subst h0
    refine oj_run TT rfl ?_
    (repeat (first | refine oj_then ?_ | refine cj_if_f rfl ?_ | refine cj_exit ?_ | refine nj_then_exit ?_ | refine nj_block_out ?_))
    refine nj_fend TT rfl fun β w' _ _=>?_
    exact ⟨rfl,by rw [<-hp];rfl⟩
  have h:decide (0<(s.length:Int))=true:=h
  have hne:s≠[]:=by
    intro h0
    subst h0
    cases h
  obtain ⟨s0,x,rfl⟩:∃ s0 x,s=s0++[x]:=⟨s.dropLast,s.getLast hne,(List.dropLast_concat_getLast hne).symm⟩
  have hlen:(s0++[x]).length=s0.length+1:=by simp
  have htop:(s0++[x])[s0.length]?=some x:=by simp
  have hqx:=hq x (hm x (by simp))
  refine oj_run TT rfl ?_
  refine oj_ldA 0 (c:=.v (.slice ao (s0++[x]).length cap)) TT rfl rfl rfl rfl rfl rfl rfl rfl rfl rfl rfl trivial (oj_run TT rfl ?_)
  refine oj_ldA 0 (c:=.v (.slice ao (s0++[x]).length cap)) TT rfl rfl rfl rfl rfl rfl rfl rfl rfl rfl rfl trivial (oj_run TT rfl ?_)
  refine oj_minus rfl rfl rfl rfl rfl rfl (by omega) (oj_run TT rfl ?_)
  refine oj_arrAt 1 (E:=opE ao cap (s0++[x])) rfl (by show 0<(s0++[x]).length;omega) fun g1 hg1=>?_
  have hg1:ao=some ⟨g1,0,none⟩:=hg1
  subst hg1
  refine oj_indexAddr TT rfl rfl rfl rfl rfl rfl rfl rfl rfl ⟨by omega,by omega⟩ (oj_run TT rfl ?_)
  refine oj_ldAs 1 (off:=s0.length*6) TT (opCells x) rfl rfl rfl rfl rfl ?_ rfl rfl rfl rfl rfl ?_ (opCells_lt _ _) (oj_run TT rfl ?_)
  · show some (SV.a (AT.v (.pointer (some (Addr.add ⟨g1,0,none⟩ (((((s0++[x]).length:Nat):Int) - 1).toNat*6))))))=_
    rw [add0,show ((((s0++[x]).length:Nat):Int) - 1).toNat=s0.length by rw [hlen];omega]
  · intro j c hj
    exact opXs_get htop hj
  refine oj_callP (ys:=.agg (opCells x)::caps.map ptSV) rfl rfl rfl rfl rfl hcall ⟨opCells_lt 0 x,hcap⟩ hqx fun v hv=>⟨.a (.b (q x)),trivial,hv.symm,?_⟩
  refine oj_run TT rfl ?_
  (repeat refine oj_then ?_)
  refine cj_if rfl (fun h=>?_) (fun h=>?_)
  rotate_left
  · have h:q x=false:=h
    rw [popI_last,h,if_neg (by decide)] at hp
    (repeat (first | refine cj_exit ?_ | refine nj_then_exit ?_ | refine nj_block_out ?_))
    refine nj_fend TT rfl fun β w' _ _=>?_
    exact ⟨rfl,by rw [<-hp]⟩
  have h:q x=true:=h
  rw [popI_last,h,if_pos rfl] at hp
  (repeat (first | refine cj_skip ?_ | refine cj_block ?_ | refine nj_then ?_))
  refine cj_draw [(0,.pure),(1,.pure),(2,.pure),(3,.pure),(4,.quiet),(5,.pure),(6,.pure),(7,.pure),(8,.quiet),(9,.pure),(10,.pure),(11,.pure),(12,.pure),(13,.pure),(14,.sink)] mixed (by kernel_rfl) (oj_run TT rfl ?_)
  refine oj_ldA 0 (c:=.v (.slice (some ⟨g1,0,none⟩) (s0++[x]).length cap)) TT rfl rfl rfl rfl rfl rfl rfl rfl rfl rfl rfl trivial (oj_run TT rfl ?_)
  refine oj_ldA 0 (c:=.v (.slice (some ⟨g1,0,none⟩) (s0++[x]).length cap)) TT rfl rfl rfl rfl rfl rfl rfl rfl rfl rfl rfl trivial (oj_run TT rfl ?_)
  refine oj_minus rfl rfl rfl rfl rfl rfl (by omega) (oj_run TT rfl ?_)
  refine oj_slice_to TT s0.length rfl rfl rfl rfl rfl rfl rfl rfl rfl (by rw [hlen];omega) (by omega) (by omega) (oj_run TT rfl ?_)
  refine oj_stA 0 (A':=[opK gs (some ⟨g1,0,none⟩) s0.length cap m,opE (some ⟨g1,0,none⟩) cap (s0++[x])]) TT rfl rfl rfl rfl rfl rfl rfl rfl rfl rfl (by show 0<1*2;omega) trivial rfl rfl (oj_run TT rfl ?_)
  (repeat (first | refine oj_nil ?_ | refine nj_block ?_))
  refine nj_cutArr 1 s0.length (A':=[opK gs (some ⟨g1,0,none⟩) s0.length cap m,opE (some ⟨g1,0,none⟩) cap s0]) rfl (by show s0.length<=(s0++[x]).length;omega) ?_ ?_
  · rw [opE_cut _ _ _ _ (by omega),List.take_left]
    rfl
  refine nj_again s0 ⟨hp,by omega,fun y hy=>hm y (List.mem_append_left _ hy)⟩ (by omega) rfl (by (repeat first | exact trivial | refine ⟨rfl,?_⟩)) (by (repeat first | exact trivial | refine ⟨rfl,?_⟩)) rfl ⟨trivial,hlt,trivial⟩ trivial
end Go.Sy
/- Regions whose allocations and calls come in several orders, calls that are handed arrays among them. No program in sight. -/
namespace Go.Sy
section
variable {cf:Cf} {σ σb:Snap} {hp hpb:HP} {A:List AE} {β:Nat->Addr} {w0 x:World}
theorem StW.base (h0:StW cf σb hpb [] β w0) (hle:σb.le σ) (hs:subH hpb hp) (h:StW cf σ hp A β x):StW cf σb hpb [] β x:=by
  refine ⟨h.os,h.tape,h.output,h.size,h.fr,fun b o hb=>h.sealed b o (hle b o hb),h0.le,h0.grow,fun i e cs hi=>?_,h0.ro,fun i j e1 e2 l1 l2 hi hj heq=>h.inj i j e1 e2 l1 l2 (hs _ _ hi) (hs _ _ hj) heq,
    fun i E hi=>(by simp at hi),fun i j E F hi=>(by simp at hi),fun i j E e cs hi=>(by simp at hi)⟩
  obtain ⟨q1,q2,q3,q4⟩:=h.loc i e cs (hs _ _ hi)
  exact ⟨q1,q2,Snap.none_of_le hle q3,q4⟩
theorem StW.reβ {β':Nat->Addr} {nb:Nat} (hb:Bd [] hpb nb) (hβ:∀ i,i<nb->β' i=β i) (h:StW cf σb hpb [] β x):StW cf σb hpb [] β' x:=by
  refine ⟨h.os,h.tape,h.output,h.size,h.fr,h.sealed,h.le,h.grow,fun i e cs hi=>?_,fun i cs hi j c hc=>?_,fun i j e1 e2 l1 l2 hi hj heq=>?_,fun i E hi=>(by simp at hi),fun i j E F hi=>(by simp at hi),fun i j E e cs hi=>(by simp at hi)⟩
  · obtain ⟨hlt,hl⟩:=hb.hp i _ cs hi
    have:=h.loc i e cs hi
    rw [hβ i hlt,AT.denL_congr hβ hl]
    exact this
  · obtain ⟨hlt,hl⟩:=hb.hp i _ cs hi
    have:=h.ro i cs hi j c hc
    rw [hβ i hlt,AT.den_congr hβ (hl c (List.mem_of_getElem? hc))]
    exact this
  · have h1:=(hb.hp i _ l1 hi).1
    have h2:=(hb.hp j _ l2 hj).1
    exact h.inj i j e1 e2 l1 l2 hi hj (by rw [<-hβ i h1,<-hβ j h2];exact heq)
end
structure GB (cf:Cf) (ops:Array Oper) (U bef:List Nat) (σb:Snap) (hpb:HP) (nb n:Nat) (listed:Array Bool) (Q:Exit->Act->World->Prop) (σ:Snap) (env:Env) (hp:HP) (A:List AE) (nh:Nat):Prop where
  run:Region.noSelect ops=true->Bd env hp nh->Bd [] hpb nb->nb<=nh->σb.le σ->subH hpb hp->∀ a β,StA cf env β a->(∃ w,StW cf σ hp A β w)->(∃ w,StW cf σb hpb [] β w)->Closed ops listed ->
    wpAnyC cf.P ops U Q n listed a (fun w=>StW cf σb hpb [] β w) (fun w=>StW cf σ hp A β w)
structure GBK (cf:Cf) (ops:Array Oper) (U bef:List Nat) (σb:Snap) (hpb:HP) (nb n:Nat) (listed:Array Bool) (j:Nat) (Q:Exit->Act->World->Prop) (σ:Snap) (env:Env) (hp:HP) (A:List AE) (nh:Nat):Prop where
  run:Region.noSelect ops=true->Bd env hp nh->Bd [] hpb nb->nb<=nh->σb.le σ->subH hpb hp->∀ a β,StA cf env β a->(∃ w,StW cf σ hp A β w)->(∃ w,StW cf σb hpb [] β w)->Closed ops listed->j∈Region.ready .any ops listed ->
    stepC cf.P ops U Q j (wpAnyC cf.P ops U Q n (listed.setIfInBounds j true)) a (fun w=>StW cf σb hpb [] β w) (fun w=>StW cf σ hp A β w)
section
variable {cf:Cf} {Q:Exit->Act->World->Prop} {σ σb:Snap} {env:Env} {hp hpb:HP} {A:List AE} {nh nb:Nat} {ops:Array Oper} {U bef:List Nat} {n:Nat} {listed:Array Bool}
theorem cj_drawB {id:Nat} (m:Nat) (U:List Nat) (hpb:HP) (hm:cf.P.follows .mixedOrders=true) (hs:Region.noSelect ops=true) (hn:ops.size=m) (hsub:subH hpb hp)
    (h:GB cf ops U [] σ hpb nh m (Array.replicate m false) Q σ env hp A nh) (hd:okRd cf.rd ops=true:=by rfl):CJ cf (.region id ops true) Q σ env hp A nh:=by
  subst hn
  refine ⟨fun hb a β w ha hw=>wpIn_region_any hm ?_⟩
  have hc:Closed ops (Array.replicate ops.size false):=⟨by simp,fun j oj _ hl=>by
    exfalso
    rcases Nat.lt_or_ge j ops.size with h | h
    · simp [h] at hl
    · simp [h] at hl⟩
  have hbb:Bd [] hpb nh:=⟨fun i x h=>(by cases h),fun i k cs hi=>hb.hp i k cs (hsub _ _ hi)⟩
  have hb0:StW cf σ hpb [] β w:=by
    have:=hw.dropA
    exact this.sub hsub
  exact wpAnyIn_of_C (okRd_mem hd) _ _ _ _ _ _ hw.drew (h.run hs hb hbb (Nat.le_refl _) (Snap.le_refl _) hsub a β ha ⟨_,hw⟩ ⟨_,hb0⟩ hc)
theorem gb_val {i d:Nat} {o:Oper} {T:List (Nat×TI)} (hT:TTok cf.P T) {x:SV} (hi:ops[i]?=some o) (hr:(Region.ready .any ops listed).contains i=true) (hf:Region.free .any ops listed i=true)
    (hk:(U.contains i&&isLoad o.op)=false) (hd:o.dst=some d) (hg:guardVal (slotOf ops o) env=some true) (hN:Nat.blt d cf.N=true) (h:stepOp T o.op env hpb nh=some (.val x))
    (k:GB cf ops U (bef++[i]) σb hpb nb n (listed.setIfInBounds i true) Q σ ((d,x)::env) hp A nh):GB cf ops U bef σb hpb nb (n+1) listed Q σ env hp A nh:=by
  refine ⟨fun hs hb hbb hnb hle hsub a β ha hex hex0 hc=>?_⟩
  obtain ⟨w0,hw0⟩:=id hex0
  have hN':d<cf.N:=by simpa [Nat.blt_eq] using hN
  have hb':Bd env hpb nh:=hb.sub (fun i x h=>h) hsub
  have hx:x.lt nh:=(step_ok (o:=o) hT ha hb' h).1
  have hr':i∈Region.ready .any ops listed:=by simpa using hr
  have hw:Region.wanted o (yielded ops a.tmps)=true:=by rw [<-wantedS_slotOf];exact guardVal_ok ha hg
  have hrest:=k.run hs (hb.put hx d) hbb hnb hle hsub _ β (ha.put hN' x) hex hex0 (hc.set hr')
  refine wpAnyC_first hi (Region.noSelect_spec hs) n listed a _ _ hc (fun y hy=>hw0.base hle hsub hy) (Region.free_spec hi hf) hr' ⟨.inl ⟨hw,fun w hE0=>.inl ?_⟩,fun hu=>.inl ⟨hw,fun w _=>.inl ?_⟩⟩ (by rw [hd];exact hrest)
  · exact (step_ok (o:=o) hT ha hb' h).2 w fun _=>⟨σb,[],hE0⟩
  · refine (step_ok (o:=o) hT ha hb' h).2 w fun hl=>?_
    rw [hl,Bool.and_true] at hk
    rw [List.contains_iff_mem.2 hu] at hk
    cases hk
theorem gb_fork (js:List Nat) (hr:(Region.ready .any ops listed == js)=true) (hne:js.isEmpty=false) (k:∀ j,j∈js->GBK cf ops U bef σb hpb nb n listed j Q σ env hp A nh):GB cf ops U bef σb hpb nb (n+1) listed Q σ env hp A nh:=by
  refine ⟨fun hs hb hbb hnb hle hsub a β ha hex hex0 hc=>?_⟩
  have hr':=eq_of_beq hr
  refine ⟨fun h0=>?_,fun j hj=>(k j (by rw [<-hr'];exact hj)).run hs hb hbb hnb hle hsub a β ha hex hex0 hc hj⟩
  rw [hr'] at h0
  subst h0
  cases hne
theorem gb_one {i:Nat} (hr:(Region.ready .any ops listed == [i])=true) (k:GBK cf ops U bef σb hpb nb n listed i Q σ env hp A nh):GB cf ops U bef σb hpb nb (n+1) listed Q σ env hp A nh :=
  gb_fork [i] hr rfl fun j hj=>by rw [List.mem_singleton] at hj;subst hj;exact k
theorem gb_two {i j:Nat} (hr:(Region.ready .any ops listed == [i,j])=true) (ki:GBK cf ops U bef σb hpb nb n listed i Q σ env hp A nh) (kj:GBK cf ops U bef σb hpb nb n listed j Q σ env hp A nh):GB cf ops U bef σb hpb nb (n+1) listed Q σ env hp A nh :=
  gb_fork [i,j] hr rfl fun m hm=>by
    simp only [List.mem_cons,List.not_mem_nil,or_false] at hm
    rcases hm with rfl | rfl
    · exact ki
    · exact kj
theorem gb_three {i j l:Nat} (hr:(Region.ready .any ops listed == [i,j,l])=true) (ki:GBK cf ops U bef σb hpb nb n listed i Q σ env hp A nh) (kj:GBK cf ops U bef σb hpb nb n listed j Q σ env hp A nh) (kl:GBK cf ops U bef σb hpb nb n listed l Q σ env hp A nh) :
    GB cf ops U bef σb hpb nb (n+1) listed Q σ env hp A nh :=
  gb_fork [i,j,l] hr rfl fun m hm=>by
    simp only [List.mem_cons,List.not_mem_nil,or_false] at hm
    rcases hm with rfl | rfl | rfl
    · exact ki
    · exact kj
    · exact kl
theorem gb_callF {j d:Nat} {o:Oper} {f:FuncId} {ys:List SV} {Φ:Value->Snap->List AE->Prop} (is:List Nat) {A0 Ar:List AE} (hA:reA is A=A0++Ar) (hn:nodupB is=true)
    (hj:ops[j]?=some o) (hc:callee env o.op=some (f,ys)) (hd:o.dst=some d) (hg:guardVal (slotOf ops o) env=some true)
    (hN:Nat.blt d cf.N=true) (hcall:∀ args w,(callFunc f args).run cf.P w=.ok (.enter f args) w) (hlt:LtAll ys) (hC:FnS cf.P f ys σ A0 Φ)
    (k:∀ v σ' A',σ.le σ'->Φ v σ' A'->∃ y:SV,y.lt 0/\y.den β0=v/\GB cf ops U (bef++[j]) σb hpb nb n (listed.setIfInBounds j true) Q σ' ((d,y)::env) hp (A'++Ar) nh):GBK cf ops U bef σb hpb nb n listed j Q σ env hp A nh:=by
  refine ⟨fun hs hb hbb hnb hle hsub a β ha hex hex0 hcl hr=>?_⟩
  obtain ⟨w0,hw0⟩:=id hex0
  have hN':d<cf.N:=by simpa [Nat.blt_eq] using hN
  have den0:∀ {y:SV},y.lt 0->y.den β=y.den β0:=fun hy=>SV.den_congr (n:=0) (fun i hi=>by omega) hy
  have hargs:(ys.map (SV.den β)).toArray=(ys.map (SV.den β0)).toArray:=by
    rw [List.map_congr_left fun y hy=>den0 (hlt.of y hy)]
  have hwant:Region.wanted o (yielded ops a.tmps)=true:=by rw [<-wantedS_slotOf];exact guardVal_ok ha hg
  unfold stepC
  simp only [hj]
  rw [if_pos hwant]
  intro w hw
  have hw2:StW cf σ hp (A0++Ar) β w:=by rw [<-hA];exact hw.reA hn
  unfold Oper.wq
  rw [callee_ok ha hc hcall]
  simp only [Oper.uponIn]
  rw [hargs]
  refine ⟨fun h=>(by cases h),CallsIn.mono (callsIn_FR.2 (hC w hw2.handIn)) fun e w' ⟨v,σ',he,h1,h2,h3,A',h4,h5⟩=>?_⟩
  subst he
  obtain ⟨y,hy,hyv,hk⟩:=k v σ' A' h2.le h4
  have hw':=hw2.through h5
  have hle':=Snap.le_trans hle h2.le
  refine ⟨_,_,hw',fun x hx=>hw0.base hle' hsub hx,.inl fun _ h=>h,?_⟩
  have:=hk.run hs (hb.put (SV.lt_mono (Nat.zero_le _) hy) d) hbb hnb hle' hsub (a.put (some d) (y.den β)) β (ha.put hN' y) ⟨_,hw'⟩ ⟨w0,hw0⟩ (hcl.set hr)
  rw [hd,<-hyv,<-den0 hy]
  exact this
theorem gb_new {j d:Nat} {o:Oper} {T:List (Nat×TI)} (hT:TTok cf.P T) {e:TypeId} {cs:List AT} {x:AT} (hj:ops[j]?=some o) (h:stepOp T o.op env hp nh=some (.new e cs x)) (hd:o.dst=some d) (hg:guardVal (slotOf ops o) env=some true)
    (hN:Nat.blt d cf.N=true) (k:GB cf ops U (bef++[j]) σb hpb nb n (listed.setIfInBounds j true) Q σ ((d,.a x)::env) ((nh,.loc e,cs)::hp) A (nh+1)):GBK cf ops U bef σb hpb nb n listed j Q σ env hp A nh:=by
  refine ⟨fun hs hb hbb hnb hle hsub a β ha hex hex0 hcl hr=>?_⟩
  obtain ⟨w0,hw0⟩:=id hex0
  have hN':d<cf.N:=by simpa [Nat.blt_eq] using hN
  have hwant:Region.wanted o (yielded ops a.tmps)=true:=by rw [<-wantedS_slotOf];exact guardVal_ok ha hg
  obtain ⟨hcs,hx,hrun⟩:=step_ok (o:=o) hT ha hb h
  have hxl:(SV.a x).lt (nh+1):=by
    rcases hx with rfl | ⟨n,rfl⟩<;>exact Nat.lt_succ_self nh
  unfold stepC
  simp only [hj]
  rw [if_pos hwant]
  intro w hw
  unfold Oper.wq
  rw [hrun w]
  have hw':=hw.alloc (e:=e) hb hcs
  have hβ:=upd_old β nh w
  have hβb:∀ i,i<nb->upd β nh w i=β i:=fun i hi=>hβ i (by omega)
  have hβb':∀ i,i<nb->β i=upd β nh w i:=fun i hi=>(hβb i hi).symm
  have hsub':subH hpb ((nh,HK.loc e,cs)::hp):=by
    intro i y hy
    have hlt:=(hb.hp i y.1 y.2 (hsub i y hy)).1
    rw [HP.get_cons,if_neg (by omega)]
    exact hsub i y hy
  have hw0':=hw0.reβ hbb hβb
  refine ⟨_,_,hw',fun x hx=>hw0'.base hle hsub' hx,.inl fun _ h=>h.reβ hbb hβb',?_⟩
  rw [hd]
  exact k.run hs ((hb.mono (Nat.le_succ nh)).row (Nat.lt_succ_self nh) (fun c hc=>AT.lt_mono (Nat.le_succ nh) (hcs c hc)) |>.put hxl d) hbb (by omega) hle hsub' _ (upd β nh w) ((ha.congr hb hβ).put hN' (.a x)) ⟨_,hw'⟩ ⟨_,hw0'⟩ (hcl.set hr)
theorem gb_order (l:List (Nat×Tag)) (hl:(l.all fun p=>decide (p.1<ops.size))=true) (hq:noQuiet (itemsOf ops l)=true) (ho:orderFrom ops U bef l listed=true) (h:OJ cf (itemsOf ops l) Q σ env hp A nh) :
    GB cf ops U bef σb hpb nb l.length listed Q σ env hp A nh:=by
  refine ⟨fun hs hb hbb hnb hle hsub a β ha hex hex0 hc=>?_⟩
  obtain ⟨w0,hw0⟩:=hex0
  have:=run_wider (fun x hx=>hw0.base hle hsub hx) _ _ a hq (h.run hb a β ha hex)
  exact run_order hs l bef listed a _ _ hc (fun x hx=>hw0.base hle hsub hx) (fun p hp=>by simpa using List.all_eq_true.1 hl p hp) ho this
theorem wpAnyC_by_world {P:Program}:∀ (n:Nat) (listed:Array Bool) (a:Act) (E S:World->Prop),(∃ w,S w)->(∀ w,S w->∃ S':World->Prop,S' w/\wpAnyC P ops U Q n listed a E S')->wpAnyC P ops U Q n listed a E S
  | 0,listed,a,E,S,⟨w0,h0⟩,h=>by
    obtain ⟨S0,h1,h2⟩:=h w0 h0
    refine ⟨h2.1,fun w hw=>?_⟩
    obtain ⟨S',h3,h4⟩:=h w hw
    exact h4.2 w h3
  | n+1,listed,a,E,S,hex,h=>by
    refine ⟨fun hr w hw=>?_,fun j hj=>?_⟩
    · obtain ⟨S',h3,h4⟩:=h w hw
      exact h4.1 hr w h3
    · unfold stepC
      cases hop:ops[j]? with
      | none =>
        refine wpAnyC_by_world n _ a E S hex fun w hw=>?_
        obtain ⟨S',h3,h4⟩:=h w hw
        have:=h4.2 j hj
        unfold stepC at this
        rw [hop] at this
        exact ⟨S',h3,this⟩
      | some o =>
        dsimp only
        by_cases hwant:Region.wanted o (yielded ops a.tmps)=true
        · rw [if_pos hwant]
          intro w hw
          obtain ⟨S',h3,h4⟩:=h w hw
          have:=h4.2 j hj
          unfold stepC at this
          rw [hop] at this
          dsimp only at this
          rw [if_pos hwant] at this
          exact this w h3
        · rw [if_neg hwant]
          refine wpAnyC_by_world n _ _ E S hex fun w hw=>?_
          obtain ⟨S',h3,h4⟩:=h w hw
          have:=h4.2 j hj
          unfold stepC at this
          rw [hop] at this
          dsimp only at this
          rw [if_neg hwant] at this
          exact ⟨S',h3,this⟩
theorem gb_seal (i:Nat) {E:AE} {A':List AE} (hi:A[i]?=some E) (hA:A.eraseIdx i=A') (h:∀ σ',σ.le σ'->ArrSealed σ' E->GB cf ops U bef σb hpb nb n listed Q σ' env hp A' nh):GB cf ops U bef σb hpb nb n listed Q σ env hp A nh:=by
  refine ⟨fun hs hb hbb hnb hle hsub a β ha hex hex0 hc=>wpAnyC_by_world _ _ _ _ _ hex fun w hw=>?_⟩
  obtain ⟨σ',h1,h2,h3⟩:=hw.sealArr hi
  rw [hA] at h3
  exact ⟨_,h3,(h σ' h1 h2).run hs hb hbb hnb (Snap.le_trans hle h1) hsub a β ha ⟨_,h3⟩ hex0 hc⟩
theorem gb_own (h:Nat) {e:TypeId} {cs:List AT} (n' sz:Nat) (hrow:hp.get h=some (.loc e,cs)) (hcs:∀ c∈cs,c.lt 0) (hlen:cs.length=n'*sz) (hn:n'<=9223372036854775807) (hsb:hpb.get h=none)
    (k:∀ g,GB cf ops U bef σb hpb nb n listed Q σ (concE h g env) (HP.del h hp) (A++[⟨some ⟨g,0,none⟩,n',n',e,sz,cs.map AT.val⟩]) nh):GB cf ops U bef σb hpb nb n listed Q σ env hp A nh:=by
  refine ⟨fun hs hb hbb hnb hle hsub a β ha hex hex0 hc=>?_⟩
  obtain ⟨w,hw⟩:=hex
  obtain ⟨g,hg⟩:∃ g,β h=⟨g,0,none⟩:=by
    obtain ⟨q1,-,-,-⟩:=hw.loc h e cs hrow
    exact ⟨_,q1⟩
  have hsub':subH hpb (HP.del h hp):=by
    intro i y hy
    rw [HP.del_get]
    split
    · rename_i he
      subst he
      rw [hsb] at hy
      cases hy
    · exact hsub i y hy
  have e1:(fun w=>StW cf σ hp A β w)=fun w=>StW cf σ (HP.del h hp) (A++[⟨some ⟨g,0,none⟩,n',n',e,sz,cs.map AT.val⟩]) β w:=by
    funext w
    exact propext (StW.own hrow hcs hg hlen hn)
  have:=(k g).run hs hb.conc hbb hnb hle hsub' a β (ha.conc hg) ⟨w,(StW.own hrow hcs hg hlen hn).1 hw⟩ hex0 hc
  rw [e1]
  exact this
end
end Go.Sy
namespace Go.Sy
open Go.Proofs
def doCells (d:GDoc):List AT:=[.v (.int .i64 d.id),.v (.slice d.o d.L.length d.cap)]
def liCells (d:GDoc):List AT:=[.v (.slice d.lo d.ids.length d.lcap)]
theorem doCells_lt (n:Nat) (d:GDoc):∀ c∈doCells d,c.lt n:=by simp [doCells,AT.lt]
def doRows (l:List GDoc):List (List AT):=l.map doCells
theorem doRows_get {l:List GDoc} {i:Nat} {x:GDoc} (h:l[i]?=some x):(doRows l)[i]?=some (doCells x):=by unfold doRows;rw [List.getElem?_map,h];rfl
theorem doRows_all (a:List GDoc):∀ r∈doRows a,r.length=2/\(∀ c∈r,c.lt 0)/\r.all AT.one=true:=by
  intro r hr
  obtain ⟨x,_,rfl⟩:=List.mem_map.1 hr
  exact ⟨rfl,doCells_lt 0 x,rfl⟩
def doXs (l:List GDoc):List Value:=(doRows l).flatten.map AT.val
def doE (ao:Option Addr) (cap:Nat) (l:List GDoc):AE:=⟨ao,l.length,cap,90,2,doXs l⟩
theorem doXs_append (a b:List GDoc):doXs (a++b)=doXs a++doXs b:=by simp [doXs,doRows]
theorem do_sealed {σ:Snap} {ao:Option Addr} {cap:Nat} {l:List GDoc} (hS:ArrSealed σ (doE ao cap l)) (hc:l.length<=cap):SlAt σ ao l.length cap 2 (doRows l) :=
  hS.sl rfl (fun r hr=>⟨(doRows_all l r hr).1,(doRows_all l r hr).2.1⟩) (by simp [doRows]) rfl hc
set_option maxRecDepth 100000 in
set_option maxHeartbeats 1000000 in
theorem doClone_c (σ:Snap) (xs:List GDoc) (hl:xs.length<=1000000) (ao:Option Addr) (cap:Nat) (H:SlAt σ ao xs.length cap 2 (doRows xs)) :
    FnS Tryz.prog 109 [.a (.v (.slice ao xs.length cap))] σ [] (fun v _ A'=>∃ bo bc,v=.slice bo xs.length bc/\xs.length<=bc/\A'=[doE bo bc xs]):=by
  refine enter_f Tryz.func109 rfl rfl (by (repeat' (first | exact trivial | constructor))) fun w=>?_
  (repeat (first | refine cj_seq ?_ | refine cjr TT rfl ?_ | refine oj_then ?_ | (refine oj_slnil TT rfl rfl rfl rfl rfl rfl rfl rfl ?_;refine oj_run TT rfl ?_)))
  refine cj_if rfl (fun h=>?_) (fun h=>?_)
  · have h0:ao=none:=by simpa using h
    have hn0:xs.length=0:=by
      rcases H.at_ with h1 | ⟨ad,h1,_⟩
      · exact h1
      · rw [h0] at h1;cases h1
    have hr:xs=[]:=List.eq_nil_of_length_eq_zero hn0
    subst hr
    (repeat (first | refine cj_seq ?_ | refine cjr TT rfl ?_ | refine oj_then ?_ | refine cj_ret ?_ | refine nj_then_ret ?_))
    refine nj_nilarr 90 2 ?_
    refine nj_fret TT rfl fun β w' _ _=>?_
    exact ⟨none,0,rfl,Nat.le_refl _,rfl⟩
  (repeat (first | refine cj_seq ?_ | refine cjr TT rfl ?_ | refine cj_skip ?_ | refine nj_then ?_))
  refine oj_own 0 0 2 rfl (by (repeat' (first | exact trivial | refine AllLt.of ?_))) rfl (by decide) fun gb=>?_
  refine oj_append_sl TT 0 rfl rfl rfl rfl rfl rfl rfl H rfl rfl rfl rfl rfl rfl rfl rfl rfl (fun r hr=>(doRows_all xs r hr).2.2) (by omega) (by show (0+xs.length)*32<=_;omega) fun ao' cap' hcap'=>oj_run TT rfl ?_
  (repeat (first | refine oj_then ?_ | refine cj_ret ?_))
  refine nj_fret TT rfl fun β w' _ _=>?_
  refine ⟨ao',cap',by show Value.slice ao' (0+xs.length) cap'=_;rw [Nat.zero_add],by omega,?_⟩
  show [_]=[_]
  rw [Nat.zero_add]
  rfl
set_option maxRecDepth 100000 in
set_option maxHeartbeats 1000000 in
theorem doInsert_c (σ:Snap) (l:List GDoc) (hl:l.length<=1000000) (so:Option Addr) (sc:Nat) (hsc:l.length<=sc) (d:GDoc) (vo:Option Addr) (vc:Nat) (V:SlAt σ vo 1 vc 2 (doRows [d])) :
    FnS Tryz.prog 108 [.a (.v (.slice so l.length sc)),.a (.v (.int .i64 l.length)),.a (.v (.slice vo 1 vc))] σ [doE so sc l]
      (fun v _ A'=>∃ so' sc',v=.slice so' (l++[d]).length sc'/\(l++[d]).length<=sc'/\A'=[doE so' sc' (l++[d])]):=by
  refine enter_f Tryz.func108 rfl rfl (by (repeat' (first | exact trivial | constructor))) fun w=>?_
  (repeat (first | refine cj_seq ?_ | refine cjr TT rfl ?_ | refine oj_then ?_))
  refine oj_slice TT l.length l.length rfl rfl rfl rfl rfl rfl rfl rfl rfl rfl (.inr ⟨_,_,rfl,rfl⟩) (.inl ⟨rfl,rfl⟩) (Nat.le_refl _) hsc hsc (oj_run TT rfl ?_)
  (repeat (first | refine cj_seq ?_ | refine cjr TT rfl ?_ | refine oj_then ?_))
  refine cj_if rfl (fun h=>absurd h (by decide)) (fun _=>?_)
  (repeat (first | refine cj_seq ?_ | refine cjr TT rfl ?_ | refine oj_then ?_ | refine cj_skip ?_ | refine nj_then ?_))
  refine cj_if rfl (fun _=>?_) (fun h=>absurd rfl (of_decide_eq_false h))
  (repeat (first | refine cj_seq ?_ | refine cjr TT rfl ?_))
  refine oj_append_sl TT 0 rfl rfl rfl rfl rfl rfl rfl V rfl rfl rfl rfl rfl rfl rfl rfl rfl (fun r hr=>(doRows_all [d] r hr).2.2) (by omega) (by show (l.length+1)*32<=_;omega) fun ao' cap' hcap'=>oj_run TT rfl ?_
  (repeat (first | refine oj_then ?_ | refine cj_ret ?_ | refine nj_then_ret ?_))
  refine nj_fret TT rfl fun β w' _ _=>?_
  have hlen:(l++[d]).length=l.length+1:=by simp
  rw [hlen]
  refine ⟨ao',cap',rfl,hcap',?_⟩
  unfold doE
  rw [hlen,doXs_append]
  rfl
theorem liCells_lt (n:Nat) (d:GDoc):∀ c∈liCells d,c.lt n:=by simp [liCells,AT.lt]
def liRows (l:List GDoc):List (List AT):=l.map liCells
theorem liRows_get {l:List GDoc} {i:Nat} {x:GDoc} (h:l[i]?=some x):(liRows l)[i]?=some (liCells x):=by unfold liRows;rw [List.getElem?_map,h];rfl
theorem liRows_all (a:List GDoc):∀ r∈liRows a,r.length=1/\(∀ c∈r,c.lt 0)/\r.all AT.one=true:=by
  intro r hr
  obtain ⟨x,_,rfl⟩:=List.mem_map.1 hr
  exact ⟨rfl,liCells_lt 0 x,rfl⟩
def liXs (l:List GDoc):List Value:=(liRows l).flatten.map AT.val
def liE (ao:Option Addr) (cap:Nat) (l:List GDoc):AE:=⟨ao,l.length,cap,74,1,liXs l⟩
theorem liXs_append (a b:List GDoc):liXs (a++b)=liXs a++liXs b:=by simp [liXs,liRows]
theorem li_sealed {σ:Snap} {ao:Option Addr} {cap:Nat} {l:List GDoc} (hS:ArrSealed σ (liE ao cap l)) (hc:l.length<=cap):SlAt σ ao l.length cap 1 (liRows l) :=
  hS.sl rfl (fun r hr=>⟨(liRows_all l r hr).1,(liRows_all l r hr).2.1⟩) (by simp [liRows]) rfl hc
set_option maxRecDepth 100000 in
set_option maxHeartbeats 1000000 in
theorem liClone_c (σ:Snap) (xs:List GDoc) (hl:xs.length<=1000000) (ao:Option Addr) (cap:Nat) (H:SlAt σ ao xs.length cap 1 (liRows xs)) :
    FnS Tryz.prog 111 [.a (.v (.slice ao xs.length cap))] σ [] (fun v _ A'=>∃ bo bc,v=.slice bo xs.length bc/\xs.length<=bc/\A'=[liE bo bc xs]):=by
  refine enter_f Tryz.func111 rfl rfl (by (repeat' (first | exact trivial | constructor))) fun w=>?_
  (repeat (first | refine cj_seq ?_ | refine cjr TT rfl ?_ | refine oj_then ?_ | (refine oj_slnil TT rfl rfl rfl rfl rfl rfl rfl rfl ?_;refine oj_run TT rfl ?_)))
  refine cj_if rfl (fun h=>?_) (fun h=>?_)
  · have h0:ao=none:=by simpa using h
    have hn0:xs.length=0:=by
      rcases H.at_ with h1 | ⟨ad,h1,_⟩
      · exact h1
      · rw [h0] at h1;cases h1
    have hr:xs=[]:=List.eq_nil_of_length_eq_zero hn0
    subst hr
    (repeat (first | refine cj_seq ?_ | refine cjr TT rfl ?_ | refine oj_then ?_ | refine cj_ret ?_ | refine nj_then_ret ?_))
    refine nj_nilarr 74 1 ?_
    refine nj_fret TT rfl fun β w' _ _=>?_
    exact ⟨none,0,rfl,Nat.le_refl _,rfl⟩
  (repeat (first | refine cj_seq ?_ | refine cjr TT rfl ?_ | refine cj_skip ?_ | refine nj_then ?_))
  refine oj_own 0 0 1 rfl (by (repeat' (first | exact trivial | refine AllLt.of ?_))) rfl (by decide) fun gb=>?_
  refine oj_append_sl TT 0 rfl rfl rfl rfl rfl rfl rfl H rfl rfl rfl rfl rfl rfl rfl rfl rfl (fun r hr=>(liRows_all xs r hr).2.2) (by omega) (by show (0+xs.length)*24<=_;omega) fun ao' cap' hcap'=>oj_run TT rfl ?_
  (repeat (first | refine oj_then ?_ | refine cj_ret ?_))
  refine nj_fret TT rfl fun β w' _ _=>?_
  refine ⟨ao',cap',by show Value.slice ao' (0+xs.length) cap'=_;rw [Nat.zero_add],by omega,?_⟩
  show [_]=[_]
  rw [Nat.zero_add]
  rfl
set_option maxRecDepth 100000 in
set_option maxHeartbeats 1000000 in
theorem liInsert_c (σ:Snap) (l:List GDoc) (hl:l.length<=1000000) (so:Option Addr) (sc:Nat) (hsc:l.length<=sc) (d:GDoc) (vo:Option Addr) (vc:Nat) (V:SlAt σ vo 1 vc 1 (liRows [d])) :
    FnS Tryz.prog 110 [.a (.v (.slice so l.length sc)),.a (.v (.int .i64 l.length)),.a (.v (.slice vo 1 vc))] σ [liE so sc l]
      (fun v _ A'=>∃ so' sc',v=.slice so' (l++[d]).length sc'/\(l++[d]).length<=sc'/\A'=[liE so' sc' (l++[d])]):=by
  refine enter_f Tryz.func110 rfl rfl (by (repeat' (first | exact trivial | constructor))) fun w=>?_
  (repeat (first | refine cj_seq ?_ | refine cjr TT rfl ?_ | refine oj_then ?_))
  refine oj_slice TT l.length l.length rfl rfl rfl rfl rfl rfl rfl rfl rfl rfl (.inr ⟨_,_,rfl,rfl⟩) (.inl ⟨rfl,rfl⟩) (Nat.le_refl _) hsc hsc (oj_run TT rfl ?_)
  (repeat (first | refine cj_seq ?_ | refine cjr TT rfl ?_ | refine oj_then ?_))
  refine cj_if rfl (fun h=>absurd h (by decide)) (fun _=>?_)
  (repeat (first | refine cj_seq ?_ | refine cjr TT rfl ?_ | refine oj_then ?_ | refine cj_skip ?_ | refine nj_then ?_))
  refine cj_if rfl (fun _=>?_) (fun h=>absurd rfl (of_decide_eq_false h))
  (repeat (first | refine cj_seq ?_ | refine cjr TT rfl ?_))
  refine oj_append_sl TT 0 rfl rfl rfl rfl rfl rfl rfl V rfl rfl rfl rfl rfl rfl rfl rfl rfl (fun r hr=>(liRows_all [d] r hr).2.2) (by omega) (by show (l.length+1)*24<=_;omega) fun ao' cap' hcap'=>oj_run TT rfl ?_
  (repeat (first | refine oj_then ?_ | refine cj_ret ?_ | refine nj_then_ret ?_))
  refine nj_fret TT rfl fun β w' _ _=>?_
  have hlen:(l++[d]).length=l.length+1:=by simp
  rw [hlen]
  refine ⟨ao',cap',rfl,hcap',?_⟩
  unfold liE
  rw [hlen,liXs_append]
  rfl
def cmpN (a b:Int):Int:=if a<b then -1 else if b<a then 1 else 0
set_option maxRecDepth 100000 in
set_option maxHeartbeats 1000000 in
theorem isNaN_c (σ:Snap) (a:Int):PlainS Tryz.prog 213 [.a (.v (.int .i64 a))] σ (fun v=>v=.bool false):=by
  refine enter_p Tryz.func213 rfl rfl (by (repeat' (first | exact trivial | constructor))) fun w=>?_
  (repeat (first | refine cj_seq ?_ | refine cjr TT rfl ?_ | refine oj_then ?_ | refine cj_ret ?_))
  refine nj_ret TT rfl fun β w' _ _=>?_
  show Value.bool (!decide (a=a))=_
  simp
set_option maxRecDepth 100000 in
set_option maxHeartbeats 1000000 in
theorem Compare_c (σ:Snap) (a b:Int):PlainS Tryz.prog 168 [.a (.v (.int .i64 a)),.a (.v (.int .i64 b))] σ (fun v=>v=.int .i64 (cmpN a b)):=by
  refine enter_p Tryz.func168 rfl rfl (by (repeat' (first | exact trivial | constructor))) fun w=>?_
  (repeat (first | refine cj_seq ?_ | refine cjr TT rfl ?_ | refine oj_then ?_))
  refine oj_callP rfl rfl rfl rfl rfl Tryz.call213 (by (repeat' (first | exact trivial | constructor))) (isNaN_c σ a) fun v hv=>⟨.a .ff,trivial,hv.symm,?_⟩
  refine oj_run TT rfl ?_
  (repeat (first | refine cj_seq ?_ | refine cjr TT rfl ?_ | refine oj_then ?_))
  refine oj_callP rfl rfl rfl rfl rfl Tryz.call213 (by (repeat' (first | exact trivial | constructor))) (isNaN_c σ b) fun v hv=>⟨.a .ff,trivial,hv.symm,?_⟩
  refine oj_run TT rfl ?_
  (repeat (first | refine cj_seq ?_ | refine cjr TT rfl ?_ | refine oj_then ?_ | refine cj_if_f rfl ?_ | refine cj_skip ?_ | refine nj_then ?_))
  refine cj_if rfl (fun h=>?_) (fun h=>?_)
  · have h:=of_decide_eq_true h
    (repeat (first | refine cj_seq ?_ | refine cjr TT rfl ?_ | refine oj_then ?_ | refine cj_ret ?_ | refine nj_then_ret ?_))
    refine nj_ret TT rfl fun β w' _ _=>?_
    show Value.int .i64 (-1)=_
    unfold cmpN
    rw [if_pos h]
  have h:=of_decide_eq_false h
  (repeat (first | refine cj_seq ?_ | refine cjr TT rfl ?_ | refine oj_then ?_ | refine cj_skip ?_ | refine nj_then ?_))
  refine cj_if rfl (fun h2=>?_) (fun h2=>?_)
  · have h2:=of_decide_eq_true h2
    (repeat (first | refine cj_seq ?_ | refine cjr TT rfl ?_ | refine oj_then ?_ | refine cj_ret ?_ | refine nj_then_ret ?_))
    refine nj_ret TT rfl fun β w' _ _=>?_
    show Value.int .i64 1=_
    unfold cmpN
    rw [if_neg h,if_pos h2]
  · have h2:=of_decide_eq_false h2
    (repeat (first | refine cj_seq ?_ | refine cjr TT rfl ?_ | refine oj_then ?_ | refine cj_skip ?_ | refine cj_ret ?_ | refine nj_then ?_))
    refine nj_ret TT rfl fun β w' _ _=>?_
    show Value.int .i64 0=_
    unfold cmpN
    rw [if_neg h,if_neg h2]
set_option maxRecDepth 100000 in
set_option maxHeartbeats 1000000 in
theorem place1_c (σ:Snap) (d:GDoc) (id:Int):PlainS Tryz.prog 167 [.agg (doCells d),.a (.v (.int .i64 id))] σ (fun v=>v=.int .i64 (cmpN d.id id)):=by
  refine enter_p Tryz.func167 rfl rfl ⟨doCells_lt 0 d,trivial,trivial⟩ fun w=>?_
  (repeat (first | refine cj_seq ?_ | refine cjr TT rfl ?_ | refine oj_then ?_))
  refine oj_callP rfl rfl rfl rfl rfl Tryz.call168 (by (repeat' (first | exact trivial | constructor))) (Compare_c σ d.id id) fun v hv=>⟨.a (.v (.int .i64 (cmpN d.id id))),trivial,hv.symm,?_⟩
  refine oj_run TT rfl ?_
  (repeat (first | refine oj_then ?_ | refine cj_ret ?_))
  refine nj_ret TT rfl fun β w' _ _=>?_
  rfl
theorem wU (k:Nat) (h:k<18446744073709551616):IntKind.u64.wrap (k:Int)=k:=by
  show ((k:Int) % 18446744073709551616)=k
  omega
theorem wI64 (k:Nat) (h:k<9223372036854775808):IntKind.i64.wrap (k:Int)=k:=by
  unfold IntKind.wrap
  show (if (true&&decide ((k:Int) % 18446744073709551616≥9223372036854775808))=true then _ else (k:Int) % 18446744073709551616)=_
  have e:(k:Int) % 18446744073709551616=k:=by omega
  rw [e,if_neg (by simp;omega)]
theorem half_eq (k:Nat):bShr .u64 (k:Int) 1=((k / 2:Nat):Int):=by
  show (k:Int).fdiv 2=_
  rw [Int.fdiv_eq_ediv_of_nonneg _ (by decide)]
  omega
structure BsS where
  i:Nat
  j:Nat
structure PlaceAt (ds:List GDoc) (id:Int) (p:Nat):Prop where
  le:p<=ds.length
  lo:∀ k d,k<p->ds[k]?=some d->d.id<id
  hi:∀ k d,p<=k->ds[k]?=some d->id<=d.id
def isAt (ds:List GDoc) (id:Int) (p:Nat):Bool:=match ds[p]? with | some d=>decide (d.id=id) | none=>false
set_option maxRecDepth 100000 in
set_option maxHeartbeats 4000000 in
theorem BinSearch_c (σ:Snap) (ds:List GDoc) (hl:ds.length<=1000000) (ho:ds.Pairwise fun x y=>x.id<y.id) (ao:Option Addr) (cap:Nat) (H:SlAt σ ao ds.length cap 2 (doRows ds)) (id:Int) :
    PlainS Tryz.prog 166 [.a (.v (.slice ao ds.length cap)),.a (.v (.int .i64 id)),.a (.fn (.func 167) [])] σ (fun v=>∃ p:Nat,v=.tuple #[.int .i64 p,.bool (isAt ds id p)]/\PlaceAt ds id p):=by
  have hmono:∀ (a b:Nat) x y,a<=b->ds[a]?=some x->ds[b]?=some y->x.id<=y.id:=by
    intro a b x y hab hx hy
    obtain ⟨ha,rfl⟩:=List.getElem?_eq_some_iff.1 hx
    obtain ⟨hb,rfl⟩:=List.getElem?_eq_some_iff.1 hy
    rcases Nat.lt_or_ge a b with h | h
    · have:=List.pairwise_iff_getElem.1 ho a b ha hb h
      omega
    · have:a=b:=by omega
      subst this
      exact Int.le_refl _
  refine enter_p Tryz.func166 rfl rfl (by (repeat' (first | exact trivial | exact SV.lt_fn0 | constructor))) fun w=>?_
  (repeat (first | refine cj_seq ?_ | refine cjr TT rfl ?_ | refine oj_then ?_ | refine cj_block ?_))
  refine cj_cutB (fun _=>σ) (fun (p:Nat)=>[(0,.a (.v (.slice ao ds.length cap))),(1,.a (.v (.int .i64 id))),(2,.a (.fn (.func 167) [])),(8,.a (.v (.int .i64 ds.length))),(9,.a (.v (.int .i64 p)))]) (fun _=>[]) (fun _=>[]) 0 (fun p=>PlaceAt ds id p) ?_ (fun p hp=>?_)
  · refine cj_loop (fun (_:BsS)=>σ) (fun t=>[(0,.a (.v (.slice ao ds.length cap))),(1,.a (.v (.int .i64 id))),(2,.a (.fn (.func 167) [])),(8,.a (.v (.int .i64 ds.length))),(9,.a (.v (.int .i64 (t.i:Nat)))),(10,.a (.v (.int .i64 (t.j:Nat))))]) (fun _=>[]) (fun _=>[]) 0
      (fun t=>t.i<=t.j/\t.j<=ds.length/\(∀ k d,k<t.i->ds[k]?=some d->d.id<id)/\(∀ k d,t.j<=k->ds[k]?=some d->id<=d.id)) (fun t=>t.j - t.i) ⟨0,ds.length⟩
      ⟨Nat.zero_le _,Nat.le_refl _,fun k d h=>by dsimp only at h;omega,fun k d h hd=>by have:=(List.getElem?_eq_some_iff.1 hd).1;dsimp only at h;omega⟩ rfl (by (repeat first | exact trivial | refine ⟨rfl,?_⟩)) (by (repeat first | exact trivial | refine ⟨rfl,?_⟩)) rfl (by (repeat' (first | exact trivial | exact SV.lt_fn0 | constructor))) (by (repeat' exact trivial)) fun ⟨i,j⟩ ⟨hij,hj,hlo,hhi⟩=>?_
    dsimp only at hij hj hlo hhi ⊢
    (repeat (first | refine cj_seq ?_ | refine cjr TT rfl ?_ | refine oj_then ?_))
    refine cj_if rfl (fun h=>?_) (fun h=>?_)
    rotate_left
    · have hij0:i=j:=by have:=of_decide_eq_false h;omega
      subst hij0
      (repeat (first | refine cj_exit ?_ | refine nj_then_exit ?_ | refine nj_block_out ?_))
      refine nj_again i ⟨by omega,hlo,hhi⟩ Nat.zero_lt_one rfl (by (repeat first | exact trivial | refine ⟨rfl,?_⟩)) (by (repeat first | exact trivial | refine ⟨rfl,?_⟩)) rfl (by (repeat' (first | exact trivial | exact SV.lt_fn0 | constructor))) (by (repeat' exact trivial))
    have hijl:i<j:=by have:=of_decide_eq_true h;omega
    have hml:(i+j) / 2<ds.length:=by omega
    have hrow:=doRows_get (List.getElem?_eq_getElem hml)
    have hdm:=List.getElem?_eq_getElem hml
    generalize ds[(i+j) / 2]=d at *
    (repeat (first | refine cj_seq ?_ | refine cjr TT rfl ?_ | refine oj_then ?_ | refine cj_skip ?_ | refine cj_block ?_ | refine nj_then ?_ | (refine oj_conv TT _ rfl rfl rfl rfl rfl rfl rfl rfl rfl ?_;refine oj_run TT rfl ?_) | (refine oj_bshr rfl rfl rfl rfl rfl rfl (by decide) ?_;refine oj_run TT rfl ?_) | (refine oj_add rfl rfl rfl rfl rfl rfl (by omega) ?_;refine oj_run TT rfl ?_)))
    have hmid:Value.int .i64 (IntKind.i64.wrap (bShr .u64 (IntKind.u64.wrap ((i:Int)+j)) 1))=Value.int .i64 (((i+j) / 2:Nat):Int):=by
      rw [show ((i:Int)+j)=((i+j:Nat):Int) by omega,wU _ (by omega),half_eq,wI64 _ (by omega)]
    refine oj_set 26 (.a (.v (.int .i64 (((i+j) / 2:Nat):Int)))) rfl trivial (fun _=>hmid) ?_
    refine oj_set 11 (.a (.v (.int .i64 (((i+j) / 2:Nat):Int)))) rfl trivial (fun _=>hmid) ?_
    refine oj_idx TT rfl rfl rfl rfl rfl rfl rfl rfl rfl H (by omega) hrow (oj_run TT rfl ?_)
    refine oj_callP rfl rfl rfl rfl rfl Tryz.call167 (by (repeat' (first | exact trivial | refine AllLt.of ?_ | constructor))) (place1_c σ d id) fun v hv=>⟨.a (.v (.int .i64 (cmpN d.id id))),trivial,hv.symm,?_⟩
    refine oj_run TT rfl ?_
    (repeat refine oj_then ?_)
    refine cj_if rfl (fun h=>?_) (fun h=>?_)
    · have h:=of_decide_eq_true h
      have hlt:d.id<id:=by
        unfold cmpN at h
        split at h
        · assumption
        · split at h<;>omega
      (repeat (first | refine cjr TT rfl ?_ | refine oj_nil ?_ | refine nj_block ?_ | (refine oj_add rfl rfl rfl rfl rfl rfl (by omega) ?_;refine oj_run TT rfl ?_)))
      refine nj_again (⟨(i+j) / 2+1,j⟩:BsS) ⟨by dsimp only;omega,hj,fun k d' hk hd'=>?_,hhi⟩ (by dsimp only;omega) rfl (by (repeat first | exact trivial | refine ⟨rfl,?_⟩)) (by (repeat first | exact trivial | refine ⟨rfl,?_⟩)) rfl (by (repeat' (first | exact trivial | exact SV.lt_fn0 | constructor))) (by (repeat' exact trivial))
      have:=hmono k ((i+j) / 2) d' d (by dsimp only at hk;omega) hd' hdm
      omega
    · have h:=of_decide_eq_false h
      have hge:id<=d.id:=by
        unfold cmpN at h
        split at h
        · omega
        · omega
      (repeat (first | refine cjr TT rfl ?_ | refine oj_nil ?_ | refine nj_block ?_))
      refine nj_again (⟨i,(i+j) / 2⟩:BsS) ⟨by dsimp only;omega,by dsimp only;omega,hlo,fun k d' hk hd'=>?_⟩ (by dsimp only;omega) rfl (by (repeat first | exact trivial | refine ⟨rfl,?_⟩)) (by (repeat first | exact trivial | refine ⟨rfl,?_⟩)) rfl (by (repeat' (first | exact trivial | exact SV.lt_fn0 | constructor))) (by (repeat' exact trivial))
      have:=hmono ((i+j) / 2) k d d' hk hdm hd'
      omega
  (repeat (first | refine cj_seq ?_ | refine cjr TT rfl ?_))
  refine oj_split 39 rfl (fun h=>?_) (fun h=>?_)
  · have h:decide ((p:Int)<ds.length)=true:=h
    have hpl:p<ds.length:=by have:=of_decide_eq_true h;omega
    have hrow:=doRows_get (List.getElem?_eq_getElem hpl)
    have hdp:=List.getElem?_eq_getElem hpl
    generalize ds[p]=d at *
    refine oj_run TT rfl ?_
    refine oj_idx TT rfl rfl rfl rfl rfl rfl rfl rfl rfl H (by omega) hrow (oj_run TT rfl ?_)
    refine oj_callP rfl rfl rfl rfl rfl Tryz.call167 (by (repeat' (first | exact trivial | refine AllLt.of ?_ | constructor))) (place1_c σ d id) fun v hv=>⟨.a (.v (.int .i64 (cmpN d.id id))),trivial,hv.symm,?_⟩
    refine oj_run TT rfl ?_
    (repeat (first | refine oj_then ?_ | refine cj_ret ?_))
    refine nj_ret TT rfl fun β w' _ _=>?_
    refine ⟨p,?_,hp⟩
    have hb:decide (cmpN d.id id=0)=isAt ds id p:=by
      unfold isAt
      rw [hdp]
      show _=decide (d.id=id)
      rw [Bool.eq_iff_iff,decide_eq_true_eq,decide_eq_true_eq]
      unfold cmpN
      split
      · omega
      · split<;>omega
    show Value.tuple #[.int .i64 p,.bool (decide (cmpN d.id id=0))]=_
    rw [hb]
  · have h:decide ((p:Int)<ds.length)=false:=h
    have hpl:ds.length<=p:=by have:=of_decide_eq_false h;omega
    refine oj_run TT rfl ?_
    (repeat (first | refine oj_then ?_ | refine cj_ret ?_))
    refine nj_ret TT rfl fun β w' _ _=>?_
    refine ⟨p,?_,hp⟩
    unfold isAt
    rw [List.getElem?_eq_none hpl]
    rfl
end Go.Sy
namespace Go.Sy
open Go.Proofs
structure GIx where
  ds:List GDoc
  o:Option Addr
  c:Nat
  xs:List GLine
  go:Option Addr
  gc:Nat
  next:Int
  lo:Option Addr
  lc:Nat
def ixCells (X:GIx):List AT:=[.v (.slice X.o X.ds.length X.c),.v (.slice X.go X.xs.length X.gc),.v (.int .i64 X.next),.v (.slice X.lo X.ds.length X.lc)]
theorem ixCells_lt (n:Nat) (X:GIx):∀ c∈ixCells X,c.lt n:=by simp [ixCells,AT.lt]
structure IxAt (σ:Snap) (X:GIx):Prop where
  docs:SlAt σ X.o X.ds.length X.c 2 (doRows X.ds)
  lines:SlAt σ X.lo X.ds.length X.lc 1 (liRows X.ds)
  gl:SlAt σ X.go X.xs.length X.gc 3 (lnRows X.xs)
  ok:∀ x∈X.xs,LnOk σ x
  doc:∀ d∈X.ds,SlAt σ d.o d.L.length d.cap 11 (recRows d.L)/\SlAt σ d.lo d.ids.length d.lcap 1 (idRows d.ids)
theorem IxAt.mono {σ σ':Snap} {X:GIx} (h:IxAt σ X) (hle:σ.le σ'):IxAt σ' X :=
  ⟨h.docs.mono hle,h.lines.mono hle,h.gl.mono hle,fun x hx=>(h.ok x hx).mono hle,fun d hd=>⟨(h.doc d hd).1.mono hle,(h.doc d hd).2.mono hle⟩⟩
def ix0:GIx:=⟨[],none,0,[],none,0,0,none,0⟩
theorem ix0_at (σ:Snap):IxAt σ ix0:=⟨SlAt.nil σ none 0 2,SlAt.nil σ none 0 1,SlAt.nil σ none 0 3,fun _ h=>(by cases h),fun _ h=>(by cases h)⟩
set_option maxRecDepth 100000 in
set_option maxHeartbeats 1000000 in
theorem New_c (σ:Snap):PlainS Tryz.prog 38 [] σ (fun v=>v=(SV.agg (ixCells ix0)).den β0):=by
  refine enter_p Tryz.func38 rfl rfl (by (repeat' exact trivial)) fun w=>?_
  (repeat (first | refine cj_seq ?_ | refine cjr TT rfl ?_ | refine oj_then ?_ | refine cj_ret ?_))
  refine nj_ret TT rfl fun β w' _ _=>?_
  rfl
set_option maxRecDepth 100000 in
set_option maxHeartbeats 1000000 in
theorem place_c (σ:Snap) (X:GIx) (IX:SlAt σ X.o X.ds.length X.c 2 (doRows X.ds)) (hl:X.ds.length<=1000000) (ho:X.ds.Pairwise fun x y=>x.id<y.id) (id:Int) :
    PlainS Tryz.prog 102 [.agg (ixCells X),.a (.v (.int .i64 id))] σ (fun v=>∃ p:Nat,v=.tuple #[.int .i64 p,.bool (isAt X.ds id p)]/\PlaceAt X.ds id p):=by
  refine enter_p Tryz.func102 rfl rfl ⟨ixCells_lt 0 X,trivial,trivial⟩ fun w=>?_
  (repeat (first | refine cj_seq ?_ | refine cjr TT rfl ?_ | refine oj_then ?_))
  refine oj_callP rfl rfl rfl rfl rfl Tryz.call166 (by (repeat' (first | exact trivial | exact SV.lt_fn0 | constructor))) (BinSearch_c σ X.ds hl ho X.o X.c IX id) fun v ⟨p,hv,hp⟩=>⟨.tup [.a (.v (.int .i64 p)),.a (.b (isAt X.ds id p))],(by (repeat' (first | exact trivial | refine SV.lt_tup ?_ | constructor))),hv.symm,?_⟩
  refine oj_run TT rfl ?_
  (repeat (first | refine oj_then ?_ | refine cj_ret ?_))
  refine nj_ret TT rfl fun β w' _ _=>?_
  exact ⟨p,rfl,hp⟩
structure AdR where
  σ:Snap
  ps:List SRow
  bo:Option Addr
  bc:Nat
  io:Option Addr
  ic:Nat
set_option maxRecDepth 100000 in
set_option maxHeartbeats 8000000 in
theorem IxAdd_c (σ:Snap) (X:GIx) (IX:IxAt σ X) (hP:IdxP X.ds X.xs X.next) (id:Int) (L:List GRec) (R:RecsOk L) (hL:L.length<=100000) (hs:soundG L=true) (hlev:levelsOk 0 L) (ao:Option Addr) (cap:Nat) (H:SlAt σ ao L.length cap 11 (recRows L))
    (hid:∀ d∈X.ds,d.id<id) (hds:X.ds.length<=1000) (m:Nat) (hfit:GFit m ⟨X.xs,X.next,[]⟩) (hm:m+L.length<=1000000) :
    PureS Tryz.prog 40 [.agg (ixCells X),.agg [.v (.int .i64 id),.v (.slice ao L.length cap)]] σ (fun v σ'=>∃ X':GIx,v=(SV.tup [.agg (ixCells X'),.a (.v (.int .i64 0))]).den β0/\IxAt σ' X'/\IdxP X'.ds X'.xs X'.next /\
      (∃ lo lc ids,X'.ds=X.ds++[⟨id,ao,cap,L,lo,lc,ids⟩])/\GFit (m+L.length) ⟨X'.xs,X'.next,[]⟩):=by
  refine enter_s Tryz.func40 rfl rfl ⟨ixCells_lt 0 X,(by (repeat' (first | exact trivial | refine AllLt.of ?_ | constructor))),trivial⟩ fun w=>?_
  (repeat (first | refine cj_seq ?_ | refine cjr TT rfl ?_ | refine oj_then ?_))
  refine oj_callP rfl rfl rfl rfl rfl Tryz.call105 (by (repeat' (first | exact trivial | constructor))) (Sound_c σ L R.len R.fit R.bw ao cap H) fun v hv=>⟨.a .tt,trivial,by rw [hv,hs];rfl,?_⟩
  refine oj_run TT rfl ?_
  (repeat (first | refine cj_seq ?_ | refine cjr TT rfl ?_ | refine oj_then ?_ | refine cj_if_f rfl ?_ | refine cj_skip ?_ | refine nj_then ?_))
  refine oj_set 16 (.agg (ixCells X)) rfl (ixCells_lt _ _) (fun _=>rfl) ?_
  refine oj_callP rfl rfl rfl rfl rfl Tryz.call102 (by (repeat' (first | exact trivial | refine AllLt.of ?_ | constructor))) (place_c σ X IX.docs (by omega) hP.ord id) fun v ⟨p,hv,hp⟩=>⟨.tup [.a (.v (.int .i64 X.ds.length)),.a .ff],(by (repeat' (first | exact trivial | refine SV.lt_tup ?_ | constructor))),?_,?_⟩
  · have hpe:p=X.ds.length:=by
      have h1:=hp.le
      rcases Nat.lt_or_ge p X.ds.length with h | h
      · have h2:=hp.hi p _ (Nat.le_refl _) (List.getElem?_eq_getElem h)
        have h3:=hid _ (List.getElem_mem h)
        omega
      · omega
    subst hpe
    rw [hv]
    have:isAt X.ds id X.ds.length=false:=by
      unfold isAt
      rw [List.getElem?_eq_none (Nat.le_refl _)]
    rw [this]
    rfl
  refine oj_run TT rfl ?_
  (repeat (first | refine cj_seq ?_ | refine cjr TT rfl ?_ | refine oj_then ?_ | refine cj_if_f rfl ?_ | refine cj_skip ?_ | refine nj_then ?_))
  have hpl:∀ {ps:List SRow},ps.map SRow.ss=pathsG L->ps.length=L.length:=fun {ps} h=>by
    have h2:=congrArg List.length h
    rw [List.length_map] at h2
    rw [h2]
    exact pathsF_len _ _
  refine cj_cutN (fun (t:AdR)=>t.σ) (fun t=>[(2,.a (.p 0 0)),(3,.a (.p 1 0)),(4,.a (.p 2 0)),(6,.a (.v (.int .i64 X.ds.length))),(8,.a (.p 3 0)),(9,.a (.v (.slice t.io (addAll ⟨X.xs,X.next,[]⟩ t.ps).ids.length t.ic)))])
    (fun t=>[(0,.loc 60,ixCells X),(1,.loc 90,[.v (.int .i64 id),.v (.slice ao L.length cap)]),(2,.loc 60,[.v (.slice none 0 0),.v (.slice none 0 0),.v (.int .i64 0),.v (.slice none 0 0)]),(3,.loc 57,[.v (.slice t.bo (addAll ⟨X.xs,X.next,[]⟩ t.ps).xs.length t.bc),.v (.int .i64 (addAll ⟨X.xs,X.next,[]⟩ t.ps).next)])]) (fun _=>[]) 4
    (fun t=>σ.le t.σ/\t.ps.map SRow.ss=pathsG L/\(∀ p∈t.ps,SrOk t.σ p)/\SlAt t.σ t.bo (addAll ⟨X.xs,X.next,[]⟩ t.ps).xs.length t.bc 3 (lnRows (addAll ⟨X.xs,X.next,[]⟩ t.ps).xs)/\SlAt t.σ t.io (addAll ⟨X.xs,X.next,[]⟩ t.ps).ids.length t.ic 1 (idRows (addAll ⟨X.xs,X.next,[]⟩ t.ps).ids)) ?_ (fun t ht=>?_)
  · have hpath:=fun (s:Snap) (hle:σ.le s)=>Paths_c s L R hL hs hlev ao cap (H.mono hle)
    have hadd:=fun (s:Snap) (hle:σ.le s) (ps:List SRow) (hps:ps.map SRow.ss=pathsG L) (hok:∀ p∈ps,SrOk s p) (po:Option Addr) (pc:Nat) (P:SlAt s po ps.length pc 1 (srRows ps)) =>
      Add_c s X.xs X.next X.go X.gc (IX.gl.mono hle) (fun x hx=>(IX.ok x hx).mono hle) ps po pc P hok m hfit (by rw [hpl hps];omega)
    refine cj_drawG 12 [0,2,6,7,8,11] mixed (by kernel_rfl) rfl ?_
    refine gj_val (i:=0) TT rfl (by kernel_rfl) (by kernel_rfl) rfl rfl rfl rfl rfl ?_
    refine gj_val (i:=1) TT rfl (by kernel_rfl) (by kernel_rfl) rfl rfl rfl rfl rfl ?_
    refine gj_val (i:=2) TT rfl (by kernel_rfl) (by kernel_rfl) rfl rfl rfl rfl rfl ?_
    refine gj_val (i:=3) TT rfl (by kernel_rfl) (by kernel_rfl) rfl rfl rfl rfl rfl ?_
    refine gj_two (i:=4) (j:=9) (by kernel_rfl) ?_ ?_
    · refine gk_call rfl rfl rfl rfl rfl Tryz.call107 (by (repeat' (first | exact trivial | constructor))) (hpath σ (Snap.le_refl _)) fun v s1 hle1 ⟨ps,po,pc,hv,P,hok,hps⟩=>⟨.a (.v (.slice po ps.length pc)),trivial,hv.symm,?_⟩
      refine gj_two (i:=5) (j:=9) (by kernel_rfl) ?_ ?_
      · refine gk_call rfl rfl rfl rfl rfl Tryz.call106 (by (repeat' (first | exact trivial | refine AllLt.of ?_ | constructor))) (hadd s1 hle1 ps hps hok po pc P) fun v s2 hle2 ⟨bo,bc,io,ic,hv,HB,HI⟩=>⟨.tup [.agg [.v (.slice bo (addAll ⟨X.xs,X.next,[]⟩ ps).xs.length bc),.v (.int .i64 (addAll ⟨X.xs,X.next,[]⟩ ps).next)],.a (.v (.slice io (addAll ⟨X.xs,X.next,[]⟩ ps).ids.length ic))],(by (repeat' (first | exact trivial | refine AllLt.of ?_ | refine SV.lt_tup ?_ | constructor))),hv.symm,?_⟩
        refine gj_order [(6,.pure),(7,.pure),(8,.pure),(9,.keep),(10,.sink),(11,.pure)] rfl rfl (by kernel_rfl) ?_
        refine oj_run TT rfl ?_
        (repeat refine oj_nil ?_)
        refine nj_again (⟨s2,ps,bo,bc,io,ic⟩:AdR) ⟨Snap.le_trans hle1 hle2,hps,fun p hp=>(hok p hp).mono hle2,HB,HI⟩ Nat.zero_lt_one rfl (by (repeat first | exact trivial | refine ⟨rfl,?_⟩)) (by (repeat first | exact trivial | refine ⟨rfl,?_⟩)) rfl (by (repeat' (first | exact trivial | exact Nat.le_of_ble_eq_true rfl | constructor))) (by (repeat' (first | exact trivial | exact Nat.le_of_ble_eq_true rfl | refine AllLt.of ?_ | constructor)))
      · refine gk_new TT rfl rfl rfl rfl rfl ?_
        refine gj_order [(5,.keep),(6,.pure),(7,.pure),(8,.pure),(10,.sink),(11,.pure)] rfl rfl (by kernel_rfl) ?_
        refine oj_callS rfl rfl rfl rfl rfl Tryz.call106 (by (repeat' (first | exact trivial | refine AllLt.of ?_ | constructor))) (hadd s1 hle1 ps hps hok po pc P) fun v s2 hle2 ⟨bo,bc,io,ic,hv,HB,HI⟩=>⟨.tup [.agg [.v (.slice bo (addAll ⟨X.xs,X.next,[]⟩ ps).xs.length bc),.v (.int .i64 (addAll ⟨X.xs,X.next,[]⟩ ps).next)],.a (.v (.slice io (addAll ⟨X.xs,X.next,[]⟩ ps).ids.length ic))],(by (repeat' (first | exact trivial | refine AllLt.of ?_ | refine SV.lt_tup ?_ | constructor))),hv.symm,?_⟩
        refine oj_run TT rfl ?_
        (repeat refine oj_nil ?_)
        refine nj_again (⟨s2,ps,bo,bc,io,ic⟩:AdR) ⟨Snap.le_trans hle1 hle2,hps,fun p hp=>(hok p hp).mono hle2,HB,HI⟩ Nat.zero_lt_one rfl (by (repeat first | exact trivial | refine ⟨rfl,?_⟩)) (by (repeat first | exact trivial | refine ⟨rfl,?_⟩)) rfl (by (repeat' (first | exact trivial | exact Nat.le_of_ble_eq_true rfl | constructor))) (by (repeat' (first | exact trivial | exact Nat.le_of_ble_eq_true rfl | refine AllLt.of ?_ | constructor)))
    · refine gk_new TT rfl rfl rfl rfl rfl ?_
      refine gj_order [(4,.keep),(5,.keep),(6,.pure),(7,.pure),(8,.pure),(10,.sink),(11,.pure)] rfl rfl (by kernel_rfl) ?_
      refine oj_callS rfl rfl rfl rfl rfl Tryz.call107 (by (repeat' (first | exact trivial | constructor))) (hpath σ (Snap.le_refl _)) fun v s1 hle1 ⟨ps,po,pc,hv,P,hok,hps⟩=>⟨.a (.v (.slice po ps.length pc)),trivial,hv.symm,?_⟩
      refine oj_run TT rfl ?_
      refine oj_callS rfl rfl rfl rfl rfl Tryz.call106 (by (repeat' (first | exact trivial | refine AllLt.of ?_ | constructor))) (hadd s1 hle1 ps hps hok po pc P) fun v s2 hle2 ⟨bo,bc,io,ic,hv,HB,HI⟩=>⟨.tup [.agg [.v (.slice bo (addAll ⟨X.xs,X.next,[]⟩ ps).xs.length bc),.v (.int .i64 (addAll ⟨X.xs,X.next,[]⟩ ps).next)],.a (.v (.slice io (addAll ⟨X.xs,X.next,[]⟩ ps).ids.length ic))],(by (repeat' (first | exact trivial | refine AllLt.of ?_ | refine SV.lt_tup ?_ | constructor))),hv.symm,?_⟩
      refine oj_run TT rfl ?_
      (repeat refine oj_nil ?_)
      refine nj_again (⟨s2,ps,bo,bc,io,ic⟩:AdR) ⟨Snap.le_trans hle1 hle2,hps,fun p hp=>(hok p hp).mono hle2,HB,HI⟩ Nat.zero_lt_one rfl (by (repeat first | exact trivial | refine ⟨rfl,?_⟩)) (by (repeat first | exact trivial | refine ⟨rfl,?_⟩)) rfl (by (repeat' (first | exact trivial | exact Nat.le_of_ble_eq_true rfl | constructor))) (by (repeat' (first | exact trivial | exact Nat.le_of_ble_eq_true rfl | refine AllLt.of ?_ | constructor)))
  obtain ⟨s0,ps,bo,bc,io,ic⟩:=t
  obtain ⟨hle0,hps,hok,HB,HI⟩:=ht
  dsimp only at hle0 hps hok HB HI ⊢
  have hlen:=hpl hps
  have hfit':=addAll_fit ps hfit
  rw [hlen] at hfit'
  have hgok:=addAll_ok (s:=⟨X.xs,X.next,[]⟩) ps (fun x hx=>(IX.ok x hx).mono hle0) hok
  have hP':=hP.add (d:=⟨id,ao,cap,L,io,ic,(addAll ⟨X.xs,X.next,[]⟩ ps).ids⟩) hid hps rfl
  have hfit2:GFit (m+L.length) ⟨(addAll ⟨X.xs,X.next,[]⟩ ps).xs,(addAll ⟨X.xs,X.next,[]⟩ ps).next,[]⟩:=⟨hfit'.xs,Nat.zero_le _,hfit'.next,hfit'.cnt⟩
  generalize addAll ⟨X.xs,X.next,[]⟩ ps=G at *
  generalize hd0:(⟨id,ao,cap,L,io,ic,G.ids⟩:GDoc)=d at *
  have hdo:doCells d=[.v (.int .i64 id),.v (.slice ao L.length cap)]:=by rw [<-hd0];rfl
  have hli:liCells d=[.v (.slice io G.ids.length ic)]:=by rw [<-hd0];rfl
  have hdn:(X.ds++[d]).length<=1001:=by rw [List.length_append,List.length_singleton];omega
  have hfin:∀ (s:Snap) (so:Option Addr) (sc:Nat) (to:Option Addr) (tc:Nat),s0.le s->SlAt s so (X.ds++[d]).length sc 2 (doRows (X.ds++[d]))->SlAt s to (X.ds++[d]).length tc 1 (liRows (X.ds++[d])) ->
      ∃ X':GIx,(SV.tup [.agg [.v (.slice so (X.ds++[d]).length sc),.v (.slice bo G.xs.length bc),.v (.int .i64 G.next),.v (.slice to (X.ds++[d]).length tc)],.a (.v (.int .i64 0))]).den β0=(SV.tup [.agg (ixCells X'),.a (.v (.int .i64 0))]).den β0/\IxAt s X'/\IdxP X'.ds X'.xs X'.next /\
        (∃ lo lc ids,X'.ds=X.ds++[⟨id,ao,cap,L,lo,lc,ids⟩])/\GFit (m+L.length) ⟨X'.xs,X'.next,[]⟩:=by
    intro s so sc to tc hle HD HL
    refine ⟨⟨X.ds++[d],so,sc,G.xs,bo,bc,G.next,to,tc⟩,rfl,⟨HD,HL,HB.mono hle,fun x hx=>(hgok x hx).mono hle,fun e he=>?_⟩,hP',⟨io,ic,G.ids,by rw [<-hd0]⟩,hfit2⟩
    rcases List.mem_append.1 he with he | he
    · have:=IX.doc e he
      exact ⟨this.1.mono (Snap.le_trans hle0 hle),this.2.mono (Snap.le_trans hle0 hle)⟩
    · rw [List.mem_singleton] at he
      subst he
      subst hd0
      exact ⟨H.mono (Snap.le_trans hle0 hle),HI.mono hle⟩
  have HDc:=IX.docs.mono hle0
  have HLc:=IX.lines.mono hle0
  refine cj_seq ?_
  refine cj_drawB 18 [0,3,8,11,12,15,17] [(0,.loc 60,ixCells X),(1,.loc 90,[.v (.int .i64 id),.v (.slice ao L.length cap)]),(3,.loc 57,[.v (.slice bo G.xs.length bc),.v (.int .i64 G.next)])] mixed (by kernel_rfl) rfl (subH_of (by (repeat first | exact trivial | refine ⟨rfl,?_⟩))) ?_
  refine gb_val (i:=0) TT rfl (by kernel_rfl) (by kernel_rfl) rfl rfl rfl rfl rfl ?_
  refine gb_val (i:=1) TT rfl (by kernel_rfl) (by kernel_rfl) rfl rfl rfl rfl rfl ?_
  refine gb_val (i:=3) TT rfl (by kernel_rfl) (by kernel_rfl) rfl rfl rfl rfl rfl ?_
  refine gb_val (i:=4) TT rfl (by kernel_rfl) (by kernel_rfl) rfl rfl rfl rfl rfl ?_
  refine gb_val (i:=7) TT rfl (by kernel_rfl) (by kernel_rfl) rfl rfl rfl rfl rfl ?_
  refine gb_val (i:=8) TT rfl (by kernel_rfl) (by kernel_rfl) rfl rfl rfl rfl rfl ?_
  refine gb_val (i:=9) TT rfl (by kernel_rfl) (by kernel_rfl) rfl rfl rfl rfl rfl ?_
  refine gb_val (i:=11) TT rfl (by kernel_rfl) (by kernel_rfl) rfl rfl rfl rfl rfl ?_
  refine gb_val (i:=12) TT rfl (by kernel_rfl) (by kernel_rfl) rfl rfl rfl rfl rfl ?_
  have hle:s0.le s0:=Snap.le_refl _
  refine gb_three (i:=2) (j:=5) (l:=13) (by kernel_rfl) ?_ ?_ ?_
  · refine gb_callF [] (A0:=[]) (Ar:=[]) rfl rfl rfl rfl rfl rfl rfl Tryz.call109 (by (repeat' (first | exact trivial | constructor))) (doClone_c _ X.ds (by omega) X.o X.c HDc) fun v s1 A' hl ⟨qo,qc,hv,hqc,hA⟩=>⟨.a (.v (.slice qo X.ds.length qc)),trivial,hv.symm,?_⟩
    subst hA
    have hle:=Snap.le_trans hle hl
    have HDc:=HDc.mono hl
    have HLc:=HLc.mono hl
    refine gb_two (i:=5) (j:=13) (by kernel_rfl) ?_ ?_
    · refine gb_new TT rfl rfl rfl rfl rfl ?_
      refine gb_own 4 1 2 rfl (by (repeat' (first | exact trivial | refine AllLt.of ?_ | constructor))) rfl (by decide) rfl fun g5=>?_
      refine gb_seal 1 rfl rfl fun s2 hl hS=>?_
      have hle:=Snap.le_trans hle hl
      have HDc:=HDc.mono hl
      have HLc:=HLc.mono hl
      have V5:SlAt s2 (some ⟨g5,0,none⟩) 1 1 2 (doRows [d]):=do_sealed (cap:=1) (l:=[d]) (by unfold doE doXs doRows;rw [List.map_singleton,hdo];exact hS) (Nat.le_refl _)
      refine gb_two (i:=6) (j:=13) (by kernel_rfl) ?_ ?_
      · refine gb_callF [0] (A0:=[doE qo qc X.ds]) (Ar:=[]) rfl rfl rfl rfl rfl rfl rfl Tryz.call108 (by (repeat' (first | exact trivial | constructor))) (doInsert_c _ X.ds (by omega) qo qc hqc d (some ⟨g5,0,none⟩) 1 V5) fun v s3 A' hl ⟨so,sc,hv,hsc,hA⟩=>⟨.a (.v (.slice so (X.ds++[d]).length sc)),trivial,hv.symm,?_⟩
        subst hA
        have hle:=Snap.le_trans hle hl
        have HDc:=HDc.mono hl
        have HLc:=HLc.mono hl
        have V5:=V5.mono hl
        refine gb_seal 0 rfl rfl fun s4 hl hS=>?_
        have hle:=Snap.le_trans hle hl
        have HDc:=HDc.mono hl
        have HLc:=HLc.mono hl
        have V5:=V5.mono hl
        have HD:=do_sealed hS hsc
        refine gb_two (i:=10) (j:=13) (by kernel_rfl) ?_ ?_
        · refine gb_callF [] (A0:=[]) (Ar:=[]) rfl rfl rfl rfl rfl rfl rfl Tryz.call111 (by (repeat' (first | exact trivial | constructor))) (liClone_c _ X.ds (by omega) X.lo X.lc HLc) fun v s5 A' hl ⟨ro,rc,hv,hrc,hA⟩=>⟨.a (.v (.slice ro X.ds.length rc)),trivial,hv.symm,?_⟩
          subst hA
          have hle:=Snap.le_trans hle hl
          have HDc:=HDc.mono hl
          have HLc:=HLc.mono hl
          have V5:=V5.mono hl
          have HD:=HD.mono hl
          refine gb_one (i:=13) (by kernel_rfl) ?_
          refine gb_new TT rfl rfl rfl rfl rfl ?_
          refine gb_own 5 1 1 rfl (by (repeat' (first | exact trivial | refine AllLt.of ?_ | constructor))) rfl (by decide) rfl fun g13=>?_
          refine gb_seal 1 rfl rfl fun s6 hl hS=>?_
          have hle:=Snap.le_trans hle hl
          have HDc:=HDc.mono hl
          have HLc:=HLc.mono hl
          have V5:=V5.mono hl
          have HD:=HD.mono hl
          have V13:SlAt s6 (some ⟨g13,0,none⟩) 1 1 1 (liRows [d]):=li_sealed (cap:=1) (l:=[d]) (by unfold liE liXs liRows;rw [List.map_singleton,hli];exact hS) (Nat.le_refl _)
          refine gb_one (i:=14) (by kernel_rfl) ?_
          refine gb_callF [0] (A0:=[liE ro rc X.ds]) (Ar:=[]) rfl rfl rfl rfl rfl rfl rfl Tryz.call110 (by (repeat' (first | exact trivial | constructor))) (liInsert_c _ X.ds (by omega) ro rc hrc d (some ⟨g13,0,none⟩) 1 V13) fun v s7 A' hl ⟨to,tc,hv,htc,hA⟩=>⟨.a (.v (.slice to (X.ds++[d]).length tc)),trivial,hv.symm,?_⟩
          subst hA
          have hle:=Snap.le_trans hle hl
          have HDc:=HDc.mono hl
          have HLc:=HLc.mono hl
          have V5:=V5.mono hl
          have HD:=HD.mono hl
          have V13:=V13.mono hl
          refine gb_seal 0 rfl rfl fun s8 hl hS=>?_
          have hle:=Snap.le_trans hle hl
          have HDc:=HDc.mono hl
          have HLc:=HLc.mono hl
          have V5:=V5.mono hl
          have HD:=HD.mono hl
          have V13:=V13.mono hl
          have HL:=li_sealed hS htc
          refine gb_order [(15,.pure),(16,.sink),(17,.pure)] rfl rfl (by kernel_rfl) ?_
          refine oj_run TT rfl ?_
          (repeat (first | refine oj_then ?_ | refine cj_ret ?_))
          refine nj_ret TT rfl fun β w' _ _=>?_
          exact hfin _ so sc to tc hle HD HL
        · refine gb_new TT rfl rfl rfl rfl rfl ?_
          refine gb_own 5 1 1 rfl (by (repeat' (first | exact trivial | refine AllLt.of ?_ | constructor))) rfl (by decide) rfl fun g13=>?_
          refine gb_seal 0 rfl rfl fun s9 hl hS=>?_
          have hle:=Snap.le_trans hle hl
          have HDc:=HDc.mono hl
          have HLc:=HLc.mono hl
          have V5:=V5.mono hl
          have HD:=HD.mono hl
          have V13:SlAt s9 (some ⟨g13,0,none⟩) 1 1 1 (liRows [d]):=li_sealed (cap:=1) (l:=[d]) (by unfold liE liXs liRows;rw [List.map_singleton,hli];exact hS) (Nat.le_refl _)
          refine gb_one (i:=10) (by kernel_rfl) ?_
          refine gb_callF [] (A0:=[]) (Ar:=[]) rfl rfl rfl rfl rfl rfl rfl Tryz.call111 (by (repeat' (first | exact trivial | constructor))) (liClone_c _ X.ds (by omega) X.lo X.lc HLc) fun v s10 A' hl ⟨ro,rc,hv,hrc,hA⟩=>⟨.a (.v (.slice ro X.ds.length rc)),trivial,hv.symm,?_⟩
          subst hA
          have hle:=Snap.le_trans hle hl
          have HDc:=HDc.mono hl
          have HLc:=HLc.mono hl
          have V5:=V5.mono hl
          have HD:=HD.mono hl
          have V13:=V13.mono hl
          refine gb_one (i:=14) (by kernel_rfl) ?_
          refine gb_callF [0] (A0:=[liE ro rc X.ds]) (Ar:=[]) rfl rfl rfl rfl rfl rfl rfl Tryz.call110 (by (repeat' (first | exact trivial | constructor))) (liInsert_c _ X.ds (by omega) ro rc hrc d (some ⟨g13,0,none⟩) 1 V13) fun v s11 A' hl ⟨to,tc,hv,htc,hA⟩=>⟨.a (.v (.slice to (X.ds++[d]).length tc)),trivial,hv.symm,?_⟩
          subst hA
          have hle:=Snap.le_trans hle hl
          have HDc:=HDc.mono hl
          have HLc:=HLc.mono hl
          have V5:=V5.mono hl
          have HD:=HD.mono hl
          have V13:=V13.mono hl
          refine gb_seal 0 rfl rfl fun s12 hl hS=>?_
          have hle:=Snap.le_trans hle hl
          have HDc:=HDc.mono hl
          have HLc:=HLc.mono hl
          have V5:=V5.mono hl
          have HD:=HD.mono hl
          have V13:=V13.mono hl
          have HL:=li_sealed hS htc
          refine gb_order [(15,.pure),(16,.sink),(17,.pure)] rfl rfl (by kernel_rfl) ?_
          refine oj_run TT rfl ?_
          (repeat (first | refine oj_then ?_ | refine cj_ret ?_))
          refine nj_ret TT rfl fun β w' _ _=>?_
          exact hfin _ so sc to tc hle HD HL
      · refine gb_new TT rfl rfl rfl rfl rfl ?_
        refine gb_own 5 1 1 rfl (by (repeat' (first | exact trivial | refine AllLt.of ?_ | constructor))) rfl (by decide) rfl fun g13=>?_
        refine gb_seal 1 rfl rfl fun s13 hl hS=>?_
        have hle:=Snap.le_trans hle hl
        have HDc:=HDc.mono hl
        have HLc:=HLc.mono hl
        have V5:=V5.mono hl
        have V13:SlAt s13 (some ⟨g13,0,none⟩) 1 1 1 (liRows [d]):=li_sealed (cap:=1) (l:=[d]) (by unfold liE liXs liRows;rw [List.map_singleton,hli];exact hS) (Nat.le_refl _)
        refine gb_one (i:=6) (by kernel_rfl) ?_
        refine gb_callF [0] (A0:=[doE qo qc X.ds]) (Ar:=[]) rfl rfl rfl rfl rfl rfl rfl Tryz.call108 (by (repeat' (first | exact trivial | constructor))) (doInsert_c _ X.ds (by omega) qo qc hqc d (some ⟨g5,0,none⟩) 1 V5) fun v s14 A' hl ⟨so,sc,hv,hsc,hA⟩=>⟨.a (.v (.slice so (X.ds++[d]).length sc)),trivial,hv.symm,?_⟩
        subst hA
        have hle:=Snap.le_trans hle hl
        have HDc:=HDc.mono hl
        have HLc:=HLc.mono hl
        have V5:=V5.mono hl
        have V13:=V13.mono hl
        refine gb_seal 0 rfl rfl fun s15 hl hS=>?_
        have hle:=Snap.le_trans hle hl
        have HDc:=HDc.mono hl
        have HLc:=HLc.mono hl
        have V5:=V5.mono hl
        have V13:=V13.mono hl
        have HD:=do_sealed hS hsc
        refine gb_one (i:=10) (by kernel_rfl) ?_
        refine gb_callF [] (A0:=[]) (Ar:=[]) rfl rfl rfl rfl rfl rfl rfl Tryz.call111 (by (repeat' (first | exact trivial | constructor))) (liClone_c _ X.ds (by omega) X.lo X.lc HLc) fun v s16 A' hl ⟨ro,rc,hv,hrc,hA⟩=>⟨.a (.v (.slice ro X.ds.length rc)),trivial,hv.symm,?_⟩
        subst hA
        have hle:=Snap.le_trans hle hl
        have HDc:=HDc.mono hl
        have HLc:=HLc.mono hl
        have V5:=V5.mono hl
        have V13:=V13.mono hl
        have HD:=HD.mono hl
        refine gb_one (i:=14) (by kernel_rfl) ?_
        refine gb_callF [0] (A0:=[liE ro rc X.ds]) (Ar:=[]) rfl rfl rfl rfl rfl rfl rfl Tryz.call110 (by (repeat' (first | exact trivial | constructor))) (liInsert_c _ X.ds (by omega) ro rc hrc d (some ⟨g13,0,none⟩) 1 V13) fun v s17 A' hl ⟨to,tc,hv,htc,hA⟩=>⟨.a (.v (.slice to (X.ds++[d]).length tc)),trivial,hv.symm,?_⟩
        subst hA
        have hle:=Snap.le_trans hle hl
        have HDc:=HDc.mono hl
        have HLc:=HLc.mono hl
        have V5:=V5.mono hl
        have V13:=V13.mono hl
        have HD:=HD.mono hl
        refine gb_seal 0 rfl rfl fun s18 hl hS=>?_
        have hle:=Snap.le_trans hle hl
        have HDc:=HDc.mono hl
        have HLc:=HLc.mono hl
        have V5:=V5.mono hl
        have V13:=V13.mono hl
        have HD:=HD.mono hl
        have HL:=li_sealed hS htc
        refine gb_order [(15,.pure),(16,.sink),(17,.pure)] rfl rfl (by kernel_rfl) ?_
        refine oj_run TT rfl ?_
        (repeat (first | refine oj_then ?_ | refine cj_ret ?_))
        refine nj_ret TT rfl fun β w' _ _=>?_
        exact hfin _ so sc to tc hle HD HL
    · refine gb_new TT rfl rfl rfl rfl rfl ?_
      refine gb_own 4 1 1 rfl (by (repeat' (first | exact trivial | refine AllLt.of ?_ | constructor))) rfl (by decide) rfl fun g13=>?_
      refine gb_seal 1 rfl rfl fun s19 hl hS=>?_
      have hle:=Snap.le_trans hle hl
      have HDc:=HDc.mono hl
      have HLc:=HLc.mono hl
      have V13:SlAt s19 (some ⟨g13,0,none⟩) 1 1 1 (liRows [d]):=li_sealed (cap:=1) (l:=[d]) (by unfold liE liXs liRows;rw [List.map_singleton,hli];exact hS) (Nat.le_refl _)
      refine gb_one (i:=5) (by kernel_rfl) ?_
      refine gb_new TT rfl rfl rfl rfl rfl ?_
      refine gb_own 5 1 2 rfl (by (repeat' (first | exact trivial | refine AllLt.of ?_ | constructor))) rfl (by decide) rfl fun g5=>?_
      refine gb_seal 1 rfl rfl fun s20 hl hS=>?_
      have hle:=Snap.le_trans hle hl
      have HDc:=HDc.mono hl
      have HLc:=HLc.mono hl
      have V13:=V13.mono hl
      have V5:SlAt s20 (some ⟨g5,0,none⟩) 1 1 2 (doRows [d]):=do_sealed (cap:=1) (l:=[d]) (by unfold doE doXs doRows;rw [List.map_singleton,hdo];exact hS) (Nat.le_refl _)
      refine gb_one (i:=6) (by kernel_rfl) ?_
      refine gb_callF [0] (A0:=[doE qo qc X.ds]) (Ar:=[]) rfl rfl rfl rfl rfl rfl rfl Tryz.call108 (by (repeat' (first | exact trivial | constructor))) (doInsert_c _ X.ds (by omega) qo qc hqc d (some ⟨g5,0,none⟩) 1 V5) fun v s21 A' hl ⟨so,sc,hv,hsc,hA⟩=>⟨.a (.v (.slice so (X.ds++[d]).length sc)),trivial,hv.symm,?_⟩
      subst hA
      have hle:=Snap.le_trans hle hl
      have HDc:=HDc.mono hl
      have HLc:=HLc.mono hl
      have V13:=V13.mono hl
      have V5:=V5.mono hl
      refine gb_seal 0 rfl rfl fun s22 hl hS=>?_
      have hle:=Snap.le_trans hle hl
      have HDc:=HDc.mono hl
      have HLc:=HLc.mono hl
      have V13:=V13.mono hl
      have V5:=V5.mono hl
      have HD:=do_sealed hS hsc
      refine gb_one (i:=10) (by kernel_rfl) ?_
      refine gb_callF [] (A0:=[]) (Ar:=[]) rfl rfl rfl rfl rfl rfl rfl Tryz.call111 (by (repeat' (first | exact trivial | constructor))) (liClone_c _ X.ds (by omega) X.lo X.lc HLc) fun v s23 A' hl ⟨ro,rc,hv,hrc,hA⟩=>⟨.a (.v (.slice ro X.ds.length rc)),trivial,hv.symm,?_⟩
      subst hA
      have hle:=Snap.le_trans hle hl
      have HDc:=HDc.mono hl
      have HLc:=HLc.mono hl
      have V13:=V13.mono hl
      have V5:=V5.mono hl
      have HD:=HD.mono hl
      refine gb_one (i:=14) (by kernel_rfl) ?_
      refine gb_callF [0] (A0:=[liE ro rc X.ds]) (Ar:=[]) rfl rfl rfl rfl rfl rfl rfl Tryz.call110 (by (repeat' (first | exact trivial | constructor))) (liInsert_c _ X.ds (by omega) ro rc hrc d (some ⟨g13,0,none⟩) 1 V13) fun v s24 A' hl ⟨to,tc,hv,htc,hA⟩=>⟨.a (.v (.slice to (X.ds++[d]).length tc)),trivial,hv.symm,?_⟩
      subst hA
      have hle:=Snap.le_trans hle hl
      have HDc:=HDc.mono hl
      have HLc:=HLc.mono hl
      have V13:=V13.mono hl
      have V5:=V5.mono hl
      have HD:=HD.mono hl
      refine gb_seal 0 rfl rfl fun s25 hl hS=>?_
      have hle:=Snap.le_trans hle hl
      have HDc:=HDc.mono hl
      have HLc:=HLc.mono hl
      have V13:=V13.mono hl
      have V5:=V5.mono hl
      have HD:=HD.mono hl
      have HL:=li_sealed hS htc
      refine gb_order [(15,.pure),(16,.sink),(17,.pure)] rfl rfl (by kernel_rfl) ?_
      refine oj_run TT rfl ?_
      (repeat (first | refine oj_then ?_ | refine cj_ret ?_))
      refine nj_ret TT rfl fun β w' _ _=>?_
      exact hfin _ so sc to tc hle HD HL
  · refine gb_new TT rfl rfl rfl rfl rfl ?_
    refine gb_own 4 1 2 rfl (by (repeat' (first | exact trivial | refine AllLt.of ?_ | constructor))) rfl (by decide) rfl fun g5=>?_
    refine gb_seal 0 rfl rfl fun s26 hl hS=>?_
    have hle:=Snap.le_trans hle hl
    have HDc:=HDc.mono hl
    have HLc:=HLc.mono hl
    have V5:SlAt s26 (some ⟨g5,0,none⟩) 1 1 2 (doRows [d]):=do_sealed (cap:=1) (l:=[d]) (by unfold doE doXs doRows;rw [List.map_singleton,hdo];exact hS) (Nat.le_refl _)
    refine gb_two (i:=2) (j:=13) (by kernel_rfl) ?_ ?_
    · refine gb_callF [] (A0:=[]) (Ar:=[]) rfl rfl rfl rfl rfl rfl rfl Tryz.call109 (by (repeat' (first | exact trivial | constructor))) (doClone_c _ X.ds (by omega) X.o X.c HDc) fun v s27 A' hl ⟨qo,qc,hv,hqc,hA⟩=>⟨.a (.v (.slice qo X.ds.length qc)),trivial,hv.symm,?_⟩
      subst hA
      have hle:=Snap.le_trans hle hl
      have HDc:=HDc.mono hl
      have HLc:=HLc.mono hl
      have V5:=V5.mono hl
      refine gb_two (i:=6) (j:=13) (by kernel_rfl) ?_ ?_
      · refine gb_callF [0] (A0:=[doE qo qc X.ds]) (Ar:=[]) rfl rfl rfl rfl rfl rfl rfl Tryz.call108 (by (repeat' (first | exact trivial | constructor))) (doInsert_c _ X.ds (by omega) qo qc hqc d (some ⟨g5,0,none⟩) 1 V5) fun v s28 A' hl ⟨so,sc,hv,hsc,hA⟩=>⟨.a (.v (.slice so (X.ds++[d]).length sc)),trivial,hv.symm,?_⟩
        subst hA
        have hle:=Snap.le_trans hle hl
        have HDc:=HDc.mono hl
        have HLc:=HLc.mono hl
        have V5:=V5.mono hl
        refine gb_seal 0 rfl rfl fun s29 hl hS=>?_
        have hle:=Snap.le_trans hle hl
        have HDc:=HDc.mono hl
        have HLc:=HLc.mono hl
        have V5:=V5.mono hl
        have HD:=do_sealed hS hsc
        refine gb_two (i:=10) (j:=13) (by kernel_rfl) ?_ ?_
        · refine gb_callF [] (A0:=[]) (Ar:=[]) rfl rfl rfl rfl rfl rfl rfl Tryz.call111 (by (repeat' (first | exact trivial | constructor))) (liClone_c _ X.ds (by omega) X.lo X.lc HLc) fun v s30 A' hl ⟨ro,rc,hv,hrc,hA⟩=>⟨.a (.v (.slice ro X.ds.length rc)),trivial,hv.symm,?_⟩
          subst hA
          have hle:=Snap.le_trans hle hl
          have HDc:=HDc.mono hl
          have HLc:=HLc.mono hl
          have V5:=V5.mono hl
          have HD:=HD.mono hl
          refine gb_one (i:=13) (by kernel_rfl) ?_
          refine gb_new TT rfl rfl rfl rfl rfl ?_
          refine gb_own 5 1 1 rfl (by (repeat' (first | exact trivial | refine AllLt.of ?_ | constructor))) rfl (by decide) rfl fun g13=>?_
          refine gb_seal 1 rfl rfl fun s31 hl hS=>?_
          have hle:=Snap.le_trans hle hl
          have HDc:=HDc.mono hl
          have HLc:=HLc.mono hl
          have V5:=V5.mono hl
          have HD:=HD.mono hl
          have V13:SlAt s31 (some ⟨g13,0,none⟩) 1 1 1 (liRows [d]):=li_sealed (cap:=1) (l:=[d]) (by unfold liE liXs liRows;rw [List.map_singleton,hli];exact hS) (Nat.le_refl _)
          refine gb_one (i:=14) (by kernel_rfl) ?_
          refine gb_callF [0] (A0:=[liE ro rc X.ds]) (Ar:=[]) rfl rfl rfl rfl rfl rfl rfl Tryz.call110 (by (repeat' (first | exact trivial | constructor))) (liInsert_c _ X.ds (by omega) ro rc hrc d (some ⟨g13,0,none⟩) 1 V13) fun v s32 A' hl ⟨to,tc,hv,htc,hA⟩=>⟨.a (.v (.slice to (X.ds++[d]).length tc)),trivial,hv.symm,?_⟩
          subst hA
          have hle:=Snap.le_trans hle hl
          have HDc:=HDc.mono hl
          have HLc:=HLc.mono hl
          have V5:=V5.mono hl
          have HD:=HD.mono hl
          have V13:=V13.mono hl
          refine gb_seal 0 rfl rfl fun s33 hl hS=>?_
          have hle:=Snap.le_trans hle hl
          have HDc:=HDc.mono hl
          have HLc:=HLc.mono hl
          have V5:=V5.mono hl
          have HD:=HD.mono hl
          have V13:=V13.mono hl
          have HL:=li_sealed hS htc
          refine gb_order [(15,.pure),(16,.sink),(17,.pure)] rfl rfl (by kernel_rfl) ?_
          refine oj_run TT rfl ?_
          (repeat (first | refine oj_then ?_ | refine cj_ret ?_))
          refine nj_ret TT rfl fun β w' _ _=>?_
          exact hfin _ so sc to tc hle HD HL
        · refine gb_new TT rfl rfl rfl rfl rfl ?_
          refine gb_own 5 1 1 rfl (by (repeat' (first | exact trivial | refine AllLt.of ?_ | constructor))) rfl (by decide) rfl fun g13=>?_
          refine gb_seal 0 rfl rfl fun s34 hl hS=>?_
          have hle:=Snap.le_trans hle hl
          have HDc:=HDc.mono hl
          have HLc:=HLc.mono hl
          have V5:=V5.mono hl
          have HD:=HD.mono hl
          have V13:SlAt s34 (some ⟨g13,0,none⟩) 1 1 1 (liRows [d]):=li_sealed (cap:=1) (l:=[d]) (by unfold liE liXs liRows;rw [List.map_singleton,hli];exact hS) (Nat.le_refl _)
          refine gb_one (i:=10) (by kernel_rfl) ?_
          refine gb_callF [] (A0:=[]) (Ar:=[]) rfl rfl rfl rfl rfl rfl rfl Tryz.call111 (by (repeat' (first | exact trivial | constructor))) (liClone_c _ X.ds (by omega) X.lo X.lc HLc) fun v s35 A' hl ⟨ro,rc,hv,hrc,hA⟩=>⟨.a (.v (.slice ro X.ds.length rc)),trivial,hv.symm,?_⟩
          subst hA
          have hle:=Snap.le_trans hle hl
          have HDc:=HDc.mono hl
          have HLc:=HLc.mono hl
          have V5:=V5.mono hl
          have HD:=HD.mono hl
          have V13:=V13.mono hl
          refine gb_one (i:=14) (by kernel_rfl) ?_
          refine gb_callF [0] (A0:=[liE ro rc X.ds]) (Ar:=[]) rfl rfl rfl rfl rfl rfl rfl Tryz.call110 (by (repeat' (first | exact trivial | constructor))) (liInsert_c _ X.ds (by omega) ro rc hrc d (some ⟨g13,0,none⟩) 1 V13) fun v s36 A' hl ⟨to,tc,hv,htc,hA⟩=>⟨.a (.v (.slice to (X.ds++[d]).length tc)),trivial,hv.symm,?_⟩
          subst hA
          have hle:=Snap.le_trans hle hl
          have HDc:=HDc.mono hl
          have HLc:=HLc.mono hl
          have V5:=V5.mono hl
          have HD:=HD.mono hl
          have V13:=V13.mono hl
          refine gb_seal 0 rfl rfl fun s37 hl hS=>?_
          have hle:=Snap.le_trans hle hl
          have HDc:=HDc.mono hl
          have HLc:=HLc.mono hl
          have V5:=V5.mono hl
          have HD:=HD.mono hl
          have V13:=V13.mono hl
          have HL:=li_sealed hS htc
          refine gb_order [(15,.pure),(16,.sink),(17,.pure)] rfl rfl (by kernel_rfl) ?_
          refine oj_run TT rfl ?_
          (repeat (first | refine oj_then ?_ | refine cj_ret ?_))
          refine nj_ret TT rfl fun β w' _ _=>?_
          exact hfin _ so sc to tc hle HD HL
      · refine gb_new TT rfl rfl rfl rfl rfl ?_
        refine gb_own 5 1 1 rfl (by (repeat' (first | exact trivial | refine AllLt.of ?_ | constructor))) rfl (by decide) rfl fun g13=>?_
        refine gb_seal 1 rfl rfl fun s38 hl hS=>?_
        have hle:=Snap.le_trans hle hl
        have HDc:=HDc.mono hl
        have HLc:=HLc.mono hl
        have V5:=V5.mono hl
        have V13:SlAt s38 (some ⟨g13,0,none⟩) 1 1 1 (liRows [d]):=li_sealed (cap:=1) (l:=[d]) (by unfold liE liXs liRows;rw [List.map_singleton,hli];exact hS) (Nat.le_refl _)
        refine gb_one (i:=6) (by kernel_rfl) ?_
        refine gb_callF [0] (A0:=[doE qo qc X.ds]) (Ar:=[]) rfl rfl rfl rfl rfl rfl rfl Tryz.call108 (by (repeat' (first | exact trivial | constructor))) (doInsert_c _ X.ds (by omega) qo qc hqc d (some ⟨g5,0,none⟩) 1 V5) fun v s39 A' hl ⟨so,sc,hv,hsc,hA⟩=>⟨.a (.v (.slice so (X.ds++[d]).length sc)),trivial,hv.symm,?_⟩
        subst hA
        have hle:=Snap.le_trans hle hl
        have HDc:=HDc.mono hl
        have HLc:=HLc.mono hl
        have V5:=V5.mono hl
        have V13:=V13.mono hl
        refine gb_seal 0 rfl rfl fun s40 hl hS=>?_
        have hle:=Snap.le_trans hle hl
        have HDc:=HDc.mono hl
        have HLc:=HLc.mono hl
        have V5:=V5.mono hl
        have V13:=V13.mono hl
        have HD:=do_sealed hS hsc
        refine gb_one (i:=10) (by kernel_rfl) ?_
        refine gb_callF [] (A0:=[]) (Ar:=[]) rfl rfl rfl rfl rfl rfl rfl Tryz.call111 (by (repeat' (first | exact trivial | constructor))) (liClone_c _ X.ds (by omega) X.lo X.lc HLc) fun v s41 A' hl ⟨ro,rc,hv,hrc,hA⟩=>⟨.a (.v (.slice ro X.ds.length rc)),trivial,hv.symm,?_⟩
        subst hA
        have hle:=Snap.le_trans hle hl
        have HDc:=HDc.mono hl
        have HLc:=HLc.mono hl
        have V5:=V5.mono hl
        have V13:=V13.mono hl
        have HD:=HD.mono hl
        refine gb_one (i:=14) (by kernel_rfl) ?_
        refine gb_callF [0] (A0:=[liE ro rc X.ds]) (Ar:=[]) rfl rfl rfl rfl rfl rfl rfl Tryz.call110 (by (repeat' (first | exact trivial | constructor))) (liInsert_c _ X.ds (by omega) ro rc hrc d (some ⟨g13,0,none⟩) 1 V13) fun v s42 A' hl ⟨to,tc,hv,htc,hA⟩=>⟨.a (.v (.slice to (X.ds++[d]).length tc)),trivial,hv.symm,?_⟩
        subst hA
        have hle:=Snap.le_trans hle hl
        have HDc:=HDc.mono hl
        have HLc:=HLc.mono hl
        have V5:=V5.mono hl
        have V13:=V13.mono hl
        have HD:=HD.mono hl
        refine gb_seal 0 rfl rfl fun s43 hl hS=>?_
        have hle:=Snap.le_trans hle hl
        have HDc:=HDc.mono hl
        have HLc:=HLc.mono hl
        have V5:=V5.mono hl
        have V13:=V13.mono hl
        have HD:=HD.mono hl
        have HL:=li_sealed hS htc
        refine gb_order [(15,.pure),(16,.sink),(17,.pure)] rfl rfl (by kernel_rfl) ?_
        refine oj_run TT rfl ?_
        (repeat (first | refine oj_then ?_ | refine cj_ret ?_))
        refine nj_ret TT rfl fun β w' _ _=>?_
        exact hfin _ so sc to tc hle HD HL
    · refine gb_new TT rfl rfl rfl rfl rfl ?_
      refine gb_own 5 1 1 rfl (by (repeat' (first | exact trivial | refine AllLt.of ?_ | constructor))) rfl (by decide) rfl fun g13=>?_
      refine gb_seal 0 rfl rfl fun s44 hl hS=>?_
      have hle:=Snap.le_trans hle hl
      have HDc:=HDc.mono hl
      have HLc:=HLc.mono hl
      have V5:=V5.mono hl
      have V13:SlAt s44 (some ⟨g13,0,none⟩) 1 1 1 (liRows [d]):=li_sealed (cap:=1) (l:=[d]) (by unfold liE liXs liRows;rw [List.map_singleton,hli];exact hS) (Nat.le_refl _)
      refine gb_one (i:=2) (by kernel_rfl) ?_
      refine gb_callF [] (A0:=[]) (Ar:=[]) rfl rfl rfl rfl rfl rfl rfl Tryz.call109 (by (repeat' (first | exact trivial | constructor))) (doClone_c _ X.ds (by omega) X.o X.c HDc) fun v s45 A' hl ⟨qo,qc,hv,hqc,hA⟩=>⟨.a (.v (.slice qo X.ds.length qc)),trivial,hv.symm,?_⟩
      subst hA
      have hle:=Snap.le_trans hle hl
      have HDc:=HDc.mono hl
      have HLc:=HLc.mono hl
      have V5:=V5.mono hl
      have V13:=V13.mono hl
      refine gb_one (i:=6) (by kernel_rfl) ?_
      refine gb_callF [0] (A0:=[doE qo qc X.ds]) (Ar:=[]) rfl rfl rfl rfl rfl rfl rfl Tryz.call108 (by (repeat' (first | exact trivial | constructor))) (doInsert_c _ X.ds (by omega) qo qc hqc d (some ⟨g5,0,none⟩) 1 V5) fun v s46 A' hl ⟨so,sc,hv,hsc,hA⟩=>⟨.a (.v (.slice so (X.ds++[d]).length sc)),trivial,hv.symm,?_⟩
      subst hA
      have hle:=Snap.le_trans hle hl
      have HDc:=HDc.mono hl
      have HLc:=HLc.mono hl
      have V5:=V5.mono hl
      have V13:=V13.mono hl
      refine gb_seal 0 rfl rfl fun s47 hl hS=>?_
      have hle:=Snap.le_trans hle hl
      have HDc:=HDc.mono hl
      have HLc:=HLc.mono hl
      have V5:=V5.mono hl
      have V13:=V13.mono hl
      have HD:=do_sealed hS hsc
      refine gb_one (i:=10) (by kernel_rfl) ?_
      refine gb_callF [] (A0:=[]) (Ar:=[]) rfl rfl rfl rfl rfl rfl rfl Tryz.call111 (by (repeat' (first | exact trivial | constructor))) (liClone_c _ X.ds (by omega) X.lo X.lc HLc) fun v s48 A' hl ⟨ro,rc,hv,hrc,hA⟩=>⟨.a (.v (.slice ro X.ds.length rc)),trivial,hv.symm,?_⟩
      subst hA
      have hle:=Snap.le_trans hle hl
      have HDc:=HDc.mono hl
      have HLc:=HLc.mono hl
      have V5:=V5.mono hl
      have V13:=V13.mono hl
      have HD:=HD.mono hl
      refine gb_one (i:=14) (by kernel_rfl) ?_
      refine gb_callF [0] (A0:=[liE ro rc X.ds]) (Ar:=[]) rfl rfl rfl rfl rfl rfl rfl Tryz.call110 (by (repeat' (first | exact trivial | constructor))) (liInsert_c _ X.ds (by omega) ro rc hrc d (some ⟨g13,0,none⟩) 1 V13) fun v s49 A' hl ⟨to,tc,hv,htc,hA⟩=>⟨.a (.v (.slice to (X.ds++[d]).length tc)),trivial,hv.symm,?_⟩
      subst hA
      have hle:=Snap.le_trans hle hl
      have HDc:=HDc.mono hl
      have HLc:=HLc.mono hl
      have V5:=V5.mono hl
      have V13:=V13.mono hl
      have HD:=HD.mono hl
      refine gb_seal 0 rfl rfl fun s50 hl hS=>?_
      have hle:=Snap.le_trans hle hl
      have HDc:=HDc.mono hl
      have HLc:=HLc.mono hl
      have V5:=V5.mono hl
      have V13:=V13.mono hl
      have HD:=HD.mono hl
      have HL:=li_sealed hS htc
      refine gb_order [(15,.pure),(16,.sink),(17,.pure)] rfl rfl (by kernel_rfl) ?_
      refine oj_run TT rfl ?_
      (repeat (first | refine oj_then ?_ | refine cj_ret ?_))
      refine nj_ret TT rfl fun β w' _ _=>?_
      exact hfin _ so sc to tc hle HD HL
  · refine gb_new TT rfl rfl rfl rfl rfl ?_
    refine gb_own 4 1 1 rfl (by (repeat' (first | exact trivial | refine AllLt.of ?_ | constructor))) rfl (by decide) rfl fun g13=>?_
    refine gb_seal 0 rfl rfl fun s51 hl hS=>?_
    have hle:=Snap.le_trans hle hl
    have HDc:=HDc.mono hl
    have HLc:=HLc.mono hl
    have V13:SlAt s51 (some ⟨g13,0,none⟩) 1 1 1 (liRows [d]):=li_sealed (cap:=1) (l:=[d]) (by unfold liE liXs liRows;rw [List.map_singleton,hli];exact hS) (Nat.le_refl _)
    refine gb_two (i:=2) (j:=5) (by kernel_rfl) ?_ ?_
    · refine gb_callF [] (A0:=[]) (Ar:=[]) rfl rfl rfl rfl rfl rfl rfl Tryz.call109 (by (repeat' (first | exact trivial | constructor))) (doClone_c _ X.ds (by omega) X.o X.c HDc) fun v s52 A' hl ⟨qo,qc,hv,hqc,hA⟩=>⟨.a (.v (.slice qo X.ds.length qc)),trivial,hv.symm,?_⟩
      subst hA
      have hle:=Snap.le_trans hle hl
      have HDc:=HDc.mono hl
      have HLc:=HLc.mono hl
      have V13:=V13.mono hl
      refine gb_one (i:=5) (by kernel_rfl) ?_
      refine gb_new TT rfl rfl rfl rfl rfl ?_
      refine gb_own 5 1 2 rfl (by (repeat' (first | exact trivial | refine AllLt.of ?_ | constructor))) rfl (by decide) rfl fun g5=>?_
      refine gb_seal 1 rfl rfl fun s53 hl hS=>?_
      have hle:=Snap.le_trans hle hl
      have HDc:=HDc.mono hl
      have HLc:=HLc.mono hl
      have V13:=V13.mono hl
      have V5:SlAt s53 (some ⟨g5,0,none⟩) 1 1 2 (doRows [d]):=do_sealed (cap:=1) (l:=[d]) (by unfold doE doXs doRows;rw [List.map_singleton,hdo];exact hS) (Nat.le_refl _)
      refine gb_one (i:=6) (by kernel_rfl) ?_
      refine gb_callF [0] (A0:=[doE qo qc X.ds]) (Ar:=[]) rfl rfl rfl rfl rfl rfl rfl Tryz.call108 (by (repeat' (first | exact trivial | constructor))) (doInsert_c _ X.ds (by omega) qo qc hqc d (some ⟨g5,0,none⟩) 1 V5) fun v s54 A' hl ⟨so,sc,hv,hsc,hA⟩=>⟨.a (.v (.slice so (X.ds++[d]).length sc)),trivial,hv.symm,?_⟩
      subst hA
      have hle:=Snap.le_trans hle hl
      have HDc:=HDc.mono hl
      have HLc:=HLc.mono hl
      have V13:=V13.mono hl
      have V5:=V5.mono hl
      refine gb_seal 0 rfl rfl fun s55 hl hS=>?_
      have hle:=Snap.le_trans hle hl
      have HDc:=HDc.mono hl
      have HLc:=HLc.mono hl
      have V13:=V13.mono hl
      have V5:=V5.mono hl
      have HD:=do_sealed hS hsc
      refine gb_one (i:=10) (by kernel_rfl) ?_
      refine gb_callF [] (A0:=[]) (Ar:=[]) rfl rfl rfl rfl rfl rfl rfl Tryz.call111 (by (repeat' (first | exact trivial | constructor))) (liClone_c _ X.ds (by omega) X.lo X.lc HLc) fun v s56 A' hl ⟨ro,rc,hv,hrc,hA⟩=>⟨.a (.v (.slice ro X.ds.length rc)),trivial,hv.symm,?_⟩
      subst hA
      have hle:=Snap.le_trans hle hl
      have HDc:=HDc.mono hl
      have HLc:=HLc.mono hl
      have V13:=V13.mono hl
      have V5:=V5.mono hl
      have HD:=HD.mono hl
      refine gb_one (i:=14) (by kernel_rfl) ?_
      refine gb_callF [0] (A0:=[liE ro rc X.ds]) (Ar:=[]) rfl rfl rfl rfl rfl rfl rfl Tryz.call110 (by (repeat' (first | exact trivial | constructor))) (liInsert_c _ X.ds (by omega) ro rc hrc d (some ⟨g13,0,none⟩) 1 V13) fun v s57 A' hl ⟨to,tc,hv,htc,hA⟩=>⟨.a (.v (.slice to (X.ds++[d]).length tc)),trivial,hv.symm,?_⟩
      subst hA
      have hle:=Snap.le_trans hle hl
      have HDc:=HDc.mono hl
      have HLc:=HLc.mono hl
      have V13:=V13.mono hl
      have V5:=V5.mono hl
      have HD:=HD.mono hl
      refine gb_seal 0 rfl rfl fun s58 hl hS=>?_
      have hle:=Snap.le_trans hle hl
      have HDc:=HDc.mono hl
      have HLc:=HLc.mono hl
      have V13:=V13.mono hl
      have V5:=V5.mono hl
      have HD:=HD.mono hl
      have HL:=li_sealed hS htc
      refine gb_order [(15,.pure),(16,.sink),(17,.pure)] rfl rfl (by kernel_rfl) ?_
      refine oj_run TT rfl ?_
      (repeat (first | refine oj_then ?_ | refine cj_ret ?_))
      refine nj_ret TT rfl fun β w' _ _=>?_
      exact hfin _ so sc to tc hle HD HL
    · refine gb_new TT rfl rfl rfl rfl rfl ?_
      refine gb_own 5 1 2 rfl (by (repeat' (first | exact trivial | refine AllLt.of ?_ | constructor))) rfl (by decide) rfl fun g5=>?_
      refine gb_seal 0 rfl rfl fun s59 hl hS=>?_
      have hle:=Snap.le_trans hle hl
      have HDc:=HDc.mono hl
      have HLc:=HLc.mono hl
      have V13:=V13.mono hl
      have V5:SlAt s59 (some ⟨g5,0,none⟩) 1 1 2 (doRows [d]):=do_sealed (cap:=1) (l:=[d]) (by unfold doE doXs doRows;rw [List.map_singleton,hdo];exact hS) (Nat.le_refl _)
      refine gb_one (i:=2) (by kernel_rfl) ?_
      refine gb_callF [] (A0:=[]) (Ar:=[]) rfl rfl rfl rfl rfl rfl rfl Tryz.call109 (by (repeat' (first | exact trivial | constructor))) (doClone_c _ X.ds (by omega) X.o X.c HDc) fun v s60 A' hl ⟨qo,qc,hv,hqc,hA⟩=>⟨.a (.v (.slice qo X.ds.length qc)),trivial,hv.symm,?_⟩
      subst hA
      have hle:=Snap.le_trans hle hl
      have HDc:=HDc.mono hl
      have HLc:=HLc.mono hl
      have V13:=V13.mono hl
      have V5:=V5.mono hl
      refine gb_one (i:=6) (by kernel_rfl) ?_
      refine gb_callF [0] (A0:=[doE qo qc X.ds]) (Ar:=[]) rfl rfl rfl rfl rfl rfl rfl Tryz.call108 (by (repeat' (first | exact trivial | constructor))) (doInsert_c _ X.ds (by omega) qo qc hqc d (some ⟨g5,0,none⟩) 1 V5) fun v s61 A' hl ⟨so,sc,hv,hsc,hA⟩=>⟨.a (.v (.slice so (X.ds++[d]).length sc)),trivial,hv.symm,?_⟩
      subst hA
      have hle:=Snap.le_trans hle hl
      have HDc:=HDc.mono hl
      have HLc:=HLc.mono hl
      have V13:=V13.mono hl
      have V5:=V5.mono hl
      refine gb_seal 0 rfl rfl fun s62 hl hS=>?_
      have hle:=Snap.le_trans hle hl
      have HDc:=HDc.mono hl
      have HLc:=HLc.mono hl
      have V13:=V13.mono hl
      have V5:=V5.mono hl
      have HD:=do_sealed hS hsc
      refine gb_one (i:=10) (by kernel_rfl) ?_
      refine gb_callF [] (A0:=[]) (Ar:=[]) rfl rfl rfl rfl rfl rfl rfl Tryz.call111 (by (repeat' (first | exact trivial | constructor))) (liClone_c _ X.ds (by omega) X.lo X.lc HLc) fun v s63 A' hl ⟨ro,rc,hv,hrc,hA⟩=>⟨.a (.v (.slice ro X.ds.length rc)),trivial,hv.symm,?_⟩
      subst hA
      have hle:=Snap.le_trans hle hl
      have HDc:=HDc.mono hl
      have HLc:=HLc.mono hl
      have V13:=V13.mono hl
      have V5:=V5.mono hl
      have HD:=HD.mono hl
      refine gb_one (i:=14) (by kernel_rfl) ?_
      refine gb_callF [0] (A0:=[liE ro rc X.ds]) (Ar:=[]) rfl rfl rfl rfl rfl rfl rfl Tryz.call110 (by (repeat' (first | exact trivial | constructor))) (liInsert_c _ X.ds (by omega) ro rc hrc d (some ⟨g13,0,none⟩) 1 V13) fun v s64 A' hl ⟨to,tc,hv,htc,hA⟩=>⟨.a (.v (.slice to (X.ds++[d]).length tc)),trivial,hv.symm,?_⟩
      subst hA
      have hle:=Snap.le_trans hle hl
      have HDc:=HDc.mono hl
      have HLc:=HLc.mono hl
      have V13:=V13.mono hl
      have V5:=V5.mono hl
      have HD:=HD.mono hl
      refine gb_seal 0 rfl rfl fun s65 hl hS=>?_
      have hle:=Snap.le_trans hle hl
      have HDc:=HDc.mono hl
      have HLc:=HLc.mono hl
      have V13:=V13.mono hl
      have V5:=V5.mono hl
      have HD:=HD.mono hl
      have HL:=li_sealed hS htc
      refine gb_order [(15,.pure),(16,.sink),(17,.pure)] rfl rfl (by kernel_rfl) ?_
      refine oj_run TT rfl ?_
      (repeat (first | refine oj_then ?_ | refine cj_ret ?_))
      refine nj_ret TT rfl fun β w' _ _=>?_
      exact hfin _ so sc to tc hle HD HL
end Go.Sy
