/- Parts of the proof of CJoinsApart: H5, H6, H2, H3. No conditions. -/
import Derived.Test.YtlonlnagmfdlbaaGreatDoorM8
namespace Go.Sy
open Go.Proofs
def doCells (d:GDoc):List AT:=[.v (.int .i64 d.id),.v (.slice d.o d.L.length d.cap)]
def liCells (d:GDoc):List AT:=[.v (.slice d.lo d.ids.length d.lcap)]
theorem doCells_lt (n:Nat) (d:GDoc):∀ c∈doCells d,c.lt n:=by simp [doCells,AT.lt]
def doRows (l:List GDoc):List (List AT):=l.map doCells
theorem doRows_get {l:List GDoc} {i:Nat} {x:GDoc} (h:l[i]?=some x):(doRows l)[i]?=some (doCells x):=by unfold doRows;rw [List.getElem?_map,h];rfl
theorem doRows_all (a:List GDoc):∀ r∈doRows a,r.length=2/\(∀ c∈r,c.lt 0)/\r.all AT.one=true:=by
  intro r hr
  obtain ⟨x,_,rfl⟩:=List.mem_map.1 hr
  exact ⟨rfl,doCells_lt 0 x,rfl⟩
def doXs (l:List GDoc):List Value:=(doRows l).flatten.map AT.val
def doE (ao:Option Addr) (cap:Nat) (l:List GDoc):AE:=⟨ao,l.length,cap,90,2,doXs l⟩
theorem doXs_append (a b:List GDoc):doXs (a++b)=doXs a++doXs b:=by simp [doXs,doRows]
theorem do_sealed {σ:Snap} {ao:Option Addr} {cap:Nat} {l:List GDoc} (hS:ArrSealed σ (doE ao cap l)) (hc:l.length<=cap):SlAt σ ao l.length cap 2 (doRows l) :=
  hS.sl rfl (fun r hr=>⟨(doRows_all l r hr).1,(doRows_all l r hr).2.1⟩) (by simp [doRows]) rfl hc
set_option maxRecDepth 100000 in
set_option maxHeartbeats 1000000 in
theorem doClone_c (σ:Snap) (xs:List GDoc) (hl:xs.length<=1000000) (ao:Option Addr) (cap:Nat) (H:SlAt σ ao xs.length cap 2 (doRows xs)) :
    FnS Tryz.prog 109 [.a (.v (.slice ao xs.length cap))] σ [] (fun v _ A'=>∃ bo bc,v=.slice bo xs.length bc/\xs.length<=bc/\A'=[doE bo bc xs]):=by
  refine enter_f Tryz.func109 rfl rfl (by (repeat' (first | exact trivial | constructor))) fun w=>?_
  (repeat (first | refine cj_seq ?_ | refine cjr TT rfl ?_ | refine oj_then ?_ | (refine oj_slnil TT rfl rfl rfl rfl rfl rfl rfl rfl ?_;refine oj_run TT rfl ?_)))
  refine cj_if rfl (fun h=>?_) (fun h=>?_)
  · have h0:ao=none:=by simpa using h
    have hn0:xs.length=0:=by
      rcases H.at_ with h1 | ⟨ad,h1,_⟩
      · exact h1
      · rw [h0] at h1;cases h1
    have hr:xs=[]:=List.eq_nil_of_length_eq_zero hn0
    subst hr
    (repeat (first | refine cj_seq ?_ | refine cjr TT rfl ?_ | refine oj_then ?_ | refine cj_ret ?_ | refine nj_then_ret ?_))
    refine nj_nilarr 90 2 ?_
    refine nj_fret TT rfl fun β w' _ _=>?_
    exact ⟨none,0,rfl,Nat.le_refl _,rfl⟩
  (repeat (first | refine cj_seq ?_ | refine cjr TT rfl ?_ | refine cj_skip ?_ | refine nj_then ?_))
  refine oj_own 0 0 2 rfl (by (repeat' (first | exact trivial | refine AllLt.of ?_))) rfl (by decide) fun gb=>?_
  refine oj_append_sl TT 0 rfl rfl rfl rfl rfl rfl rfl H rfl rfl rfl rfl rfl rfl rfl rfl rfl (fun r hr=>(doRows_all xs r hr).2.2) (by omega) (by show (0+xs.length)*32<=_;omega) fun ao' cap' hcap'=>oj_run TT rfl ?_
  (repeat (first | refine oj_then ?_ | refine cj_ret ?_))
  refine nj_fret TT rfl fun β w' _ _=>?_
  refine ⟨ao',cap',by show Value.slice ao' (0+xs.length) cap'=_;rw [Nat.zero_add],by omega,?_⟩
  show [_]=[_]
  rw [Nat.zero_add]
  rfl
set_option maxRecDepth 100000 in
set_option maxHeartbeats 1000000 in
theorem doInsert_c (σ:Snap) (l:List GDoc) (hl:l.length<=1000000) (so:Option Addr) (sc:Nat) (hsc:l.length<=sc) (d:GDoc) (vo:Option Addr) (vc:Nat) (V:SlAt σ vo 1 vc 2 (doRows [d])) :
    FnS Tryz.prog 108 [.a (.v (.slice so l.length sc)),.a (.v (.int .i64 l.length)),.a (.v (.slice vo 1 vc))] σ [doE so sc l]
      (fun v _ A'=>∃ so' sc',v=.slice so' (l++[d]).length sc'/\(l++[d]).length<=sc'/\A'=[doE so' sc' (l++[d])]):=by
  refine enter_f Tryz.func108 rfl rfl (by (repeat' (first | exact trivial | constructor))) fun w=>?_
  (repeat (first | refine cj_seq ?_ | refine cjr TT rfl ?_ | refine oj_then ?_))
  refine oj_slice TT l.length l.length rfl rfl rfl rfl rfl rfl rfl rfl rfl rfl (.inr ⟨_,_,rfl,rfl⟩) (.inl ⟨rfl,rfl⟩) (Nat.le_refl _) hsc hsc (oj_run TT rfl ?_)
  (repeat (first | refine cj_seq ?_ | refine cjr TT rfl ?_ | refine oj_then ?_))
  refine cj_if rfl (fun h=>absurd h (by decide)) (fun _=>?_)
  (repeat (first | refine cj_seq ?_ | refine cjr TT rfl ?_ | refine oj_then ?_ | refine cj_skip ?_ | refine nj_then ?_))
  refine cj_if rfl (fun _=>?_) (fun h=>absurd rfl (of_decide_eq_false h))
  (repeat (first | refine cj_seq ?_ | refine cjr TT rfl ?_))
  refine oj_append_sl TT 0 rfl rfl rfl rfl rfl rfl rfl V rfl rfl rfl rfl rfl rfl rfl rfl rfl (fun r hr=>(doRows_all [d] r hr).2.2) (by omega) (by show (l.length+1)*32<=_;omega) fun ao' cap' hcap'=>oj_run TT rfl ?_
  (repeat (first | refine oj_then ?_ | refine cj_ret ?_ | refine nj_then_ret ?_))
  refine nj_fret TT rfl fun β w' _ _=>?_
  have hlen:(l++[d]).length=l.length+1:=by simp
  rw [hlen]
  refine ⟨ao',cap',rfl,hcap',?_⟩
  unfold doE
  rw [hlen,doXs_append]
  rfl
theorem liCells_lt (n:Nat) (d:GDoc):∀ c∈liCells d,c.lt n:=by simp [liCells,AT.lt]
def liRows (l:List GDoc):List (List AT):=l.map liCells
theorem liRows_get {l:List GDoc} {i:Nat} {x:GDoc} (h:l[i]?=some x):(liRows l)[i]?=some (liCells x):=by unfold liRows;rw [List.getElem?_map,h];rfl
theorem liRows_all (a:List GDoc):∀ r∈liRows a,r.length=1/\(∀ c∈r,c.lt 0)/\r.all AT.one=true:=by
  intro r hr
  obtain ⟨x,_,rfl⟩:=List.mem_map.1 hr
  exact ⟨rfl,liCells_lt 0 x,rfl⟩
def liXs (l:List GDoc):List Value:=(liRows l).flatten.map AT.val
def liE (ao:Option Addr) (cap:Nat) (l:List GDoc):AE:=⟨ao,l.length,cap,74,1,liXs l⟩
theorem liXs_append (a b:List GDoc):liXs (a++b)=liXs a++liXs b:=by simp [liXs,liRows]
theorem li_sealed {σ:Snap} {ao:Option Addr} {cap:Nat} {l:List GDoc} (hS:ArrSealed σ (liE ao cap l)) (hc:l.length<=cap):SlAt σ ao l.length cap 1 (liRows l) :=
  hS.sl rfl (fun r hr=>⟨(liRows_all l r hr).1,(liRows_all l r hr).2.1⟩) (by simp [liRows]) rfl hc
set_option maxRecDepth 100000 in
set_option maxHeartbeats 1000000 in
theorem liClone_c (σ:Snap) (xs:List GDoc) (hl:xs.length<=1000000) (ao:Option Addr) (cap:Nat) (H:SlAt σ ao xs.length cap 1 (liRows xs)) :
    FnS Tryz.prog 111 [.a (.v (.slice ao xs.length cap))] σ [] (fun v _ A'=>∃ bo bc,v=.slice bo xs.length bc/\xs.length<=bc/\A'=[liE bo bc xs]):=by
  refine enter_f Tryz.func111 rfl rfl (by (repeat' (first | exact trivial | constructor))) fun w=>?_
  (repeat (first | refine cj_seq ?_ | refine cjr TT rfl ?_ | refine oj_then ?_ | (refine oj_slnil TT rfl rfl rfl rfl rfl rfl rfl rfl ?_;refine oj_run TT rfl ?_)))
  refine cj_if rfl (fun h=>?_) (fun h=>?_)
  · have h0:ao=none:=by simpa using h
    have hn0:xs.length=0:=by
      rcases H.at_ with h1 | ⟨ad,h1,_⟩
      · exact h1
      · rw [h0] at h1;cases h1
    have hr:xs=[]:=List.eq_nil_of_length_eq_zero hn0
    subst hr
    (repeat (first | refine cj_seq ?_ | refine cjr TT rfl ?_ | refine oj_then ?_ | refine cj_ret ?_ | refine nj_then_ret ?_))
    refine nj_nilarr 74 1 ?_
    refine nj_fret TT rfl fun β w' _ _=>?_
    exact ⟨none,0,rfl,Nat.le_refl _,rfl⟩
  (repeat (first | refine cj_seq ?_ | refine cjr TT rfl ?_ | refine cj_skip ?_ | refine nj_then ?_))
  refine oj_own 0 0 1 rfl (by (repeat' (first | exact trivial | refine AllLt.of ?_))) rfl (by decide) fun gb=>?_
  refine oj_append_sl TT 0 rfl rfl rfl rfl rfl rfl rfl H rfl rfl rfl rfl rfl rfl rfl rfl rfl (fun r hr=>(liRows_all xs r hr).2.2) (by omega) (by show (0+xs.length)*24<=_;omega) fun ao' cap' hcap'=>oj_run TT rfl ?_
  (repeat (first | refine oj_then ?_ | refine cj_ret ?_))
  refine nj_fret TT rfl fun β w' _ _=>?_
  refine ⟨ao',cap',by show Value.slice ao' (0+xs.length) cap'=_;rw [Nat.zero_add],by omega,?_⟩
  show [_]=[_]
  rw [Nat.zero_add]
  rfl
set_option maxRecDepth 100000 in
set_option maxHeartbeats 1000000 in
theorem liInsert_c (σ:Snap) (l:List GDoc) (hl:l.length<=1000000) (so:Option Addr) (sc:Nat) (hsc:l.length<=sc) (d:GDoc) (vo:Option Addr) (vc:Nat) (V:SlAt σ vo 1 vc 1 (liRows [d])) :
    FnS Tryz.prog 110 [.a (.v (.slice so l.length sc)),.a (.v (.int .i64 l.length)),.a (.v (.slice vo 1 vc))] σ [liE so sc l]
      (fun v _ A'=>∃ so' sc',v=.slice so' (l++[d]).length sc'/\(l++[d]).length<=sc'/\A'=[liE so' sc' (l++[d])]):=by
  refine enter_f Tryz.func110 rfl rfl (by (repeat' (first | exact trivial | constructor))) fun w=>?_
  (repeat (first | refine cj_seq ?_ | refine cjr TT rfl ?_ | refine oj_then ?_))
  refine oj_slice TT l.length l.length rfl rfl rfl rfl rfl rfl rfl rfl rfl rfl (.inr ⟨_,_,rfl,rfl⟩) (.inl ⟨rfl,rfl⟩) (Nat.le_refl _) hsc hsc (oj_run TT rfl ?_)
  (repeat (first | refine cj_seq ?_ | refine cjr TT rfl ?_ | refine oj_then ?_))
  refine cj_if rfl (fun h=>absurd h (by decide)) (fun _=>?_)
  (repeat (first | refine cj_seq ?_ | refine cjr TT rfl ?_ | refine oj_then ?_ | refine cj_skip ?_ | refine nj_then ?_))
  refine cj_if rfl (fun _=>?_) (fun h=>absurd rfl (of_decide_eq_false h))
  (repeat (first | refine cj_seq ?_ | refine cjr TT rfl ?_))
  refine oj_append_sl TT 0 rfl rfl rfl rfl rfl rfl rfl V rfl rfl rfl rfl rfl rfl rfl rfl rfl (fun r hr=>(liRows_all [d] r hr).2.2) (by omega) (by show (l.length+1)*24<=_;omega) fun ao' cap' hcap'=>oj_run TT rfl ?_
  (repeat (first | refine oj_then ?_ | refine cj_ret ?_ | refine nj_then_ret ?_))
  refine nj_fret TT rfl fun β w' _ _=>?_
  have hlen:(l++[d]).length=l.length+1:=by simp
  rw [hlen]
  refine ⟨ao',cap',rfl,hcap',?_⟩
  unfold liE
  rw [hlen,liXs_append]
  rfl
def cmpN (a b:Int):Int:=if a<b then -1 else if b<a then 1 else 0
set_option maxRecDepth 100000 in
set_option maxHeartbeats 1000000 in
theorem isNaN_c (σ:Snap) (a:Int):PlainS Tryz.prog 213 [.a (.v (.int .i64 a))] σ (fun v=>v=.bool false):=by
  refine enter_p Tryz.func213 rfl rfl (by (repeat' (first | exact trivial | constructor))) fun w=>?_
  (repeat (first | refine cj_seq ?_ | refine cjr TT rfl ?_ | refine oj_then ?_ | refine cj_ret ?_))
  refine nj_ret TT rfl fun β w' _ _=>?_
  show Value.bool (!decide (a=a))=_
  simp
set_option maxRecDepth 100000 in
set_option maxHeartbeats 1000000 in
theorem Compare_c (σ:Snap) (a b:Int):PlainS Tryz.prog 168 [.a (.v (.int .i64 a)),.a (.v (.int .i64 b))] σ (fun v=>v=.int .i64 (cmpN a b)):=by
  refine enter_p Tryz.func168 rfl rfl (by (repeat' (first | exact trivial | constructor))) fun w=>?_
  (repeat (first | refine cj_seq ?_ | refine cjr TT rfl ?_ | refine oj_then ?_))
  refine oj_callP rfl rfl rfl rfl rfl Tryz.call213 (by (repeat' (first | exact trivial | constructor))) (isNaN_c σ a) fun v hv=>⟨.a .ff,trivial,hv.symm,?_⟩
  refine oj_run TT rfl ?_
  (repeat (first | refine cj_seq ?_ | refine cjr TT rfl ?_ | refine oj_then ?_))
  refine oj_callP rfl rfl rfl rfl rfl Tryz.call213 (by (repeat' (first | exact trivial | constructor))) (isNaN_c σ b) fun v hv=>⟨.a .ff,trivial,hv.symm,?_⟩
  refine oj_run TT rfl ?_
  (repeat (first | refine cj_seq ?_ | refine cjr TT rfl ?_ | refine oj_then ?_ | refine cj_if_f rfl ?_ | refine cj_skip ?_ | refine nj_then ?_))
  refine cj_if rfl (fun h=>?_) (fun h=>?_)
  · have h:=of_decide_eq_true h
    (repeat (first | refine cj_seq ?_ | refine cjr TT rfl ?_ | refine oj_then ?_ | refine cj_ret ?_ | refine nj_then_ret ?_))
    refine nj_ret TT rfl fun β w' _ _=>?_
    show Value.int .i64 (-1)=_
    unfold cmpN
    rw [if_pos h]
  have h:=of_decide_eq_false h
  (repeat (first | refine cj_seq ?_ | refine cjr TT rfl ?_ | refine oj_then ?_ | refine cj_skip ?_ | refine nj_then ?_))
  refine cj_if rfl (fun h2=>?_) (fun h2=>?_)
  · have h2:=of_decide_eq_true h2
    (repeat (first | refine cj_seq ?_ | refine cjr TT rfl ?_ | refine oj_then ?_ | refine cj_ret ?_ | refine nj_then_ret ?_))
    refine nj_ret TT rfl fun β w' _ _=>?_
    show Value.int .i64 1=_
    unfold cmpN
    rw [if_neg h,if_pos h2]
  · have h2:=of_decide_eq_false h2
    (repeat (first | refine cj_seq ?_ | refine cjr TT rfl ?_ | refine oj_then ?_ | refine cj_skip ?_ | refine cj_ret ?_ | refine nj_then ?_))
    refine nj_ret TT rfl fun β w' _ _=>?_
    show Value.int .i64 0=_
    unfold cmpN
    rw [if_neg h,if_neg h2]
set_option maxRecDepth 100000 in
set_option maxHeartbeats 1000000 in
theorem place1_c (σ:Snap) (d:GDoc) (id:Int):PlainS Tryz.prog 167 [.agg (doCells d),.a (.v (.int .i64 id))] σ (fun v=>v=.int .i64 (cmpN d.id id)):=by
  refine enter_p Tryz.func167 rfl rfl ⟨doCells_lt 0 d,trivial,trivial⟩ fun w=>?_
  (repeat (first | refine cj_seq ?_ | refine cjr TT rfl ?_ | refine oj_then ?_))
  refine oj_callP rfl rfl rfl rfl rfl Tryz.call168 (by (repeat' (first | exact trivial | constructor))) (Compare_c σ d.id id) fun v hv=>⟨.a (.v (.int .i64 (cmpN d.id id))),trivial,hv.symm,?_⟩
  refine oj_run TT rfl ?_
  (repeat (first | refine oj_then ?_ | refine cj_ret ?_))
  refine nj_ret TT rfl fun β w' _ _=>?_
  rfl
theorem wU (k:Nat) (h:k<18446744073709551616):IntKind.u64.wrap (k:Int)=k:=by
  show ((k:Int) % 18446744073709551616)=k
  omega
theorem wI64 (k:Nat) (h:k<9223372036854775808):IntKind.i64.wrap (k:Int)=k:=by
  unfold IntKind.wrap
  show (if (true&&decide ((k:Int) % 18446744073709551616≥9223372036854775808))=true then _ else (k:Int) % 18446744073709551616)=_
  have e:(k:Int) % 18446744073709551616=k:=by omega
  rw [e,if_neg (by simp;omega)]
theorem half_eq (k:Nat):bShr .u64 (k:Int) 1=((k / 2:Nat):Int):=by
  show (k:Int).fdiv 2=_
  rw [Int.fdiv_eq_ediv_of_nonneg _ (by decide)]
  omega
structure BsS where
  i:Nat
  j:Nat
structure PlaceAt (ds:List GDoc) (id:Int) (p:Nat):Prop where
  le:p<=ds.length
  lo:∀ k d,k<p->ds[k]?=some d->d.id<id
  hi:∀ k d,p<=k->ds[k]?=some d->id<=d.id
def isAt (ds:List GDoc) (id:Int) (p:Nat):Bool:=match ds[p]? with | some d=>decide (d.id=id) | none=>false
set_option maxRecDepth 100000 in
set_option maxHeartbeats 4000000 in
theorem BinSearch_c (σ:Snap) (ds:List GDoc) (hl:ds.length<=1000000) (ho:ds.Pairwise fun x y=>x.id<y.id) (ao:Option Addr) (cap:Nat) (H:SlAt σ ao ds.length cap 2 (doRows ds)) (id:Int) :
    PlainS Tryz.prog 166 [.a (.v (.slice ao ds.length cap)),.a (.v (.int .i64 id)),.a (.fn (.func 167) [])] σ (fun v=>∃ p:Nat,v=.tuple #[.int .i64 p,.bool (isAt ds id p)]/\PlaceAt ds id p):=by
  have hmono:∀ (a b:Nat) x y,a<=b->ds[a]?=some x->ds[b]?=some y->x.id<=y.id:=by
    intro a b x y hab hx hy
    obtain ⟨ha,rfl⟩:=List.getElem?_eq_some_iff.1 hx
    obtain ⟨hb,rfl⟩:=List.getElem?_eq_some_iff.1 hy
    rcases Nat.lt_or_ge a b with h | h
    · have:=List.pairwise_iff_getElem.1 ho a b ha hb h
      omega
    · have:a=b:=by omega
      subst this
      exact Int.le_refl _
  refine enter_p Tryz.func166 rfl rfl (by (repeat' (first | exact trivial | exact SV.lt_fn0 | constructor))) fun w=>?_
  (repeat (first | refine cj_seq ?_ | refine cjr TT rfl ?_ | refine oj_then ?_ | refine cj_block ?_))
  refine cj_cutB (fun _=>σ) (fun (p:Nat)=>[(0,.a (.v (.slice ao ds.length cap))),(1,.a (.v (.int .i64 id))),(2,.a (.fn (.func 167) [])),(8,.a (.v (.int .i64 ds.length))),(9,.a (.v (.int .i64 p)))]) (fun _=>[]) (fun _=>[]) 0 (fun p=>PlaceAt ds id p) ?_ (fun p hp=>?_)
  · refine cj_loop (fun (_:BsS)=>σ) (fun t=>[(0,.a (.v (.slice ao ds.length cap))),(1,.a (.v (.int .i64 id))),(2,.a (.fn (.func 167) [])),(8,.a (.v (.int .i64 ds.length))),(9,.a (.v (.int .i64 (t.i:Nat)))),(10,.a (.v (.int .i64 (t.j:Nat))))]) (fun _=>[]) (fun _=>[]) 0
      (fun t=>t.i<=t.j/\t.j<=ds.length/\(∀ k d,k<t.i->ds[k]?=some d->d.id<id)/\(∀ k d,t.j<=k->ds[k]?=some d->id<=d.id)) (fun t=>t.j - t.i) ⟨0,ds.length⟩
      ⟨Nat.zero_le _,Nat.le_refl _,fun k d h=>by dsimp only at h;omega,fun k d h hd=>by have:=(List.getElem?_eq_some_iff.1 hd).1;dsimp only at h;omega⟩ rfl (by (repeat first | exact trivial | refine ⟨rfl,?_⟩)) (by (repeat first | exact trivial | refine ⟨rfl,?_⟩)) rfl (by (repeat' (first | exact trivial | exact SV.lt_fn0 | constructor))) (by (repeat' exact trivial)) fun ⟨i,j⟩ ⟨hij,hj,hlo,hhi⟩=>?_
    dsimp only at hij hj hlo hhi ⊢
    (repeat (first | refine cj_seq ?_ | refine cjr TT rfl ?_ | refine oj_then ?_))
    refine cj_if rfl (fun h=>?_) (fun h=>?_)
    rotate_left
    · have hij0:i=j:=by have:=of_decide_eq_false h;omega
      subst hij0
      (repeat (first | refine cj_exit ?_ | refine nj_then_exit ?_ | refine nj_block_out ?_))
      refine nj_again i ⟨by omega,hlo,hhi⟩ Nat.zero_lt_one rfl (by (repeat first | exact trivial | refine ⟨rfl,?_⟩)) (by (repeat first | exact trivial | refine ⟨rfl,?_⟩)) rfl (by (repeat' (first | exact trivial | exact SV.lt_fn0 | constructor))) (by (repeat' exact trivial))
    have hijl:i<j:=by have:=of_decide_eq_true h;omega
    have hml:(i+j) / 2<ds.length:=by omega
    have hrow:=doRows_get (List.getElem?_eq_getElem hml)
    have hdm:=List.getElem?_eq_getElem hml
    generalize ds[(i+j) / 2]=d at *
    (repeat (first | refine cj_seq ?_ | refine cjr TT rfl ?_ | refine oj_then ?_ | refine cj_skip ?_ | refine cj_block ?_ | refine nj_then ?_ | (refine oj_conv TT _ rfl rfl rfl rfl rfl rfl rfl rfl rfl ?_;refine oj_run TT rfl ?_) | (refine oj_bshr rfl rfl rfl rfl rfl rfl (by decide) ?_;refine oj_run TT rfl ?_) | (refine oj_add rfl rfl rfl rfl rfl rfl (by omega) ?_;refine oj_run TT rfl ?_)))
    have hmid:Value.int .i64 (IntKind.i64.wrap (bShr .u64 (IntKind.u64.wrap ((i:Int)+j)) 1))=Value.int .i64 (((i+j) / 2:Nat):Int):=by
      rw [show ((i:Int)+j)=((i+j:Nat):Int) by omega,wU _ (by omega),half_eq,wI64 _ (by omega)]
    refine oj_set 26 (.a (.v (.int .i64 (((i+j) / 2:Nat):Int)))) rfl trivial (fun _=>hmid) ?_
    refine oj_set 11 (.a (.v (.int .i64 (((i+j) / 2:Nat):Int)))) rfl trivial (fun _=>hmid) ?_
    refine oj_idx TT rfl rfl rfl rfl rfl rfl rfl rfl rfl H (by omega) hrow (oj_run TT rfl ?_)
    refine oj_callP rfl rfl rfl rfl rfl Tryz.call167 (by (repeat' (first | exact trivial | refine AllLt.of ?_ | constructor))) (place1_c σ d id) fun v hv=>⟨.a (.v (.int .i64 (cmpN d.id id))),trivial,hv.symm,?_⟩
    refine oj_run TT rfl ?_
    (repeat refine oj_then ?_)
    refine cj_if rfl (fun h=>?_) (fun h=>?_)
    · have h:=of_decide_eq_true h
      have hlt:d.id<id:=by
        unfold cmpN at h
        split at h
        · assumption
        · split at h<;>omega
      (repeat (first | refine cjr TT rfl ?_ | refine oj_nil ?_ | refine nj_block ?_ | (refine oj_add rfl rfl rfl rfl rfl rfl (by omega) ?_;refine oj_run TT rfl ?_)))
      refine nj_again (⟨(i+j) / 2+1,j⟩:BsS) ⟨by dsimp only;omega,hj,fun k d' hk hd'=>?_,hhi⟩ (by dsimp only;omega) rfl (by (repeat first | exact trivial | refine ⟨rfl,?_⟩)) (by (repeat first | exact trivial | refine ⟨rfl,?_⟩)) rfl (by (repeat' (first | exact trivial | exact SV.lt_fn0 | constructor))) (by (repeat' exact trivial))
      have:=hmono k ((i+j) / 2) d' d (by dsimp only at hk;omega) hd' hdm
      omega
    · have h:=of_decide_eq_false h
      have hge:id<=d.id:=by
        unfold cmpN at h
        split at h
        · omega
        · omega
      (repeat (first | refine cjr TT rfl ?_ | refine oj_nil ?_ | refine nj_block ?_))
      refine nj_again (⟨i,(i+j) / 2⟩:BsS) ⟨by dsimp only;omega,by dsimp only;omega,hlo,fun k d' hk hd'=>?_⟩ (by dsimp only;omega) rfl (by (repeat first | exact trivial | refine ⟨rfl,?_⟩)) (by (repeat first | exact trivial | refine ⟨rfl,?_⟩)) rfl (by (repeat' (first | exact trivial | exact SV.lt_fn0 | constructor))) (by (repeat' exact trivial))
      have:=hmono ((i+j) / 2) k d d' hk hdm hd'
      omega
  (repeat (first | refine cj_seq ?_ | refine cjr TT rfl ?_))
  refine oj_split 39 rfl (fun h=>?_) (fun h=>?_)
  · have h:decide ((p:Int)<ds.length)=true:=h
    have hpl:p<ds.length:=by have:=of_decide_eq_true h;omega
    have hrow:=doRows_get (List.getElem?_eq_getElem hpl)
    have hdp:=List.getElem?_eq_getElem hpl
    generalize ds[p]=d at *
    refine oj_run TT rfl ?_
    refine oj_idx TT rfl rfl rfl rfl rfl rfl rfl rfl rfl H (by omega) hrow (oj_run TT rfl ?_)
    refine oj_callP rfl rfl rfl rfl rfl Tryz.call167 (by (repeat' (first | exact trivial | refine AllLt.of ?_ | constructor))) (place1_c σ d id) fun v hv=>⟨.a (.v (.int .i64 (cmpN d.id id))),trivial,hv.symm,?_⟩
    refine oj_run TT rfl ?_
    (repeat (first | refine oj_then ?_ | refine cj_ret ?_))
    refine nj_ret TT rfl fun β w' _ _=>?_
    refine ⟨p,?_,hp⟩
    have hb:decide (cmpN d.id id=0)=isAt ds id p:=by
      unfold isAt
      rw [hdp]
      show _=decide (d.id=id)
      rw [Bool.eq_iff_iff,decide_eq_true_eq,decide_eq_true_eq]
      unfold cmpN
      split
      · omega
      · split<;>omega
    show Value.tuple #[.int .i64 p,.bool (decide (cmpN d.id id=0))]=_
    rw [hb]
  · have h:decide ((p:Int)<ds.length)=false:=h
    have hpl:ds.length<=p:=by have:=of_decide_eq_false h;omega
    refine oj_run TT rfl ?_
    (repeat (first | refine oj_then ?_ | refine cj_ret ?_))
    refine nj_ret TT rfl fun β w' _ _=>?_
    refine ⟨p,?_,hp⟩
    unfold isAt
    rw [List.getElem?_eq_none hpl]
    rfl
end Go.Sy
namespace Go.Sy
open Go.Proofs
structure GIx where
  ds:List GDoc
  o:Option Addr
  c:Nat
  xs:List GLine
  go:Option Addr
  gc:Nat
  next:Int
  lo:Option Addr
  lc:Nat
def ixCells (X:GIx):List AT:=[.v (.slice X.o X.ds.length X.c),.v (.slice X.go X.xs.length X.gc),.v (.int .i64 X.next),.v (.slice X.lo X.ds.length X.lc)]
theorem ixCells_lt (n:Nat) (X:GIx):∀ c∈ixCells X,c.lt n:=by simp [ixCells,AT.lt]
structure IxAt (σ:Snap) (X:GIx):Prop where
  docs:SlAt σ X.o X.ds.length X.c 2 (doRows X.ds)
  lines:SlAt σ X.lo X.ds.length X.lc 1 (liRows X.ds)
  gl:SlAt σ X.go X.xs.length X.gc 3 (lnRows X.xs)
  ok:∀ x∈X.xs,LnOk σ x
  doc:∀ d∈X.ds,SlAt σ d.o d.L.length d.cap 11 (recRows d.L)/\SlAt σ d.lo d.ids.length d.lcap 1 (idRows d.ids)
theorem IxAt.mono {σ σ':Snap} {X:GIx} (h:IxAt σ X) (hle:σ.le σ'):IxAt σ' X :=
  ⟨h.docs.mono hle,h.lines.mono hle,h.gl.mono hle,fun x hx=>(h.ok x hx).mono hle,fun d hd=>⟨(h.doc d hd).1.mono hle,(h.doc d hd).2.mono hle⟩⟩
def ix0:GIx:=⟨[],none,0,[],none,0,0,none,0⟩
theorem ix0_at (σ:Snap):IxAt σ ix0:=⟨SlAt.nil σ none 0 2,SlAt.nil σ none 0 1,SlAt.nil σ none 0 3,fun _ h=>(by cases h),fun _ h=>(by cases h)⟩
set_option maxRecDepth 100000 in
set_option maxHeartbeats 1000000 in
theorem New_c (σ:Snap):PlainS Tryz.prog 38 [] σ (fun v=>v=(SV.agg (ixCells ix0)).den β0):=by
  refine enter_p Tryz.func38 rfl rfl (by (repeat' exact trivial)) fun w=>?_
  (repeat (first | refine cj_seq ?_ | refine cjr TT rfl ?_ | refine oj_then ?_ | refine cj_ret ?_))
  refine nj_ret TT rfl fun β w' _ _=>?_
  rfl
set_option maxRecDepth 100000 in
set_option maxHeartbeats 1000000 in
theorem place_c (σ:Snap) (X:GIx) (IX:SlAt σ X.o X.ds.length X.c 2 (doRows X.ds)) (hl:X.ds.length<=1000000) (ho:X.ds.Pairwise fun x y=>x.id<y.id) (id:Int) :
    PlainS Tryz.prog 102 [.agg (ixCells X),.a (.v (.int .i64 id))] σ (fun v=>∃ p:Nat,v=.tuple #[.int .i64 p,.bool (isAt X.ds id p)]/\PlaceAt X.ds id p):=by
  refine enter_p Tryz.func102 rfl rfl ⟨ixCells_lt 0 X,trivial,trivial⟩ fun w=>?_
  (repeat (first | refine cj_seq ?_ | refine cjr TT rfl ?_ | refine oj_then ?_))
  refine oj_callP rfl rfl rfl rfl rfl Tryz.call166 (by (repeat' (first | exact trivial | exact SV.lt_fn0 | constructor))) (BinSearch_c σ X.ds hl ho X.o X.c IX id) fun v ⟨p,hv,hp⟩=>⟨.tup [.a (.v (.int .i64 p)),.a (.b (isAt X.ds id p))],(by (repeat' (first | exact trivial | refine SV.lt_tup ?_ | constructor))),hv.symm,?_⟩
  refine oj_run TT rfl ?_
  (repeat (first | refine oj_then ?_ | refine cj_ret ?_))
  refine nj_ret TT rfl fun β w' _ _=>?_
  exact ⟨p,rfl,hp⟩
structure AdR where
  σ:Snap
  ps:List SRow
  bo:Option Addr
  bc:Nat
  io:Option Addr
  ic:Nat
set_option maxRecDepth 100000 in
set_option maxHeartbeats 8000000 in
theorem IxAdd_c (σ:Snap) (X:GIx) (IX:IxAt σ X) (hP:IdxP X.ds X.xs X.next) (id:Int) (L:List GRec) (R:RecsOk L) (hL:L.length<=100000) (hs:soundG L=true) (hlev:levelsOk 0 L) (ao:Option Addr) (cap:Nat) (H:SlAt σ ao L.length cap 11 (recRows L))
    (hid:∀ d∈X.ds,d.id<id) (hds:X.ds.length<=1000) (m:Nat) (hfit:GFit m ⟨X.xs,X.next,[]⟩) (hm:m+L.length<=1000000) :
    PureS Tryz.prog 40 [.agg (ixCells X),.agg [.v (.int .i64 id),.v (.slice ao L.length cap)]] σ (fun v σ'=>∃ X':GIx,v=(SV.tup [.agg (ixCells X'),.a (.v (.int .i64 0))]).den β0/\IxAt σ' X'/\IdxP X'.ds X'.xs X'.next /\
      (∃ lo lc ids,X'.ds=X.ds++[⟨id,ao,cap,L,lo,lc,ids⟩])/\GFit (m+L.length) ⟨X'.xs,X'.next,[]⟩):=by
  refine enter_s Tryz.func40 rfl rfl ⟨ixCells_lt 0 X,(by (repeat' (first | exact trivial | refine AllLt.of ?_ | constructor))),trivial⟩ fun w=>?_
  (repeat (first | refine cj_seq ?_ | refine cjr TT rfl ?_ | refine oj_then ?_))
  refine oj_callP rfl rfl rfl rfl rfl Tryz.call105 (by (repeat' (first | exact trivial | constructor))) (Sound_c σ L R.len R.fit R.bw ao cap H) fun v hv=>⟨.a .tt,trivial,by rw [hv,hs];rfl,?_⟩
  refine oj_run TT rfl ?_
  (repeat (first | refine cj_seq ?_ | refine cjr TT rfl ?_ | refine oj_then ?_ | refine cj_if_f rfl ?_ | refine cj_skip ?_ | refine nj_then ?_))
  refine oj_set 16 (.agg (ixCells X)) rfl (ixCells_lt _ _) (fun _=>rfl) ?_
  refine oj_callP rfl rfl rfl rfl rfl Tryz.call102 (by (repeat' (first | exact trivial | refine AllLt.of ?_ | constructor))) (place_c σ X IX.docs (by omega) hP.ord id) fun v ⟨p,hv,hp⟩=>⟨.tup [.a (.v (.int .i64 X.ds.length)),.a .ff],(by (repeat' (first | exact trivial | refine SV.lt_tup ?_ | constructor))),?_,?_⟩
  · have hpe:p=X.ds.length:=by
      have h1:=hp.le
      rcases Nat.lt_or_ge p X.ds.length with h | h
      · have h2:=hp.hi p _ (Nat.le_refl _) (List.getElem?_eq_getElem h)
        have h3:=hid _ (List.getElem_mem h)
        omega
      · omega
    subst hpe
    rw [hv]
    have:isAt X.ds id X.ds.length=false:=by
      unfold isAt
      rw [List.getElem?_eq_none (Nat.le_refl _)]
    rw [this]
    rfl
  refine oj_run TT rfl ?_
  (repeat (first | refine cj_seq ?_ | refine cjr TT rfl ?_ | refine oj_then ?_ | refine cj_if_f rfl ?_ | refine cj_skip ?_ | refine nj_then ?_))
  have hpl:∀ {ps:List SRow},ps.map SRow.ss=pathsG L->ps.length=L.length:=fun {ps} h=>by
    have h2:=congrArg List.length h
    rw [List.length_map] at h2
    rw [h2]
    exact pathsF_len _ _
  refine cj_cutN (fun (t:AdR)=>t.σ) (fun t=>[(2,.a (.p 0 0)),(3,.a (.p 1 0)),(4,.a (.p 2 0)),(6,.a (.v (.int .i64 X.ds.length))),(8,.a (.p 3 0)),(9,.a (.v (.slice t.io (addAll ⟨X.xs,X.next,[]⟩ t.ps).ids.length t.ic)))])
    (fun t=>[(0,.loc 60,ixCells X),(1,.loc 90,[.v (.int .i64 id),.v (.slice ao L.length cap)]),(2,.loc 60,[.v (.slice none 0 0),.v (.slice none 0 0),.v (.int .i64 0),.v (.slice none 0 0)]),(3,.loc 57,[.v (.slice t.bo (addAll ⟨X.xs,X.next,[]⟩ t.ps).xs.length t.bc),.v (.int .i64 (addAll ⟨X.xs,X.next,[]⟩ t.ps).next)])]) (fun _=>[]) 4
    (fun t=>σ.le t.σ/\t.ps.map SRow.ss=pathsG L/\(∀ p∈t.ps,SrOk t.σ p)/\SlAt t.σ t.bo (addAll ⟨X.xs,X.next,[]⟩ t.ps).xs.length t.bc 3 (lnRows (addAll ⟨X.xs,X.next,[]⟩ t.ps).xs)/\SlAt t.σ t.io (addAll ⟨X.xs,X.next,[]⟩ t.ps).ids.length t.ic 1 (idRows (addAll ⟨X.xs,X.next,[]⟩ t.ps).ids)) ?_ (fun t ht=>?_)
  · have hpath:=fun (s:Snap) (hle:σ.le s)=>Paths_c s L R hL hs hlev ao cap (H.mono hle)
    have hadd:=fun (s:Snap) (hle:σ.le s) (ps:List SRow) (hps:ps.map SRow.ss=pathsG L) (hok:∀ p∈ps,SrOk s p) (po:Option Addr) (pc:Nat) (P:SlAt s po ps.length pc 1 (srRows ps)) =>
      Add_c s X.xs X.next X.go X.gc (IX.gl.mono hle) (fun x hx=>(IX.ok x hx).mono hle) ps po pc P hok m hfit (by rw [hpl hps];omega)
    refine cj_drawG 12 [0,2,6,7,8,11] mixed (by kernel_rfl) rfl ?_
    refine gj_val (i:=0) TT rfl (by kernel_rfl) (by kernel_rfl) rfl rfl rfl rfl rfl ?_
    refine gj_val (i:=1) TT rfl (by kernel_rfl) (by kernel_rfl) rfl rfl rfl rfl rfl ?_
    refine gj_val (i:=2) TT rfl (by kernel_rfl) (by kernel_rfl) rfl rfl rfl rfl rfl ?_
    refine gj_val (i:=3) TT rfl (by kernel_rfl) (by kernel_rfl) rfl rfl rfl rfl rfl ?_
    refine gj_two (i:=4) (j:=9) (by kernel_rfl) ?_ ?_
    · refine gk_call rfl rfl rfl rfl rfl Tryz.call107 (by (repeat' (first | exact trivial | constructor))) (hpath σ (Snap.le_refl _)) fun v s1 hle1 ⟨ps,po,pc,hv,P,hok,hps⟩=>⟨.a (.v (.slice po ps.length pc)),trivial,hv.symm,?_⟩
      refine gj_two (i:=5) (j:=9) (by kernel_rfl) ?_ ?_
      · refine gk_call rfl rfl rfl rfl rfl Tryz.call106 (by (repeat' (first | exact trivial | refine AllLt.of ?_ | constructor))) (hadd s1 hle1 ps hps hok po pc P) fun v s2 hle2 ⟨bo,bc,io,ic,hv,HB,HI⟩=>⟨.tup [.agg [.v (.slice bo (addAll ⟨X.xs,X.next,[]⟩ ps).xs.length bc),.v (.int .i64 (addAll ⟨X.xs,X.next,[]⟩ ps).next)],.a (.v (.slice io (addAll ⟨X.xs,X.next,[]⟩ ps).ids.length ic))],(by (repeat' (first | exact trivial | refine AllLt.of ?_ | refine SV.lt_tup ?_ | constructor))),hv.symm,?_⟩
        refine gj_order [(6,.pure),(7,.pure),(8,.pure),(9,.keep),(10,.sink),(11,.pure)] rfl rfl (by kernel_rfl) ?_
        refine oj_run TT rfl ?_
        (repeat refine oj_nil ?_)
        refine nj_again (⟨s2,ps,bo,bc,io,ic⟩:AdR) ⟨Snap.le_trans hle1 hle2,hps,fun p hp=>(hok p hp).mono hle2,HB,HI⟩ Nat.zero_lt_one rfl (by (repeat first | exact trivial | refine ⟨rfl,?_⟩)) (by (repeat first | exact trivial | refine ⟨rfl,?_⟩)) rfl (by (repeat' (first | exact trivial | exact Nat.le_of_ble_eq_true rfl | constructor))) (by (repeat' (first | exact trivial | exact Nat.le_of_ble_eq_true rfl | refine AllLt.of ?_ | constructor)))
      · refine gk_new TT rfl rfl rfl rfl rfl ?_
        refine gj_order [(5,.keep),(6,.pure),(7,.pure),(8,.pure),(10,.sink),(11,.pure)] rfl rfl (by kernel_rfl) ?_
        refine oj_callS rfl rfl rfl rfl rfl Tryz.call106 (by (repeat' (first | exact trivial | refine AllLt.of ?_ | constructor))) (hadd s1 hle1 ps hps hok po pc P) fun v s2 hle2 ⟨bo,bc,io,ic,hv,HB,HI⟩=>⟨.tup [.agg [.v (.slice bo (addAll ⟨X.xs,X.next,[]⟩ ps).xs.length bc),.v (.int .i64 (addAll ⟨X.xs,X.next,[]⟩ ps).next)],.a (.v (.slice io (addAll ⟨X.xs,X.next,[]⟩ ps).ids.length ic))],(by (repeat' (first | exact trivial | refine AllLt.of ?_ | refine SV.lt_tup ?_ | constructor))),hv.symm,?_⟩
        refine oj_run TT rfl ?_
        (repeat refine oj_nil ?_)
        refine nj_again (⟨s2,ps,bo,bc,io,ic⟩:AdR) ⟨Snap.le_trans hle1 hle2,hps,fun p hp=>(hok p hp).mono hle2,HB,HI⟩ Nat.zero_lt_one rfl (by (repeat first | exact trivial | refine ⟨rfl,?_⟩)) (by (repeat first | exact trivial | refine ⟨rfl,?_⟩)) rfl (by (repeat' (first | exact trivial | exact Nat.le_of_ble_eq_true rfl | constructor))) (by (repeat' (first | exact trivial | exact Nat.le_of_ble_eq_true rfl | refine AllLt.of ?_ | constructor)))
    · refine gk_new TT rfl rfl rfl rfl rfl ?_
      refine gj_order [(4,.keep),(5,.keep),(6,.pure),(7,.pure),(8,.pure),(10,.sink),(11,.pure)] rfl rfl (by kernel_rfl) ?_
      refine oj_callS rfl rfl rfl rfl rfl Tryz.call107 (by (repeat' (first | exact trivial | constructor))) (hpath σ (Snap.le_refl _)) fun v s1 hle1 ⟨ps,po,pc,hv,P,hok,hps⟩=>⟨.a (.v (.slice po ps.length pc)),trivial,hv.symm,?_⟩
      refine oj_run TT rfl ?_
      refine oj_callS rfl rfl rfl rfl rfl Tryz.call106 (by (repeat' (first | exact trivial | refine AllLt.of ?_ | constructor))) (hadd s1 hle1 ps hps hok po pc P) fun v s2 hle2 ⟨bo,bc,io,ic,hv,HB,HI⟩=>⟨.tup [.agg [.v (.slice bo (addAll ⟨X.xs,X.next,[]⟩ ps).xs.length bc),.v (.int .i64 (addAll ⟨X.xs,X.next,[]⟩ ps).next)],.a (.v (.slice io (addAll ⟨X.xs,X.next,[]⟩ ps).ids.length ic))],(by (repeat' (first | exact trivial | refine AllLt.of ?_ | refine SV.lt_tup ?_ | constructor))),hv.symm,?_⟩
      refine oj_run TT rfl ?_
      (repeat refine oj_nil ?_)
      refine nj_again (⟨s2,ps,bo,bc,io,ic⟩:AdR) ⟨Snap.le_trans hle1 hle2,hps,fun p hp=>(hok p hp).mono hle2,HB,HI⟩ Nat.zero_lt_one rfl (by (repeat first | exact trivial | refine ⟨rfl,?_⟩)) (by (repeat first | exact trivial | refine ⟨rfl,?_⟩)) rfl (by (repeat' (first | exact trivial | exact Nat.le_of_ble_eq_true rfl | constructor))) (by (repeat' (first | exact trivial | exact Nat.le_of_ble_eq_true rfl | refine AllLt.of ?_ | constructor)))
  obtain ⟨s0,ps,bo,bc,io,ic⟩:=t
  obtain ⟨hle0,hps,hok,HB,HI⟩:=ht
  dsimp only at hle0 hps hok HB HI ⊢
  have hlen:=hpl hps
  have hfit':=addAll_fit ps hfit
  rw [hlen] at hfit'
  have hgok:=addAll_ok (s:=⟨X.xs,X.next,[]⟩) ps (fun x hx=>(IX.ok x hx).mono hle0) hok
  have hP':=hP.add (d:=⟨id,ao,cap,L,io,ic,(addAll ⟨X.xs,X.next,[]⟩ ps).ids⟩) hid hps rfl
  have hfit2:GFit (m+L.length) ⟨(addAll ⟨X.xs,X.next,[]⟩ ps).xs,(addAll ⟨X.xs,X.next,[]⟩ ps).next,[]⟩:=⟨hfit'.xs,Nat.zero_le _,hfit'.next,hfit'.cnt⟩
  generalize addAll ⟨X.xs,X.next,[]⟩ ps=G at *
  generalize hd0:(⟨id,ao,cap,L,io,ic,G.ids⟩:GDoc)=d at *
  have hdo:doCells d=[.v (.int .i64 id),.v (.slice ao L.length cap)]:=by rw [<-hd0];rfl
  have hli:liCells d=[.v (.slice io G.ids.length ic)]:=by rw [<-hd0];rfl
  have hdn:(X.ds++[d]).length<=1001:=by rw [List.length_append,List.length_singleton];omega
  have hfin:∀ (s:Snap) (so:Option Addr) (sc:Nat) (to:Option Addr) (tc:Nat),s0.le s->SlAt s so (X.ds++[d]).length sc 2 (doRows (X.ds++[d]))->SlAt s to (X.ds++[d]).length tc 1 (liRows (X.ds++[d])) ->
      ∃ X':GIx,(SV.tup [.agg [.v (.slice so (X.ds++[d]).length sc),.v (.slice bo G.xs.length bc),.v (.int .i64 G.next),.v (.slice to (X.ds++[d]).length tc)],.a (.v (.int .i64 0))]).den β0=(SV.tup [.agg (ixCells X'),.a (.v (.int .i64 0))]).den β0/\IxAt s X'/\IdxP X'.ds X'.xs X'.next /\
        (∃ lo lc ids,X'.ds=X.ds++[⟨id,ao,cap,L,lo,lc,ids⟩])/\GFit (m+L.length) ⟨X'.xs,X'.next,[]⟩:=by
    intro s so sc to tc hle HD HL
    refine ⟨⟨X.ds++[d],so,sc,G.xs,bo,bc,G.next,to,tc⟩,rfl,⟨HD,HL,HB.mono hle,fun x hx=>(hgok x hx).mono hle,fun e he=>?_⟩,hP',⟨io,ic,G.ids,by rw [<-hd0]⟩,hfit2⟩
    rcases List.mem_append.1 he with he | he
    · have:=IX.doc e he
      exact ⟨this.1.mono (Snap.le_trans hle0 hle),this.2.mono (Snap.le_trans hle0 hle)⟩
    · rw [List.mem_singleton] at he
      subst he
      subst hd0
      exact ⟨H.mono (Snap.le_trans hle0 hle),HI.mono hle⟩
  have HDc:=IX.docs.mono hle0
  have HLc:=IX.lines.mono hle0
  refine cj_seq ?_
  refine cj_drawB 18 [0,3,8,11,12,15,17] [(0,.loc 60,ixCells X),(1,.loc 90,[.v (.int .i64 id),.v (.slice ao L.length cap)]),(3,.loc 57,[.v (.slice bo G.xs.length bc),.v (.int .i64 G.next)])] mixed (by kernel_rfl) rfl (subH_of (by (repeat first | exact trivial | refine ⟨rfl,?_⟩))) ?_
  refine gb_val (i:=0) TT rfl (by kernel_rfl) (by kernel_rfl) rfl rfl rfl rfl rfl ?_
  refine gb_val (i:=1) TT rfl (by kernel_rfl) (by kernel_rfl) rfl rfl rfl rfl rfl ?_
  refine gb_val (i:=3) TT rfl (by kernel_rfl) (by kernel_rfl) rfl rfl rfl rfl rfl ?_
  refine gb_val (i:=4) TT rfl (by kernel_rfl) (by kernel_rfl) rfl rfl rfl rfl rfl ?_
  refine gb_val (i:=7) TT rfl (by kernel_rfl) (by kernel_rfl) rfl rfl rfl rfl rfl ?_
  refine gb_val (i:=8) TT rfl (by kernel_rfl) (by kernel_rfl) rfl rfl rfl rfl rfl ?_
  refine gb_val (i:=9) TT rfl (by kernel_rfl) (by kernel_rfl) rfl rfl rfl rfl rfl ?_
  refine gb_val (i:=11) TT rfl (by kernel_rfl) (by kernel_rfl) rfl rfl rfl rfl rfl ?_
  refine gb_val (i:=12) TT rfl (by kernel_rfl) (by kernel_rfl) rfl rfl rfl rfl rfl ?_
  have hle:s0.le s0:=Snap.le_refl _
  refine gb_three (i:=2) (j:=5) (l:=13) (by kernel_rfl) ?_ ?_ ?_
  · refine gb_callF [] (A0:=[]) (Ar:=[]) rfl rfl rfl rfl rfl rfl rfl Tryz.call109 (by (repeat' (first | exact trivial | constructor))) (doClone_c _ X.ds (by omega) X.o X.c HDc) fun v s1 A' hl ⟨qo,qc,hv,hqc,hA⟩=>⟨.a (.v (.slice qo X.ds.length qc)),trivial,hv.symm,?_⟩
    subst hA
    have hle:=Snap.le_trans hle hl
    have HDc:=HDc.mono hl
    have HLc:=HLc.mono hl
    refine gb_two (i:=5) (j:=13) (by kernel_rfl) ?_ ?_
    · refine gb_new TT rfl rfl rfl rfl rfl ?_
      refine gb_own 4 1 2 rfl (by (repeat' (first | exact trivial | refine AllLt.of ?_ | constructor))) rfl (by decide) rfl fun g5=>?_
      refine gb_seal 1 rfl rfl fun s2 hl hS=>?_
      have hle:=Snap.le_trans hle hl
      have HDc:=HDc.mono hl
      have HLc:=HLc.mono hl
      have V5:SlAt s2 (some ⟨g5,0,none⟩) 1 1 2 (doRows [d]):=do_sealed (cap:=1) (l:=[d]) (by unfold doE doXs doRows;rw [List.map_singleton,hdo];exact hS) (Nat.le_refl _)
      refine gb_two (i:=6) (j:=13) (by kernel_rfl) ?_ ?_
      · refine gb_callF [0] (A0:=[doE qo qc X.ds]) (Ar:=[]) rfl rfl rfl rfl rfl rfl rfl Tryz.call108 (by (repeat' (first | exact trivial | constructor))) (doInsert_c _ X.ds (by omega) qo qc hqc d (some ⟨g5,0,none⟩) 1 V5) fun v s3 A' hl ⟨so,sc,hv,hsc,hA⟩=>⟨.a (.v (.slice so (X.ds++[d]).length sc)),trivial,hv.symm,?_⟩
        subst hA
        have hle:=Snap.le_trans hle hl
        have HDc:=HDc.mono hl
        have HLc:=HLc.mono hl
        have V5:=V5.mono hl
        refine gb_seal 0 rfl rfl fun s4 hl hS=>?_
        have hle:=Snap.le_trans hle hl
        have HDc:=HDc.mono hl
        have HLc:=HLc.mono hl
        have V5:=V5.mono hl
        have HD:=do_sealed hS hsc
        refine gb_two (i:=10) (j:=13) (by kernel_rfl) ?_ ?_
        · refine gb_callF [] (A0:=[]) (Ar:=[]) rfl rfl rfl rfl rfl rfl rfl Tryz.call111 (by (repeat' (first | exact trivial | constructor))) (liClone_c _ X.ds (by omega) X.lo X.lc HLc) fun v s5 A' hl ⟨ro,rc,hv,hrc,hA⟩=>⟨.a (.v (.slice ro X.ds.length rc)),trivial,hv.symm,?_⟩
          subst hA
          have hle:=Snap.le_trans hle hl
          have HDc:=HDc.mono hl
          have HLc:=HLc.mono hl
          have V5:=V5.mono hl
          have HD:=HD.mono hl
          refine gb_one (i:=13) (by kernel_rfl) ?_
          refine gb_new TT rfl rfl rfl rfl rfl ?_
          refine gb_own 5 1 1 rfl (by (repeat' (first | exact trivial | refine AllLt.of ?_ | constructor))) rfl (by decide) rfl fun g13=>?_
          refine gb_seal 1 rfl rfl fun s6 hl hS=>?_
          have hle:=Snap.le_trans hle hl
          have HDc:=HDc.mono hl
          have HLc:=HLc.mono hl
          have V5:=V5.mono hl
          have HD:=HD.mono hl
          have V13:SlAt s6 (some ⟨g13,0,none⟩) 1 1 1 (liRows [d]):=li_sealed (cap:=1) (l:=[d]) (by unfold liE liXs liRows;rw [List.map_singleton,hli];exact hS) (Nat.le_refl _)
          refine gb_one (i:=14) (by kernel_rfl) ?_
          refine gb_callF [0] (A0:=[liE ro rc X.ds]) (Ar:=[]) rfl rfl rfl rfl rfl rfl rfl Tryz.call110 (by (repeat' (first | exact trivial | constructor))) (liInsert_c _ X.ds (by omega) ro rc hrc d (some ⟨g13,0,none⟩) 1 V13) fun v s7 A' hl ⟨to,tc,hv,htc,hA⟩=>⟨.a (.v (.slice to (X.ds++[d]).length tc)),trivial,hv.symm,?_⟩
          subst hA
          have hle:=Snap.le_trans hle hl
          have HDc:=HDc.mono hl
          have HLc:=HLc.mono hl
          have V5:=V5.mono hl
          have HD:=HD.mono hl
          have V13:=V13.mono hl
          refine gb_seal 0 rfl rfl fun s8 hl hS=>?_
          have hle:=Snap.le_trans hle hl
          have HDc:=HDc.mono hl
          have HLc:=HLc.mono hl
          have V5:=V5.mono hl
          have HD:=HD.mono hl
          have V13:=V13.mono hl
          have HL:=li_sealed hS htc
          refine gb_order [(15,.pure),(16,.sink),(17,.pure)] rfl rfl (by kernel_rfl) ?_
          refine oj_run TT rfl ?_
          (repeat (first | refine oj_then ?_ | refine cj_ret ?_))
          refine nj_ret TT rfl fun β w' _ _=>?_
          exact hfin _ so sc to tc hle HD HL
        · refine gb_new TT rfl rfl rfl rfl rfl ?_
          refine gb_own 5 1 1 rfl (by (repeat' (first | exact trivial | refine AllLt.of ?_ | constructor))) rfl (by decide) rfl fun g13=>?_
          refine gb_seal 0 rfl rfl fun s9 hl hS=>?_
          have hle:=Snap.le_trans hle hl
          have HDc:=HDc.mono hl
          have HLc:=HLc.mono hl
          have V5:=V5.mono hl
          have HD:=HD.mono hl
          have V13:SlAt s9 (some ⟨g13,0,none⟩) 1 1 1 (liRows [d]):=li_sealed (cap:=1) (l:=[d]) (by unfold liE liXs liRows;rw [List.map_singleton,hli];exact hS) (Nat.le_refl _)
          refine gb_one (i:=10) (by kernel_rfl) ?_
          refine gb_callF [] (A0:=[]) (Ar:=[]) rfl rfl rfl rfl rfl rfl rfl Tryz.call111 (by (repeat' (first | exact trivial | constructor))) (liClone_c _ X.ds (by omega) X.lo X.lc HLc) fun v s10 A' hl ⟨ro,rc,hv,hrc,hA⟩=>⟨.a (.v (.slice ro X.ds.length rc)),trivial,hv.symm,?_⟩
          subst hA
          have hle:=Snap.le_trans hle hl
          have HDc:=HDc.mono hl
          have HLc:=HLc.mono hl
          have V5:=V5.mono hl
          have HD:=HD.mono hl
          have V13:=V13.mono hl
          refine gb_one (i:=14) (by kernel_rfl) ?_
          refine gb_callF [0] (A0:=[liE ro rc X.ds]) (Ar:=[]) rfl rfl rfl rfl rfl rfl rfl Tryz.call110 (by (repeat' (first | exact trivial | constructor))) (liInsert_c _ X.ds (by omega) ro rc hrc d (some ⟨g13,0,none⟩) 1 V13) fun v s11 A' hl ⟨to,tc,hv,htc,hA⟩=>⟨.a (.v (.slice to (X.ds++[d]).length tc)),trivial,hv.symm,?_⟩
          subst hA
          have hle:=Snap.le_trans hle hl
          have HDc:=HDc.mono hl
          have HLc:=HLc.mono hl
          have V5:=V5.mono hl
          have HD:=HD.mono hl
          have V13:=V13.mono hl
          refine gb_seal 0 rfl rfl fun s12 hl hS=>?_
          have hle:=Snap.le_trans hle hl
          have HDc:=HDc.mono hl
          have HLc:=HLc.mono hl
          have V5:=V5.mono hl
          have HD:=HD.mono hl
          have V13:=V13.mono hl
          have HL:=li_sealed hS htc
          refine gb_order [(15,.pure),(16,.sink),(17,.pure)] rfl rfl (by kernel_rfl) ?_
          refine oj_run TT rfl ?_
          (repeat (first | refine oj_then ?_ | refine cj_ret ?_))
          refine nj_ret TT rfl fun β w' _ _=>?_
          exact hfin _ so sc to tc hle HD HL
      · refine gb_new TT rfl rfl rfl rfl rfl ?_
        refine gb_own 5 1 1 rfl (by (repeat' (first | exact trivial | refine AllLt.of ?_ | constructor))) rfl (by decide) rfl fun g13=>?_
        refine gb_seal 1 rfl rfl fun s13 hl hS=>?_
        have hle:=Snap.le_trans hle hl
        have HDc:=HDc.mono hl
        have HLc:=HLc.mono hl
        have V5:=V5.mono hl
        have V13:SlAt s13 (some ⟨g13,0,none⟩) 1 1 1 (liRows [d]):=li_sealed (cap:=1) (l:=[d]) (by unfold liE liXs liRows;rw [List.map_singleton,hli];exact hS) (Nat.le_refl _)
        refine gb_one (i:=6) (by kernel_rfl) ?_
        refine gb_callF [0] (A0:=[doE qo qc X.ds]) (Ar:=[]) rfl rfl rfl rfl rfl rfl rfl Tryz.call108 (by (repeat' (first | exact trivial | constructor))) (doInsert_c _ X.ds (by omega) qo qc hqc d (some ⟨g5,0,none⟩) 1 V5) fun v s14 A' hl ⟨so,sc,hv,hsc,hA⟩=>⟨.a (.v (.slice so (X.ds++[d]).length sc)),trivial,hv.symm,?_⟩
        subst hA
        have hle:=Snap.le_trans hle hl
        have HDc:=HDc.mono hl
        have HLc:=HLc.mono hl
        have V5:=V5.mono hl
        have V13:=V13.mono hl
        refine gb_seal 0 rfl rfl fun s15 hl hS=>?_
        have hle:=Snap.le_trans hle hl
        have HDc:=HDc.mono hl
        have HLc:=HLc.mono hl
        have V5:=V5.mono hl
        have V13:=V13.mono hl
        have HD:=do_sealed hS hsc
        refine gb_one (i:=10) (by kernel_rfl) ?_
        refine gb_callF [] (A0:=[]) (Ar:=[]) rfl rfl rfl rfl rfl rfl rfl Tryz.call111 (by (repeat' (first | exact trivial | constructor))) (liClone_c _ X.ds (by omega) X.lo X.lc HLc) fun v s16 A' hl ⟨ro,rc,hv,hrc,hA⟩=>⟨.a (.v (.slice ro X.ds.length rc)),trivial,hv.symm,?_⟩
        subst hA
        have hle:=Snap.le_trans hle hl
        have HDc:=HDc.mono hl
        have HLc:=HLc.mono hl
        have V5:=V5.mono hl
        have V13:=V13.mono hl
        have HD:=HD.mono hl
        refine gb_one (i:=14) (by kernel_rfl) ?_
        refine gb_callF [0] (A0:=[liE ro rc X.ds]) (Ar:=[]) rfl rfl rfl rfl rfl rfl rfl Tryz.call110 (by (repeat' (first | exact trivial | constructor))) (liInsert_c _ X.ds (by omega) ro rc hrc d (some ⟨g13,0,none⟩) 1 V13) fun v s17 A' hl ⟨to,tc,hv,htc,hA⟩=>⟨.a (.v (.slice to (X.ds++[d]).length tc)),trivial,hv.symm,?_⟩
        subst hA
        have hle:=Snap.le_trans hle hl
        have HDc:=HDc.mono hl
        have HLc:=HLc.mono hl
        have V5:=V5.mono hl
        have V13:=V13.mono hl
        have HD:=HD.mono hl
        refine gb_seal 0 rfl rfl fun s18 hl hS=>?_
        have hle:=Snap.le_trans hle hl
        have HDc:=HDc.mono hl
        have HLc:=HLc.mono hl
        have V5:=V5.mono hl
        have V13:=V13.mono hl
        have HD:=HD.mono hl
        have HL:=li_sealed hS htc
        refine gb_order [(15,.pure),(16,.sink),(17,.pure)] rfl rfl (by kernel_rfl) ?_
        refine oj_run TT rfl ?_
        (repeat (first | refine oj_then ?_ | refine cj_ret ?_))
        refine nj_ret TT rfl fun β w' _ _=>?_
        exact hfin _ so sc to tc hle HD HL
    · refine gb_new TT rfl rfl rfl rfl rfl ?_
      refine gb_own 4 1 1 rfl (by (repeat' (first | exact trivial | refine AllLt.of ?_ | constructor))) rfl (by decide) rfl fun g13=>?_
      refine gb_seal 1 rfl rfl fun s19 hl hS=>?_
      have hle:=Snap.le_trans hle hl
      have HDc:=HDc.mono hl
      have HLc:=HLc.mono hl
      have V13:SlAt s19 (some ⟨g13,0,none⟩) 1 1 1 (liRows [d]):=li_sealed (cap:=1) (l:=[d]) (by unfold liE liXs liRows;rw [List.map_singleton,hli];exact hS) (Nat.le_refl _)
      refine gb_one (i:=5) (by kernel_rfl) ?_
      refine gb_new TT rfl rfl rfl rfl rfl ?_
      refine gb_own 5 1 2 rfl (by (repeat' (first | exact trivial | refine AllLt.of ?_ | constructor))) rfl (by decide) rfl fun g5=>?_
      refine gb_seal 1 rfl rfl fun s20 hl hS=>?_
      have hle:=Snap.le_trans hle hl
      have HDc:=HDc.mono hl
      have HLc:=HLc.mono hl
      have V13:=V13.mono hl
      have V5:SlAt s20 (some ⟨g5,0,none⟩) 1 1 2 (doRows [d]):=do_sealed (cap:=1) (l:=[d]) (by unfold doE doXs doRows;rw [List.map_singleton,hdo];exact hS) (Nat.le_refl _)
      refine gb_one (i:=6) (by kernel_rfl) ?_
      refine gb_callF [0] (A0:=[doE qo qc X.ds]) (Ar:=[]) rfl rfl rfl rfl rfl rfl rfl Tryz.call108 (by (repeat' (first | exact trivial | constructor))) (doInsert_c _ X.ds (by omega) qo qc hqc d (some ⟨g5,0,none⟩) 1 V5) fun v s21 A' hl ⟨so,sc,hv,hsc,hA⟩=>⟨.a (.v (.slice so (X.ds++[d]).length sc)),trivial,hv.symm,?_⟩
      subst hA
      have hle:=Snap.le_trans hle hl
      have HDc:=HDc.mono hl
      have HLc:=HLc.mono hl
      have V13:=V13.mono hl
      have V5:=V5.mono hl
      refine gb_seal 0 rfl rfl fun s22 hl hS=>?_
      have hle:=Snap.le_trans hle hl
      have HDc:=HDc.mono hl
      have HLc:=HLc.mono hl
      have V13:=V13.mono hl
      have V5:=V5.mono hl
      have HD:=do_sealed hS hsc
      refine gb_one (i:=10) (by kernel_rfl) ?_
      refine gb_callF [] (A0:=[]) (Ar:=[]) rfl rfl rfl rfl rfl rfl rfl Tryz.call111 (by (repeat' (first | exact trivial | constructor))) (liClone_c _ X.ds (by omega) X.lo X.lc HLc) fun v s23 A' hl ⟨ro,rc,hv,hrc,hA⟩=>⟨.a (.v (.slice ro X.ds.length rc)),trivial,hv.symm,?_⟩
      subst hA
      have hle:=Snap.le_trans hle hl
      have HDc:=HDc.mono hl
      have HLc:=HLc.mono hl
      have V13:=V13.mono hl
      have V5:=V5.mono hl
      have HD:=HD.mono hl
      refine gb_one (i:=14) (by kernel_rfl) ?_
      refine gb_callF [0] (A0:=[liE ro rc X.ds]) (Ar:=[]) rfl rfl rfl rfl rfl rfl rfl Tryz.call110 (by (repeat' (first | exact trivial | constructor))) (liInsert_c _ X.ds (by omega) ro rc hrc d (some ⟨g13,0,none⟩) 1 V13) fun v s24 A' hl ⟨to,tc,hv,htc,hA⟩=>⟨.a (.v (.slice to (X.ds++[d]).length tc)),trivial,hv.symm,?_⟩
      subst hA
      have hle:=Snap.le_trans hle hl
      have HDc:=HDc.mono hl
      have HLc:=HLc.mono hl
      have V13:=V13.mono hl
      have V5:=V5.mono hl
      have HD:=HD.mono hl
      refine gb_seal 0 rfl rfl fun s25 hl hS=>?_
      have hle:=Snap.le_trans hle hl
      have HDc:=HDc.mono hl
      have HLc:=HLc.mono hl
      have V13:=V13.mono hl
      have V5:=V5.mono hl
      have HD:=HD.mono hl
      have HL:=li_sealed hS htc
      refine gb_order [(15,.pure),(16,.sink),(17,.pure)] rfl rfl (by kernel_rfl) ?_
      refine oj_run TT rfl ?_
      (repeat (first | refine oj_then ?_ | refine cj_ret ?_))
      refine nj_ret TT rfl fun β w' _ _=>?_
      exact hfin _ so sc to tc hle HD HL
  · refine gb_new TT rfl rfl rfl rfl rfl ?_
    refine gb_own 4 1 2 rfl (by (repeat' (first | exact trivial | refine AllLt.of ?_ | constructor))) rfl (by decide) rfl fun g5=>?_
    refine gb_seal 0 rfl rfl fun s26 hl hS=>?_
    have hle:=Snap.le_trans hle hl
    have HDc:=HDc.mono hl
    have HLc:=HLc.mono hl
    have V5:SlAt s26 (some ⟨g5,0,none⟩) 1 1 2 (doRows [d]):=do_sealed (cap:=1) (l:=[d]) (by unfold doE doXs doRows;rw [List.map_singleton,hdo];exact hS) (Nat.le_refl _)
    refine gb_two (i:=2) (j:=13) (by kernel_rfl) ?_ ?_
    · refine gb_callF [] (A0:=[]) (Ar:=[]) rfl rfl rfl rfl rfl rfl rfl Tryz.call109 (by (repeat' (first | exact trivial | constructor))) (doClone_c _ X.ds (by omega) X.o X.c HDc) fun v s27 A' hl ⟨qo,qc,hv,hqc,hA⟩=>⟨.a (.v (.slice qo X.ds.length qc)),trivial,hv.symm,?_⟩
      subst hA
      have hle:=Snap.le_trans hle hl
      have HDc:=HDc.mono hl
      have HLc:=HLc.mono hl
      have V5:=V5.mono hl
      refine gb_two (i:=6) (j:=13) (by kernel_rfl) ?_ ?_
      · refine gb_callF [0] (A0:=[doE qo qc X.ds]) (Ar:=[]) rfl rfl rfl rfl rfl rfl rfl Tryz.call108 (by (repeat' (first | exact trivial | constructor))) (doInsert_c _ X.ds (by omega) qo qc hqc d (some ⟨g5,0,none⟩) 1 V5) fun v s28 A' hl ⟨so,sc,hv,hsc,hA⟩=>⟨.a (.v (.slice so (X.ds++[d]).length sc)),trivial,hv.symm,?_⟩
        subst hA
        have hle:=Snap.le_trans hle hl
        have HDc:=HDc.mono hl
        have HLc:=HLc.mono hl
        have V5:=V5.mono hl
        refine gb_seal 0 rfl rfl fun s29 hl hS=>?_
        have hle:=Snap.le_trans hle hl
        have HDc:=HDc.mono hl
        have HLc:=HLc.mono hl
        have V5:=V5.mono hl
        have HD:=do_sealed hS hsc
        refine gb_two (i:=10) (j:=13) (by kernel_rfl) ?_ ?_
        · refine gb_callF [] (A0:=[]) (Ar:=[]) rfl rfl rfl rfl rfl rfl rfl Tryz.call111 (by (repeat' (first | exact trivial | constructor))) (liClone_c _ X.ds (by omega) X.lo X.lc HLc) fun v s30 A' hl ⟨ro,rc,hv,hrc,hA⟩=>⟨.a (.v (.slice ro X.ds.length rc)),trivial,hv.symm,?_⟩
          subst hA
          have hle:=Snap.le_trans hle hl
          have HDc:=HDc.mono hl
          have HLc:=HLc.mono hl
          have V5:=V5.mono hl
          have HD:=HD.mono hl
          refine gb_one (i:=13) (by kernel_rfl) ?_
          refine gb_new TT rfl rfl rfl rfl rfl ?_
          refine gb_own 5 1 1 rfl (by (repeat' (first | exact trivial | refine AllLt.of ?_ | constructor))) rfl (by decide) rfl fun g13=>?_
          refine gb_seal 1 rfl rfl fun s31 hl hS=>?_
          have hle:=Snap.le_trans hle hl
          have HDc:=HDc.mono hl
          have HLc:=HLc.mono hl
          have V5:=V5.mono hl
          have HD:=HD.mono hl
          have V13:SlAt s31 (some ⟨g13,0,none⟩) 1 1 1 (liRows [d]):=li_sealed (cap:=1) (l:=[d]) (by unfold liE liXs liRows;rw [List.map_singleton,hli];exact hS) (Nat.le_refl _)
          refine gb_one (i:=14) (by kernel_rfl) ?_
          refine gb_callF [0] (A0:=[liE ro rc X.ds]) (Ar:=[]) rfl rfl rfl rfl rfl rfl rfl Tryz.call110 (by (repeat' (first | exact trivial | constructor))) (liInsert_c _ X.ds (by omega) ro rc hrc d (some ⟨g13,0,none⟩) 1 V13) fun v s32 A' hl ⟨to,tc,hv,htc,hA⟩=>⟨.a (.v (.slice to (X.ds++[d]).length tc)),trivial,hv.symm,?_⟩
          subst hA
          have hle:=Snap.le_trans hle hl
          have HDc:=HDc.mono hl
          have HLc:=HLc.mono hl
          have V5:=V5.mono hl
          have HD:=HD.mono hl
          have V13:=V13.mono hl
          refine gb_seal 0 rfl rfl fun s33 hl hS=>?_
          have hle:=Snap.le_trans hle hl
          have HDc:=HDc.mono hl
          have HLc:=HLc.mono hl
          have V5:=V5.mono hl
          have HD:=HD.mono hl
          have V13:=V13.mono hl
          have HL:=li_sealed hS htc
          refine gb_order [(15,.pure),(16,.sink),(17,.pure)] rfl rfl (by kernel_rfl) ?_
          refine oj_run TT rfl ?_
          (repeat (first | refine oj_then ?_ | refine cj_ret ?_))
          refine nj_ret TT rfl fun β w' _ _=>?_
          exact hfin _ so sc to tc hle HD HL
        · refine gb_new TT rfl rfl rfl rfl rfl ?_
          refine gb_own 5 1 1 rfl (by (repeat' (first | exact trivial | refine AllLt.of ?_ | constructor))) rfl (by decide) rfl fun g13=>?_
          refine gb_seal 0 rfl rfl fun s34 hl hS=>?_
          have hle:=Snap.le_trans hle hl
          have HDc:=HDc.mono hl
          have HLc:=HLc.mono hl
          have V5:=V5.mono hl
          have HD:=HD.mono hl
          have V13:SlAt s34 (some ⟨g13,0,none⟩) 1 1 1 (liRows [d]):=li_sealed (cap:=1) (l:=[d]) (by unfold liE liXs liRows;rw [List.map_singleton,hli];exact hS) (Nat.le_refl _)
          refine gb_one (i:=10) (by kernel_rfl) ?_
          refine gb_callF [] (A0:=[]) (Ar:=[]) rfl rfl rfl rfl rfl rfl rfl Tryz.call111 (by (repeat' (first | exact trivial | constructor))) (liClone_c _ X.ds (by omega) X.lo X.lc HLc) fun v s35 A' hl ⟨ro,rc,hv,hrc,hA⟩=>⟨.a (.v (.slice ro X.ds.length rc)),trivial,hv.symm,?_⟩
          subst hA
          have hle:=Snap.le_trans hle hl
          have HDc:=HDc.mono hl
          have HLc:=HLc.mono hl
          have V5:=V5.mono hl
          have HD:=HD.mono hl
          have V13:=V13.mono hl
          refine gb_one (i:=14) (by kernel_rfl) ?_
          refine gb_callF [0] (A0:=[liE ro rc X.ds]) (Ar:=[]) rfl rfl rfl rfl rfl rfl rfl Tryz.call110 (by (repeat' (first | exact trivial | constructor))) (liInsert_c _ X.ds (by omega) ro rc hrc d (some ⟨g13,0,none⟩) 1 V13) fun v s36 A' hl ⟨to,tc,hv,htc,hA⟩=>⟨.a (.v (.slice to (X.ds++[d]).length tc)),trivial,hv.symm,?_⟩
          subst hA
          have hle:=Snap.le_trans hle hl
          have HDc:=HDc.mono hl
          have HLc:=HLc.mono hl
          have V5:=V5.mono hl
          have HD:=HD.mono hl
          have V13:=V13.mono hl
          refine gb_seal 0 rfl rfl fun s37 hl hS=>?_
          have hle:=Snap.le_trans hle hl
          have HDc:=HDc.mono hl
          have HLc:=HLc.mono hl
          have V5:=V5.mono hl
          have HD:=HD.mono hl
          have V13:=V13.mono hl
          have HL:=li_sealed hS htc
          refine gb_order [(15,.pure),(16,.sink),(17,.pure)] rfl rfl (by kernel_rfl) ?_
          refine oj_run TT rfl ?_
          (repeat (first | refine oj_then ?_ | refine cj_ret ?_))
          refine nj_ret TT rfl fun β w' _ _=>?_
          exact hfin _ so sc to tc hle HD HL
      · refine gb_new TT rfl rfl rfl rfl rfl ?_
        refine gb_own 5 1 1 rfl (by (repeat' (first | exact trivial | refine AllLt.of ?_ | constructor))) rfl (by decide) rfl fun g13=>?_
        refine gb_seal 1 rfl rfl fun s38 hl hS=>?_
        have hle:=Snap.le_trans hle hl
        have HDc:=HDc.mono hl
        have HLc:=HLc.mono hl
        have V5:=V5.mono hl
        have V13:SlAt s38 (some ⟨g13,0,none⟩) 1 1 1 (liRows [d]):=li_sealed (cap:=1) (l:=[d]) (by unfold liE liXs liRows;rw [List.map_singleton,hli];exact hS) (Nat.le_refl _)
        refine gb_one (i:=6) (by kernel_rfl) ?_
        refine gb_callF [0] (A0:=[doE qo qc X.ds]) (Ar:=[]) rfl rfl rfl rfl rfl rfl rfl Tryz.call108 (by (repeat' (first | exact trivial | constructor))) (doInsert_c _ X.ds (by omega) qo qc hqc d (some ⟨g5,0,none⟩) 1 V5) fun v s39 A' hl ⟨so,sc,hv,hsc,hA⟩=>⟨.a (.v (.slice so (X.ds++[d]).length sc)),trivial,hv.symm,?_⟩
        subst hA
        have hle:=Snap.le_trans hle hl
        have HDc:=HDc.mono hl
        have HLc:=HLc.mono hl
        have V5:=V5.mono hl
        have V13:=V13.mono hl
        refine gb_seal 0 rfl rfl fun s40 hl hS=>?_
        have hle:=Snap.le_trans hle hl
        have HDc:=HDc.mono hl
        have HLc:=HLc.mono hl
        have V5:=V5.mono hl
        have V13:=V13.mono hl
        have HD:=do_sealed hS hsc
        refine gb_one (i:=10) (by kernel_rfl) ?_
        refine gb_callF [] (A0:=[]) (Ar:=[]) rfl rfl rfl rfl rfl rfl rfl Tryz.call111 (by (repeat' (first | exact trivial | constructor))) (liClone_c _ X.ds (by omega) X.lo X.lc HLc) fun v s41 A' hl ⟨ro,rc,hv,hrc,hA⟩=>⟨.a (.v (.slice ro X.ds.length rc)),trivial,hv.symm,?_⟩
        subst hA
        have hle:=Snap.le_trans hle hl
        have HDc:=HDc.mono hl
        have HLc:=HLc.mono hl
        have V5:=V5.mono hl
        have V13:=V13.mono hl
        have HD:=HD.mono hl
        refine gb_one (i:=14) (by kernel_rfl) ?_
        refine gb_callF [0] (A0:=[liE ro rc X.ds]) (Ar:=[]) rfl rfl rfl rfl rfl rfl rfl Tryz.call110 (by (repeat' (first | exact trivial | constructor))) (liInsert_c _ X.ds (by omega) ro rc hrc d (some ⟨g13,0,none⟩) 1 V13) fun v s42 A' hl ⟨to,tc,hv,htc,hA⟩=>⟨.a (.v (.slice to (X.ds++[d]).length tc)),trivial,hv.symm,?_⟩
        subst hA
        have hle:=Snap.le_trans hle hl
        have HDc:=HDc.mono hl
        have HLc:=HLc.mono hl
        have V5:=V5.mono hl
        have V13:=V13.mono hl
        have HD:=HD.mono hl
        refine gb_seal 0 rfl rfl fun s43 hl hS=>?_
        have hle:=Snap.le_trans hle hl
        have HDc:=HDc.mono hl
        have HLc:=HLc.mono hl
        have V5:=V5.mono hl
        have V13:=V13.mono hl
        have HD:=HD.mono hl
        have HL:=li_sealed hS htc
        refine gb_order [(15,.pure),(16,.sink),(17,.pure)] rfl rfl (by kernel_rfl) ?_
        refine oj_run TT rfl ?_
        (repeat (first | refine oj_then ?_ | refine cj_ret ?_))
        refine nj_ret TT rfl fun β w' _ _=>?_
        exact hfin _ so sc to tc hle HD HL
    · refine gb_new TT rfl rfl rfl rfl rfl ?_
      refine gb_own 5 1 1 rfl (by (repeat' (first | exact trivial | refine AllLt.of ?_ | constructor))) rfl (by decide) rfl fun g13=>?_
      refine gb_seal 0 rfl rfl fun s44 hl hS=>?_
      have hle:=Snap.le_trans hle hl
      have HDc:=HDc.mono hl
      have HLc:=HLc.mono hl
      have V5:=V5.mono hl
      have V13:SlAt s44 (some ⟨g13,0,none⟩) 1 1 1 (liRows [d]):=li_sealed (cap:=1) (l:=[d]) (by unfold liE liXs liRows;rw [List.map_singleton,hli];exact hS) (Nat.le_refl _)
      refine gb_one (i:=2) (by kernel_rfl) ?_
      refine gb_callF [] (A0:=[]) (Ar:=[]) rfl rfl rfl rfl rfl rfl rfl Tryz.call109 (by (repeat' (first | exact trivial | constructor))) (doClone_c _ X.ds (by omega) X.o X.c HDc) fun v s45 A' hl ⟨qo,qc,hv,hqc,hA⟩=>⟨.a (.v (.slice qo X.ds.length qc)),trivial,hv.symm,?_⟩
      subst hA
      have hle:=Snap.le_trans hle hl
      have HDc:=HDc.mono hl
      have HLc:=HLc.mono hl
      have V5:=V5.mono hl
      have V13:=V13.mono hl
      refine gb_one (i:=6) (by kernel_rfl) ?_
      refine gb_callF [0] (A0:=[doE qo qc X.ds]) (Ar:=[]) rfl rfl rfl rfl rfl rfl rfl Tryz.call108 (by (repeat' (first | exact trivial | constructor))) (doInsert_c _ X.ds (by omega) qo qc hqc d (some ⟨g5,0,none⟩) 1 V5) fun v s46 A' hl ⟨so,sc,hv,hsc,hA⟩=>⟨.a (.v (.slice so (X.ds++[d]).length sc)),trivial,hv.symm,?_⟩
      subst hA
      have hle:=Snap.le_trans hle hl
      have HDc:=HDc.mono hl
      have HLc:=HLc.mono hl
      have V5:=V5.mono hl
      have V13:=V13.mono hl
      refine gb_seal 0 rfl rfl fun s47 hl hS=>?_
      have hle:=Snap.le_trans hle hl
      have HDc:=HDc.mono hl
      have HLc:=HLc.mono hl
      have V5:=V5.mono hl
      have V13:=V13.mono hl
      have HD:=do_sealed hS hsc
      refine gb_one (i:=10) (by kernel_rfl) ?_
      refine gb_callF [] (A0:=[]) (Ar:=[]) rfl rfl rfl rfl rfl rfl rfl Tryz.call111 (by (repeat' (first | exact trivial | constructor))) (liClone_c _ X.ds (by omega) X.lo X.lc HLc) fun v s48 A' hl ⟨ro,rc,hv,hrc,hA⟩=>⟨.a (.v (.slice ro X.ds.length rc)),trivial,hv.symm,?_⟩
      subst hA
      have hle:=Snap.le_trans hle hl
      have HDc:=HDc.mono hl
      have HLc:=HLc.mono hl
      have V5:=V5.mono hl
      have V13:=V13.mono hl
      have HD:=HD.mono hl
      refine gb_one (i:=14) (by kernel_rfl) ?_
      refine gb_callF [0] (A0:=[liE ro rc X.ds]) (Ar:=[]) rfl rfl rfl rfl rfl rfl rfl Tryz.call110 (by (repeat' (first | exact trivial | constructor))) (liInsert_c _ X.ds (by omega) ro rc hrc d (some ⟨g13,0,none⟩) 1 V13) fun v s49 A' hl ⟨to,tc,hv,htc,hA⟩=>⟨.a (.v (.slice to (X.ds++[d]).length tc)),trivial,hv.symm,?_⟩
      subst hA
      have hle:=Snap.le_trans hle hl
      have HDc:=HDc.mono hl
      have HLc:=HLc.mono hl
      have V5:=V5.mono hl
      have V13:=V13.mono hl
      have HD:=HD.mono hl
      refine gb_seal 0 rfl rfl fun s50 hl hS=>?_
      have hle:=Snap.le_trans hle hl
      have HDc:=HDc.mono hl
      have HLc:=HLc.mono hl
      have V5:=V5.mono hl
      have V13:=V13.mono hl
      have HD:=HD.mono hl
      have HL:=li_sealed hS htc
      refine gb_order [(15,.pure),(16,.sink),(17,.pure)] rfl rfl (by kernel_rfl) ?_
      refine oj_run TT rfl ?_
      (repeat (first | refine oj_then ?_ | refine cj_ret ?_))
      refine nj_ret TT rfl fun β w' _ _=>?_
      exact hfin _ so sc to tc hle HD HL
  · refine gb_new TT rfl rfl rfl rfl rfl ?_
    refine gb_own 4 1 1 rfl (by (repeat' (first | exact trivial | refine AllLt.of ?_ | constructor))) rfl (by decide) rfl fun g13=>?_
    refine gb_seal 0 rfl rfl fun s51 hl hS=>?_
    have hle:=Snap.le_trans hle hl
    have HDc:=HDc.mono hl
    have HLc:=HLc.mono hl
    have V13:SlAt s51 (some ⟨g13,0,none⟩) 1 1 1 (liRows [d]):=li_sealed (cap:=1) (l:=[d]) (by unfold liE liXs liRows;rw [List.map_singleton,hli];exact hS) (Nat.le_refl _)
    refine gb_two (i:=2) (j:=5) (by kernel_rfl) ?_ ?_
    · refine gb_callF [] (A0:=[]) (Ar:=[]) rfl rfl rfl rfl rfl rfl rfl Tryz.call109 (by (repeat' (first | exact trivial | constructor))) (doClone_c _ X.ds (by omega) X.o X.c HDc) fun v s52 A' hl ⟨qo,qc,hv,hqc,hA⟩=>⟨.a (.v (.slice qo X.ds.length qc)),trivial,hv.symm,?_⟩
      subst hA
      have hle:=Snap.le_trans hle hl
      have HDc:=HDc.mono hl
      have HLc:=HLc.mono hl
      have V13:=V13.mono hl
      refine gb_one (i:=5) (by kernel_rfl) ?_
      refine gb_new TT rfl rfl rfl rfl rfl ?_
      refine gb_own 5 1 2 rfl (by (repeat' (first | exact trivial | refine AllLt.of ?_ | constructor))) rfl (by decide) rfl fun g5=>?_
      refine gb_seal 1 rfl rfl fun s53 hl hS=>?_
      have hle:=Snap.le_trans hle hl
      have HDc:=HDc.mono hl
      have HLc:=HLc.mono hl
      have V13:=V13.mono hl
      have V5:SlAt s53 (some ⟨g5,0,none⟩) 1 1 2 (doRows [d]):=do_sealed (cap:=1) (l:=[d]) (by unfold doE doXs doRows;rw [List.map_singleton,hdo];exact hS) (Nat.le_refl _)
      refine gb_one (i:=6) (by kernel_rfl) ?_
      refine gb_callF [0] (A0:=[doE qo qc X.ds]) (Ar:=[]) rfl rfl rfl rfl rfl rfl rfl Tryz.call108 (by (repeat' (first | exact trivial | constructor))) (doInsert_c _ X.ds (by omega) qo qc hqc d (some ⟨g5,0,none⟩) 1 V5) fun v s54 A' hl ⟨so,sc,hv,hsc,hA⟩=>⟨.a (.v (.slice so (X.ds++[d]).length sc)),trivial,hv.symm,?_⟩
      subst hA
      have hle:=Snap.le_trans hle hl
      have HDc:=HDc.mono hl
      have HLc:=HLc.mono hl
      have V13:=V13.mono hl
      have V5:=V5.mono hl
      refine gb_seal 0 rfl rfl fun s55 hl hS=>?_
      have hle:=Snap.le_trans hle hl
      have HDc:=HDc.mono hl
      have HLc:=HLc.mono hl
      have V13:=V13.mono hl
      have V5:=V5.mono hl
      have HD:=do_sealed hS hsc
      refine gb_one (i:=10) (by kernel_rfl) ?_
      refine gb_callF [] (A0:=[]) (Ar:=[]) rfl rfl rfl rfl rfl rfl rfl Tryz.call111 (by (repeat' (first | exact trivial | constructor))) (liClone_c _ X.ds (by omega) X.lo X.lc HLc) fun v s56 A' hl ⟨ro,rc,hv,hrc,hA⟩=>⟨.a (.v (.slice ro X.ds.length rc)),trivial,hv.symm,?_⟩
      subst hA
      have hle:=Snap.le_trans hle hl
      have HDc:=HDc.mono hl
      have HLc:=HLc.mono hl
      have V13:=V13.mono hl
      have V5:=V5.mono hl
      have HD:=HD.mono hl
      refine gb_one (i:=14) (by kernel_rfl) ?_
      refine gb_callF [0] (A0:=[liE ro rc X.ds]) (Ar:=[]) rfl rfl rfl rfl rfl rfl rfl Tryz.call110 (by (repeat' (first | exact trivial | constructor))) (liInsert_c _ X.ds (by omega) ro rc hrc d (some ⟨g13,0,none⟩) 1 V13) fun v s57 A' hl ⟨to,tc,hv,htc,hA⟩=>⟨.a (.v (.slice to (X.ds++[d]).length tc)),trivial,hv.symm,?_⟩
      subst hA
      have hle:=Snap.le_trans hle hl
      have HDc:=HDc.mono hl
      have HLc:=HLc.mono hl
      have V13:=V13.mono hl
      have V5:=V5.mono hl
      have HD:=HD.mono hl
      refine gb_seal 0 rfl rfl fun s58 hl hS=>?_
      have hle:=Snap.le_trans hle hl
      have HDc:=HDc.mono hl
      have HLc:=HLc.mono hl
      have V13:=V13.mono hl
      have V5:=V5.mono hl
      have HD:=HD.mono hl
      have HL:=li_sealed hS htc
      refine gb_order [(15,.pure),(16,.sink),(17,.pure)] rfl rfl (by kernel_rfl) ?_
      refine oj_run TT rfl ?_
      (repeat (first | refine oj_then ?_ | refine cj_ret ?_))
      refine nj_ret TT rfl fun β w' _ _=>?_
      exact hfin _ so sc to tc hle HD HL
    · refine gb_new TT rfl rfl rfl rfl rfl ?_
      refine gb_own 5 1 2 rfl (by (repeat' (first | exact trivial | refine AllLt.of ?_ | constructor))) rfl (by decide) rfl fun g5=>?_
      refine gb_seal 0 rfl rfl fun s59 hl hS=>?_
      have hle:=Snap.le_trans hle hl
      have HDc:=HDc.mono hl
      have HLc:=HLc.mono hl
      have V13:=V13.mono hl
      have V5:SlAt s59 (some ⟨g5,0,none⟩) 1 1 2 (doRows [d]):=do_sealed (cap:=1) (l:=[d]) (by unfold doE doXs doRows;rw [List.map_singleton,hdo];exact hS) (Nat.le_refl _)
      refine gb_one (i:=2) (by kernel_rfl) ?_
      refine gb_callF [] (A0:=[]) (Ar:=[]) rfl rfl rfl rfl rfl rfl rfl Tryz.call109 (by (repeat' (first | exact trivial | constructor))) (doClone_c _ X.ds (by omega) X.o X.c HDc) fun v s60 A' hl ⟨qo,qc,hv,hqc,hA⟩=>⟨.a (.v (.slice qo X.ds.length qc)),trivial,hv.symm,?_⟩
      subst hA
      have hle:=Snap.le_trans hle hl
      have HDc:=HDc.mono hl
      have HLc:=HLc.mono hl
      have V13:=V13.mono hl
      have V5:=V5.mono hl
      refine gb_one (i:=6) (by kernel_rfl) ?_
      refine gb_callF [0] (A0:=[doE qo qc X.ds]) (Ar:=[]) rfl rfl rfl rfl rfl rfl rfl Tryz.call108 (by (repeat' (first | exact trivial | constructor))) (doInsert_c _ X.ds (by omega) qo qc hqc d (some ⟨g5,0,none⟩) 1 V5) fun v s61 A' hl ⟨so,sc,hv,hsc,hA⟩=>⟨.a (.v (.slice so (X.ds++[d]).length sc)),trivial,hv.symm,?_⟩
      subst hA
      have hle:=Snap.le_trans hle hl
      have HDc:=HDc.mono hl
      have HLc:=HLc.mono hl
      have V13:=V13.mono hl
      have V5:=V5.mono hl
      refine gb_seal 0 rfl rfl fun s62 hl hS=>?_
      have hle:=Snap.le_trans hle hl
      have HDc:=HDc.mono hl
      have HLc:=HLc.mono hl
      have V13:=V13.mono hl
      have V5:=V5.mono hl
      have HD:=do_sealed hS hsc
      refine gb_one (i:=10) (by kernel_rfl) ?_
      refine gb_callF [] (A0:=[]) (Ar:=[]) rfl rfl rfl rfl rfl rfl rfl Tryz.call111 (by (repeat' (first | exact trivial | constructor))) (liClone_c _ X.ds (by omega) X.lo X.lc HLc) fun v s63 A' hl ⟨ro,rc,hv,hrc,hA⟩=>⟨.a (.v (.slice ro X.ds.length rc)),trivial,hv.symm,?_⟩
      subst hA
      have hle:=Snap.le_trans hle hl
      have HDc:=HDc.mono hl
      have HLc:=HLc.mono hl
      have V13:=V13.mono hl
      have V5:=V5.mono hl
      have HD:=HD.mono hl
      refine gb_one (i:=14) (by kernel_rfl) ?_
      refine gb_callF [0] (A0:=[liE ro rc X.ds]) (Ar:=[]) rfl rfl rfl rfl rfl rfl rfl Tryz.call110 (by (repeat' (first | exact trivial | constructor))) (liInsert_c _ X.ds (by omega) ro rc hrc d (some ⟨g13,0,none⟩) 1 V13) fun v s64 A' hl ⟨to,tc,hv,htc,hA⟩=>⟨.a (.v (.slice to (X.ds++[d]).length tc)),trivial,hv.symm,?_⟩
      subst hA
      have hle:=Snap.le_trans hle hl
      have HDc:=HDc.mono hl
      have HLc:=HLc.mono hl
      have V13:=V13.mono hl
      have V5:=V5.mono hl
      have HD:=HD.mono hl
      refine gb_seal 0 rfl rfl fun s65 hl hS=>?_
      have hle:=Snap.le_trans hle hl
      have HDc:=HDc.mono hl
      have HLc:=HLc.mono hl
      have V13:=V13.mono hl
      have V5:=V5.mono hl
      have HD:=HD.mono hl
      have HL:=li_sealed hS htc
      refine gb_order [(15,.pure),(16,.sink),(17,.pure)] rfl rfl (by kernel_rfl) ?_
      refine oj_run TT rfl ?_
      (repeat (first | refine oj_then ?_ | refine cj_ret ?_))
      refine nj_ret TT rfl fun β w' _ _=>?_
      exact hfin _ so sc to tc hle HD HL
end Go.Sy
namespace Go.Sy
open Go.Proofs
def ItAt (σ:Snap) (g:Nat) (x:GItem):Prop:=∀ (j:Nat) c,(itCells x)[j]?=some c->σ.cell ⟨g,j,none⟩=some c.val
theorem ItAt.mono {σ σ':Snap} {g:Nat} {x:GItem} (h:ItAt σ g x) (hle:σ.le σ'):ItAt σ' g x:=fun j c hc=>hle.cell (h j c hc)
theorem ItAt.row {σ:Snap} {g:Nat} {x:GItem} (h:ItAt σ g x):∀ (j:Nat) c,(itCells x)[j]?=some c->σ.cell ((⟨g,0,none⟩:Addr).add j)=some (c.den β0):=fun j c hc=>by
  rw [add0]
  exact h j c hc
theorem ItAt.ld {σ:Snap} {g:Nat} {x:GItem} (h:ItAt σ g x):∀ (j:Nat) c,(itCells x)[j]?=some c->σ.cell ⟨g,0+j,none⟩=some c.val:=fun j c hc=>by
  rw [Nat.zero_add]
  exact h j c hc
theorem itAt_of {σ:Snap} {g cap e:Nat} {x:GItem} (hS:ArrSealed σ ⟨some ⟨g,0,none⟩,1,cap,e,5,(itCells x).map AT.val⟩):ItAt σ g x:=by
  rcases hS with ⟨h,_⟩ | ⟨g',h1,h2⟩
  · cases h
  · have h1:some (⟨g,0,none⟩:Addr)=some ⟨g',0,none⟩:=h1
    injection h1 with h1
    injection h1 with h1
    subst h1
    intro j c hc
    refine h2 j c.val ?_
    show ((itCells x).map AT.val)[j]?=_
    rw [List.getElem?_map,hc]
    rfl
set_option maxRecDepth 100000 in
set_option maxHeartbeats 1000000 in
theorem Sound1_c (σ:Snap) (g:Nat) (x y:GItem) (h:ItAt σ g x):PlainS Tryz.prog 96 [.agg (itCells y),.a (.v (.pointer (some ⟨g,0,none⟩)))] σ (fun v=>v=.bool (overI y x)):=by
  refine enter_p Tryz.func96 rfl rfl ⟨itCells_lt 0 y,trivial,trivial⟩ fun w=>?_
  (repeat (first | refine cj_seq ?_ | refine cjr TT rfl ?_ | refine oj_then ?_))
  refine oj_row 1 (itCells x) rfl (itCells_lt 0 x) h.row (oj_run TT rfl ?_)
  refine oj_callP rfl rfl rfl rfl rfl Tryz.call97 (by (repeat' (first | exact trivial | refine AllLt.of ?_ | constructor))) (over_c σ y x) fun v hv=>⟨.a (.b (overI y x)),trivial,hv.symm,?_⟩
  refine oj_run TT rfl ?_
  (repeat (first | refine oj_then ?_ | refine cj_ret ?_))
  refine nj_ret TT rfl fun β w' _ _=>?_
  rfl
structure SkS where
  k:Nat
  S:List GItem
  oo:Option Addr
  oc:Nat
def prevI (l:List GItem) (k:Nat):Option GItem:=(l.take k).getLast?
theorem prevI_succ {l:List GItem} {k:Nat} {x:GItem} (h:l[k]?=some x):prevI l (k+1)=some x:=by
  obtain ⟨hk,hx⟩:=List.getElem?_eq_some_iff.1 h
  unfold prevI
  rw [List.take_succ_eq_append_getElem hk,hx]
  simp
theorem prevI_pos {l:List GItem} {k:Nat} (hk:k<l.length) (h0:0<k):prevI l k=l[k - 1]?:=by
  obtain ⟨j,rfl⟩:∃ j,k=j+1:=⟨k - 1,by omega⟩
  rw [prevI_succ (List.getElem?_eq_getElem (by omega:j<l.length)),Nat.add_sub_cancel,List.getElem?_eq_getElem]
def badI (l:List GItem) (k:Nat) (x:GItem):Bool:=decide (x.en<=x.st)||badP (prevI l k) x
set_option maxRecDepth 100000 in
set_option maxHeartbeats 4000000 in
theorem Sound20_c (σ:Snap) (l:List GItem) (hl:l.length<=1000000) (ao:Option Addr) (cap:Nat) (H:SlAt σ ao l.length cap 5 (itRows l)) :
    PlainS Tryz.prog 33 [.a (.v (.slice ao l.length cap))] σ (fun v=>v=.bool (soundI l)):=by
  refine enter_p Tryz.func33 rfl rfl (by (repeat' (first | exact trivial | constructor))) fun w=>?_
  (repeat (first | refine cj_seq ?_ | refine cjr TT rfl ?_ | refine oj_then ?_ | refine cj_block ?_))
  refine cj_own 0 1 2 rfl (by (repeat' (first | exact trivial | refine AllLt.of ?_ | constructor))) rfl (by decide) fun gs=>?_
  refine cj_nilarr 71 5 ?_
  skip
  refine cj_loop2 (fun (s:Snap) (_:SkS)=>s) (fun _ t=>[(0,.a (.v (.slice ao l.length cap))),(3,.a (.v (.pointer (some ⟨gs,0,none⟩)))),(8,.a (.v (.slice ao l.length cap))),(9,.a (.v (.int .i64 l.length))),(10,.a (.v (.int .i64 (t.k:Nat))))])
    (fun _ _=>[]) (fun _ t=>[itK gs t.oo t.S.length t.oc t.k,itE t.oo t.oc t.S]) 0
    (fun s t=>σ.le s/\t.k<=l.length/\soundF t.S (prevI l t.k) (l.drop t.k)=soundI l/\t.S.length<=t.k/\t.S.length<=t.oc) (fun _ t=>l.length - t.k) σ ⟨0,[],none,0⟩ ⟨Snap.le_refl _,Nat.zero_le _,rfl,Nat.le_refl _,Nat.le_refl _⟩ rfl (by (repeat first | exact trivial | refine ⟨rfl,?_⟩)) (by (repeat first | exact trivial | refine ⟨rfl,?_⟩)) rfl (by (repeat' (first | exact trivial | constructor))) (by (repeat' exact trivial)) fun s ⟨k,S,oo,oc⟩ ⟨hle,hk,hp,hSk,hSc⟩=>?_
  dsimp only at hk hp hSk hSc ⊢
  have H:=H.mono hle
  (repeat (first | refine cj_seq ?_ | refine cjr TT rfl ?_ | refine oj_then ?_))
  refine cj_if rfl (fun h=>?_) (fun h=>?_)
  rotate_left
  · have hk0:k=l.length:=by have:=of_decide_eq_false h;omega
    rw [hk0,List.drop_length,soundF] at hp
    (repeat (first | refine cj_seq ?_ | refine cjr TT rfl ?_ | refine oj_then ?_ | refine cj_exit ?_ | refine cj_ret ?_ | refine nj_then ?_ | refine nj_then_exit ?_ | refine nj_block_out ?_))
    refine nj_ret TT rfl fun β w' _ _=>?_
    rw [<-hp]
    rfl
  have hkl:k<l.length:=by have:=of_decide_eq_true h;omega
  have hxk:l[k]?=some l[k]:=List.getElem?_eq_getElem hkl
  have hrow:=itRows_get hxk
  have hnext:=prevI_succ hxk
  rw [List.drop_eq_getElem_cons hkl,soundF] at hp
  generalize l[k]=x at *
  have hbd:∀ y,prevI l k=some y->badI l k x=(decide (x.en<=x.st)||!aheadI y x):=fun y hy=>by unfold badI;rw [hy];rfl
  have hp:(!badI l k x&&(!badT (popI (fun z=>overI z x) S) x&&soundF (popI (fun z=>overI z x) S++[x]) (some x) (l.drop (k+1))))=soundI l:=hp
  (repeat (first | refine cj_seq ?_ | refine cjr TT rfl ?_ | refine cj_skip ?_ | refine cj_block ?_ | refine nj_then ?_))
  refine oj_idx TT rfl rfl rfl rfl rfl rfl rfl rfl rfl H (by omega) hrow (oj_run TT rfl ?_)
  (repeat (first | refine cj_seq ?_ | refine oj_then ?_))
  refine cj_cutN (fun (_:Unit)=>s) (fun _=>[(0,.a (.v (.slice ao l.length cap))),(3,.a (.v (.pointer (some ⟨gs,0,none⟩)))),(5,.a (.p 1 0)),(8,.a (.v (.slice ao l.length cap))),(9,.a (.v (.int .i64 l.length))),(10,.a (.v (.int .i64 k))),(33,.a (.b (badI l k x)))])
    (fun _=>[(1,.loc 71,itCells x)]) (fun _=>[itK gs oo S.length oc k,itE oo oc S]) 2 (fun _=>True) ?_ (fun _ _=>?_)
  · refine cj_draw [(0,.pure),(1,.quiet),(2,.pure),(3,.quiet),(4,.pure),(5,.pure),(6,.pure),(7,.pure),(8,.pure),(9,.pure),(10,.pure),(11,.pure),(12,.pure),(13,.quiet),(14,.quiet),(15,.keep),(16,.pure),(17,.pure),(18,.pure)] mixed (by kernel_rfl) (oj_run TT rfl ?_)
    refine oj_split 20 rfl (fun h1=>?_) (fun h1=>?_)
    · have h1:decide (x.en<=x.st)=true:=h1
      refine oj_run TT rfl ?_
      (repeat refine oj_nil ?_)
      refine nj_set 33 (.a (.b (badI l k x))) rfl trivial (fun β=>by show Value.bool true=Value.bool _;unfold badI;rw [h1];rfl) ?_
      refine nj_again () trivial Nat.zero_lt_one rfl (by (repeat first | exact trivial | refine ⟨rfl,?_⟩)) (by (repeat first | exact trivial | refine ⟨rfl,?_⟩)) rfl (by (repeat' (first | exact trivial | exact Nat.le_of_ble_eq_true rfl | constructor))) (by (repeat' (first | exact trivial | exact Nat.le_of_ble_eq_true rfl | refine AllLt.of ?_ | constructor)))
    · have h1:decide (x.en<=x.st)=false:=h1
      refine oj_run TT rfl ?_
      refine oj_split 23 rfl (fun h2=>?_) (fun h2=>?_)
      · have h2:decide (0<(k:Int))=true:=h2
        have h2:=of_decide_eq_true h2
        have hpr:=prevI_pos hkl (by omega)
        rw [List.getElem?_eq_getElem (by omega)] at hpr
        have hrow2:=itRows_get (List.getElem?_eq_getElem (show k - 1<l.length by omega))
        generalize l[k - 1]=y at *
        refine oj_run TT rfl ?_
        refine oj_minus rfl rfl rfl rfl rfl rfl (by omega) (oj_run TT rfl ?_)
        refine oj_idx TT rfl rfl rfl rfl rfl rfl rfl rfl rfl H (by omega) (r:=itCells y) (by rw [show ((k:Int) - 1).toNat=k - 1 by omega];exact hrow2) (oj_run TT rfl ?_)
        refine oj_callP rfl rfl rfl rfl rfl Tryz.call94 (by (repeat' (first | exact trivial | refine AllLt.of ?_ | constructor))) (ahead_c s y x) fun v hv=>⟨.a (.b (aheadI y x)),trivial,hv.symm,?_⟩
        refine oj_run TT rfl ?_
        (repeat refine oj_nil ?_)
        refine nj_set 33 (.a (.b (badI l k x))) rfl trivial (fun β=>by show Value.bool (!aheadI y x)=Value.bool _;rw [hbd y hpr,h1,Bool.false_or]) ?_
        refine nj_again () trivial Nat.zero_lt_one rfl (by (repeat first | exact trivial | refine ⟨rfl,?_⟩)) (by (repeat first | exact trivial | refine ⟨rfl,?_⟩)) rfl (by (repeat' (first | exact trivial | exact Nat.le_of_ble_eq_true rfl | constructor))) (by (repeat' (first | exact trivial | exact Nat.le_of_ble_eq_true rfl | refine AllLt.of ?_ | constructor)))
      · have h2:decide (0<(k:Int))=false:=h2
        have h2:=of_decide_eq_false h2
        have hk0:k=0:=by omega
        refine oj_run TT rfl ?_
        (repeat refine oj_nil ?_)
        refine nj_set 33 (.a (.b (badI l k x))) rfl trivial (fun β=>by show Value.bool false=Value.bool _;unfold badI;rw [h1,hk0];rfl) ?_
        refine nj_again () trivial Nat.zero_lt_one rfl (by (repeat first | exact trivial | refine ⟨rfl,?_⟩)) (by (repeat first | exact trivial | refine ⟨rfl,?_⟩)) rfl (by (repeat' (first | exact trivial | exact Nat.le_of_ble_eq_true rfl | constructor))) (by (repeat' (first | exact trivial | exact Nat.le_of_ble_eq_true rfl | refine AllLt.of ?_ | constructor)))
  clear hbd
  skip
  refine cj_if rfl (fun h=>?_) (fun h=>?_)
  · have h:badI l k x=true:=h
    rw [h] at hp
    (repeat (first | refine cj_seq ?_ | refine cjr TT rfl ?_ | refine oj_then ?_ | refine cj_ret ?_ | refine nj_then_ret ?_ | refine nj_block_ret ?_))
    refine nj_ret TT rfl fun β w' _ _=>?_
    rw [<-hp]
    rfl
  have h:badI l k x=false:=h
  rw [h] at hp
  refine cj_own 1 1 5 rfl (itCells_lt 0 x) rfl (by decide) fun g=>?_
  refine cj_seal 2 rfl rfl fun s1 hle1 hS1=>?_
  have hx:=itAt_of hS1
  have hfn:(SV.a (.fn (.func 96) [.val (.pointer (some ⟨g,0,none⟩))])).lt 0:=by
    intro p hp
    rw [List.mem_singleton] at hp
    subst hp
    trivial
  (repeat (first | refine cj_seq ?_ | refine cjr TT rfl ?_ | refine cj_skip ?_ | refine nj_then ?_))
  refine oj_callF [0,1] (A0:=[itK gs oo S.length oc k,itE oo oc S]) (Ar:=[]) rfl rfl rfl rfl rfl rfl rfl Tryz.call95 ⟨trivial,hfn,trivial⟩ (itPop_c s1 gs oo oc k S (by omega) hSc 96 [.val (.pointer (some ⟨g,0,none⟩))] ⟨trivial,trivial⟩ Tryz.call96 (fun y=>overI y x) (fun y _=>Sound1_c s1 g x y hx) hfn) fun v s2 A2 hle2 ⟨hv,hA⟩=>⟨.tup [],(by (repeat' (first | exact trivial | refine SV.lt_tup ?_))),hv.symm,?_⟩
  subst hA
  have hx:=hx.mono hle2
  have hP:=(popI_sub (fun y=>overI y x) S).length_le
  generalize popI (fun y=>overI y x) S=P at *
  refine oj_run TT rfl ?_
  (repeat (first | refine cj_seq ?_ | refine oj_then ?_))
  refine cj_cutN (fun (_:Unit)=>s2) (fun _=>[(0,.a (.v (.slice ao l.length cap))),(3,.a (.v (.pointer (some ⟨gs,0,none⟩)))),(5,.a (.v (.pointer (some ⟨g,0,none⟩)))),(8,.a (.v (.slice ao l.length cap))),(9,.a (.v (.int .i64 l.length))),(10,.a (.v (.int .i64 k))),(59,.a (.b (badT P x)))])
    (fun _=>[]) (fun _=>[itK gs oo P.length oc k,itE oo oc P]) 0 (fun _=>True) ?_ (fun _ _=>?_)
  · refine cj_draw [(0,.pure),(1,.pure),(2,.pure),(3,.quiet),(4,.pure),(5,.pure),(6,.pure),(7,.pure),(8,.pure),(9,.pure),(10,.quiet),(11,.pure),(12,.pure),(13,.pure),(14,.quiet),(15,.pure),(16,.pure),(17,.pure),(18,.quiet),(19,.quiet),(20,.keep),(21,.pure),(22,.pure)] mixed (by kernel_rfl) (oj_run TT rfl ?_)
    refine oj_ldA 0 (c:=.v (.slice oo P.length oc)) TT rfl rfl rfl rfl rfl rfl rfl rfl rfl rfl rfl trivial (oj_run TT rfl ?_)
    refine oj_split 43 rfl (fun h=>?_) (fun h=>?_)
    rotate_left
    · have h0:P=[]:=by
        have h:decide (0<(P.length:Int))=false:=h
        have:=of_decide_eq_false h
        exact List.eq_nil_of_length_eq_zero (by omega)
      subst h0
      refine oj_run TT rfl ?_
      (repeat refine oj_nil ?_)
      refine nj_set 59 (.a (.b (badT [] x))) rfl trivial (fun β=>rfl) ?_
      refine nj_again () trivial Nat.zero_lt_one rfl (by (repeat first | exact trivial | refine ⟨rfl,?_⟩)) (by (repeat first | exact trivial | refine ⟨rfl,?_⟩)) rfl (by (repeat' (first | exact trivial | constructor))) (by (repeat' exact trivial))
    have h:decide (0<(P.length:Int))=true:=h
    have hne:P≠[]:=by
      intro h0
      subst h0
      cases h
    obtain ⟨P0,y,rfl⟩:∃ P0 y,P=P0++[y]:=⟨P.dropLast,P.getLast hne,(List.dropLast_concat_getLast hne).symm⟩
    have hlen:(P0++[y]).length=P0.length+1:=by simp
    have htop:(P0++[y])[P0.length]?=some y:=by simp
    refine oj_run TT rfl ?_
    refine oj_ldA 0 (c:=.v (.slice oo (P0++[y]).length oc)) TT rfl rfl rfl rfl rfl rfl rfl rfl rfl rfl rfl trivial (oj_run TT rfl ?_)
    refine oj_ldA 0 (c:=.v (.slice oo (P0++[y]).length oc)) TT rfl rfl rfl rfl rfl rfl rfl rfl rfl rfl rfl trivial (oj_run TT rfl ?_)
    refine oj_minus rfl rfl rfl rfl rfl rfl (by omega) (oj_run TT rfl ?_)
    refine oj_arrAt 1 (E:=itE oo oc (P0++[y])) rfl (by show 0<(P0++[y]).length;omega) fun g1 hg1=>?_
    have hg1:oo=some ⟨g1,0,none⟩:=hg1
    subst hg1
    refine oj_indexAddr TT rfl rfl rfl rfl rfl rfl rfl rfl rfl ⟨by omega,by omega⟩ (oj_run TT rfl ?_)
    refine oj_ldAs 1 (off:=P0.length*5) TT (itCells y) rfl rfl rfl rfl rfl ?_ rfl rfl rfl rfl rfl ?_ (itCells_lt _ _) (oj_run TT rfl ?_)
    · show some (SV.a (AT.v (.pointer (some (Addr.add ⟨g1,0,none⟩ (((((P0++[y]).length:Nat):Int) - 1).toNat*5))))))=_
      rw [add0,show ((((P0++[y]).length:Nat):Int) - 1).toNat=P0.length by rw [hlen];omega]
    · intro j c hj
      exact itXs_get htop hj
    refine oj_ldSs TT (itCells x) rfl rfl rfl rfl rfl rfl rfl rfl rfl hx.ld (itCells_lt 0 x) (oj_run TT rfl ?_)
    refine oj_callP rfl rfl rfl rfl rfl Tryz.call98 (by (repeat' (first | exact trivial | refine AllLt.of ?_ | constructor))) (holds_c s2 y x) fun v hv=>⟨.a (.b (holdsI y x)),trivial,hv.symm,?_⟩
    refine oj_run TT rfl ?_
    (repeat refine oj_nil ?_)
    refine nj_set 59 (.a (.b (badT (P0++[y]) x))) rfl trivial (fun β=>by show Value.bool (!holdsI y x)=Value.bool _;unfold badT;rw [List.getLast?_concat]) ?_
    refine nj_again () trivial Nat.zero_lt_one rfl (by (repeat first | exact trivial | refine ⟨rfl,?_⟩)) (by (repeat first | exact trivial | refine ⟨rfl,?_⟩)) rfl (by (repeat' (first | exact trivial | constructor))) (by (repeat' exact trivial))
  skip
  refine cj_if rfl (fun h2=>?_) (fun h2=>?_)
  · have h2:badT P x=true:=h2
    rw [h2] at hp
    (repeat (first | refine cj_seq ?_ | refine cjr TT rfl ?_ | refine oj_then ?_ | refine cj_ret ?_ | refine nj_then_ret ?_ | refine nj_block_ret ?_))
    refine nj_ret TT rfl fun β w' _ _=>?_
    rw [<-hp]
    rfl
  have h2:badT P x=false:=h2
  rw [h2] at hp
  (repeat (first | refine cjr TT rfl ?_ | refine cj_skip ?_ | refine nj_then ?_))
  refine oj_ldSs TT (itCells x) rfl rfl rfl rfl rfl rfl rfl rfl rfl hx.ld (itCells_lt 0 x) (oj_run TT rfl ?_)
  refine oj_callF [0,1] (A0:=[itK gs oo P.length oc k,itE oo oc P]) (Ar:=[]) rfl rfl rfl rfl rfl rfl rfl Tryz.call99 ⟨trivial,itCells_lt 0 x,trivial⟩ (itPush_c s2 gs oo oc k P x (by omega) (by omega) (by omega)) fun v s3 A3 hle3 ⟨hv,oo',oc',hoc',hA⟩=>⟨.tup [],(by (repeat' (first | exact trivial | refine SV.lt_tup ?_))),hv.symm,?_⟩
  subst hA
  refine oj_run TT rfl ?_
  (repeat (first | refine cjr TT rfl ?_ | refine oj_nil ?_ | refine nj_then ?_ | refine nj_block ?_ | (refine oj_add rfl rfl rfl rfl rfl rfl (by omega) ?_;refine oj_run TT rfl ?_)))
  have hp:soundF (P++[x]) (prevI l (k+1)) (l.drop (k+1))=soundI l:=by
    rw [hnext,<-hp]
    rfl
  have hlen:(P++[x]).length=P.length+1:=by simp
  refine nj_again (s3,(⟨k+1,P++[x],oo',oc'⟩:SkS)) ⟨Snap.le_trans hle (Snap.le_trans hle1 (Snap.le_trans hle2 hle3)),by dsimp only;omega,hp,by dsimp only;omega,by dsimp only;omega⟩ (by dsimp only;omega) rfl (by (repeat first | exact trivial | refine ⟨rfl,?_⟩)) (by (repeat first | exact trivial | refine ⟨rfl,?_⟩)) ?_ (by (repeat' (first | exact trivial | constructor))) (by (repeat' exact trivial))
  show [_,_]=[_,_]
  dsimp only
  rw [hlen]
  rfl
end Go.Sy
namespace Go.Sy
open Go.Proofs
set_option maxRecDepth 100000 in
set_option maxHeartbeats 1000000 in
theorem Sweep1_c (σ:Snap) (g:Nat) (x:GItem) (z:OI) (h:ItAt σ g x):PlainS Tryz.prog 160 [.agg (opCells z),.a (.v (.pointer (some ⟨g,0,none⟩)))] σ (fun v=>v=.bool (overI z.1 x)):=by
  refine enter_p Tryz.func160 rfl rfl ⟨opCells_lt 0 z,trivial,trivial⟩ fun w=>?_
  (repeat (first | refine cj_seq ?_ | refine cjr TT rfl ?_ | refine oj_then ?_))
  refine oj_row 1 (itCells x) rfl (itCells_lt 0 x) h.row (oj_run TT rfl ?_)
  refine oj_callP rfl rfl rfl rfl rfl Tryz.call97 (by (repeat' (first | exact trivial | refine AllLt.of ?_ | constructor))) (over_c σ z.1 x) fun v hv=>⟨.a (.b (overI z.1 x)),trivial,hv.symm,?_⟩
  refine oj_run TT rfl ?_
  (repeat (first | refine oj_then ?_ | refine cj_ret ?_))
  refine nj_ret TT rfl fun β w' _ _=>?_
  rfl
set_option maxRecDepth 100000 in
set_option maxHeartbeats 1000000 in
theorem Sweep2_c (σ:Snap) (g:Nat) (x:GItem) (z:OI) (h:ItAt σ g x):PlainS Tryz.prog 162 [.agg (opCells z),.a (.v (.pointer (some ⟨g,0,none⟩)))] σ (fun v=>v=.bool (overI z.1 x)):=by
  refine enter_p Tryz.func162 rfl rfl ⟨opCells_lt 0 z,trivial,trivial⟩ fun w=>?_
  (repeat (first | refine cj_seq ?_ | refine cjr TT rfl ?_ | refine oj_then ?_))
  refine oj_row 1 (itCells x) rfl (itCells_lt 0 x) h.row (oj_run TT rfl ?_)
  refine oj_callP rfl rfl rfl rfl rfl Tryz.call97 (by (repeat' (first | exact trivial | refine AllLt.of ?_ | constructor))) (over_c σ z.1 x) fun v hv=>⟨.a (.b (overI z.1 x)),trivial,hv.symm,?_⟩
  refine oj_run TT rfl ?_
  (repeat (first | refine oj_then ?_ | refine cj_ret ?_))
  refine nj_ret TT rfl fun β w' _ _=>?_
  rfl
structure SwS (α:Type) where
  k:Nat
  i:Nat
  S:List OI
  oo:Option Addr
  oc:Nat
  st:α
theorem swept_le {a:List GItem} {i:Nat} {y:Option GItem} {S:List OI} (h:Swept a i y S):S.length<=i:=by
  cases y with
  | none =>
    obtain ⟨rfl,rfl⟩:=h.none_ rfl
    exact Nat.le_refl _
  | some y =>
    obtain ⟨rfl,-⟩:=h.some_ y rfl
    refine Nat.le_trans (List.length_filter_le _ _) ?_
    rw [List.length_take]
    omega
theorem fnLt1 (f:FuncId) (g:Nat):(SV.a (.fn (.func f) [.val (.pointer (some ⟨g,0,none⟩))])).lt 0:=by
  intro p hp
  rw [List.mem_singleton] at hp
  subst hp
  trivial
theorem conc_caps {f:FuncId} {caps:List PT} (hlt:(SV.a (.fn (.func f) caps)).lt 0) (h g:Nat):caps.map (concP h g)=caps:=by
  conv=>rhs;rw [<-List.map_id caps]
  refine List.map_congr_left fun p hp=>?_
  cases p with
  | val x=>rfl
  | loc i o=>exact absurd (hlt _ hp) (Nat.not_lt_zero _)
set_option maxRecDepth 100000 in
set_option maxHeartbeats 4000000 in
theorem sweep_c {α:Type} (σ:Snap) (a d:List GItem) (ha:a.length<=100000) (hd:d.length<=100000) (ao:Option Addr) (ac:Nat) (HA:SlAt σ ao a.length ac 5 (itRows a)) (bo:Option Addr) (bc:Nat) (HD:SlAt σ bo d.length bc 5 (itRows d))
    (hLa:Lam a) (hLd:Lam d) (f:FuncId) (caps:List PT) (hcap:LtAll (caps.map ptSV)) (hcall:∀ args w,(callFunc f args).run Tryz.prog w=.ok (.enter f args) w) (hlt:(SV.a (.fn (.func f) caps)).lt 0)
    (X Y:α->AE) (R:Nat->α->Prop) (st0:α) (h0:R 0 st0)
    (hf:∀ (σ':Snap) (k i:Nat) (x:GItem) (st:α) (so:Option Addr) (sc:Nat),σ.le σ'->d[k]?=some x->R k st->(∀ z,a[i]?=some z->aheadI z x=false)->(openAt a i x).length<=a.length->(openAt a i x).length<=sc ->
      FnS Tryz.prog f (.a (.v (.int .i64 k))::.a (.v (.slice so (openAt a i x).length sc))::caps.map ptSV) σ' [opE so sc (openAt a i x),X st,Y st] (fun v _ A'=>v=.tuple #[]/\∃ st',R (k+1) st'/\A'=[opE so sc (openAt a i x),X st',Y st'])) :
    FnS Tryz.prog 85 [.a (.v (.slice ao a.length ac)),.a (.v (.slice bo d.length bc)),.a (.fn (.func f) caps)] σ [X st0,Y st0] (fun v _ A'=>∃ n:Nat,v=.int .i64 n/\n<=a.length/\∃ st',R d.length st'/\A'=[X st',Y st']):=by
  refine enter_f Tryz.func85 rfl rfl ⟨trivial,trivial,hlt,trivial⟩ fun w=>?_
  (repeat (first | refine cj_seq ?_ | refine cjr TT rfl ?_ | refine oj_then ?_ | refine cj_block ?_))
  have hlt2:=SV.lt_mono (Nat.zero_le 2) hlt
  have h12:1<2:=by decide
  refine cj_own 0 1 2 rfl (by (repeat' (first | exact trivial | refine AllLt.of ?_ | constructor))) rfl (by decide) fun gs=>?_
  refine cj_set 2 (.a (.fn (.func f) caps)) rfl (SV.lt_mono (Nat.zero_le _) hlt) (fun β=>by show SV.den β (.a (.fn (.func f) (caps.map (concP 0 gs))))=_;rw [conc_caps hlt]) ?_
  refine cj_nilarr 169 6 ?_
  refine cj_re [2,3,0,1] (A':=[opK gs none 0 0 0,opE none 0 [],X st0,Y st0]) rfl rfl ?_
  skip
  refine cj_loop2 (fun (s:Snap) (_:SwS α)=>s) (fun _ t=>[(0,.a (.v (.slice ao a.length ac))),(1,.a (.v (.slice bo d.length bc))),(2,.a (.fn (.func f) caps)),(7,.a (.v (.pointer (some ⟨gs,0,none⟩)))),(8,.a (.v (.int .i64 (t.i:Nat)))),(14,.a (.v (.slice bo d.length bc))),(15,.a (.v (.int .i64 d.length))),(16,.a (.v (.int .i64 (t.k:Nat))))])
    (fun _ _=>[]) (fun _ t=>[opK gs t.oo t.S.length t.oc t.i,opE t.oo t.oc t.S,X t.st,Y t.st]) 0
    (fun s t=>σ.le s/\t.k<=d.length/\t.i<=a.length/\Swept a t.i (prevI d t.k) t.S/\(∀ y z,prevI d t.k=some y->a[t.i]?=some z->aheadI z y=false)/\t.S.length<=t.oc/\R t.k t.st) (fun _ t=>d.length - t.k) σ ⟨0,0,[],none,0,st0⟩
    ⟨Snap.le_refl _,Nat.zero_le _,Nat.zero_le _,Swept.start a,fun y z h=>(by cases h),Nat.le_refl _,h0⟩ rfl (by (repeat first | exact trivial | refine ⟨rfl,?_⟩)) (by (repeat first | exact trivial | refine ⟨rfl,?_⟩)) rfl ⟨trivial,trivial,hlt,trivial,trivial,trivial,trivial,trivial,trivial⟩ trivial fun s ⟨k,i,S,oo,oc,st⟩ ⟨hle,hk,hi,hsw,hai,hSc,hR⟩=>?_
  dsimp only at hk hi hsw hai hSc hR ⊢
  have HA:=HA.mono hle
  have HD:=HD.mono hle
  have hSi:=swept_le hsw
  (repeat (first | refine cj_seq ?_ | refine cjr TT rfl ?_ | refine oj_then ?_))
  refine cj_if rfl (fun h=>?_) (fun h=>?_)
  rotate_left
  · have hk0:k=d.length:=by have:=of_decide_eq_false h;omega
    subst hk0
    (repeat (first | refine cj_seq ?_ | refine cjr TT rfl ?_ | refine cj_exit ?_ | refine nj_then ?_ | refine nj_then_exit ?_ | refine nj_block_out ?_))
    refine oj_ldA 0 (c:=.v (.int .i64 i)) TT rfl rfl rfl rfl rfl rfl rfl rfl rfl rfl rfl trivial (oj_run TT rfl ?_)
    (repeat (first | refine oj_then ?_ | refine cj_ret ?_))
    refine nj_re [2,3] (A':=[X st,Y st]) rfl rfl ?_
    refine nj_fret TT rfl fun β w' _ _=>?_
    exact ⟨i,rfl,hi,st,hR,rfl⟩
  have hkl:k<d.length:=by have:=of_decide_eq_true h;omega
  have hxk:d[k]?=some d[k]:=List.getElem?_eq_getElem hkl
  have hrow:=itRows_get hxk
  have hnext:=prevI_succ hxk
  have hyx:∀ y,prevI d k=some y->aheadI y d[k]=true:=by
    intro y hy
    by_cases hk0:k=0
    · rw [hk0] at hy;cases hy
    · rw [prevI_pos hkl (by omega)] at hy
      exact (hLd.get (by omega) hy hxk).1
  have hxse:=hLd.se d[k] (List.getElem_mem hkl)
  generalize d[k]=x at *
  (repeat (first | refine cj_seq ?_ | refine cjr TT rfl ?_ | refine cj_skip ?_ | refine cj_block ?_ | refine nj_then ?_))
  refine oj_idx TT rfl rfl rfl rfl rfl rfl rfl rfl rfl HD (by omega) hrow (oj_run TT rfl ?_)
  (repeat (first | refine cj_seq ?_ | refine oj_then ?_ | refine cj_block ?_))
  refine cj_cutB (fun (t:Snap×SwS α)=>t.1) (fun t=>[(0,.a (.v (.slice ao a.length ac))),(1,.a (.v (.slice bo d.length bc))),(2,.a (.fn (.func f) caps)),(7,.a (.v (.pointer (some ⟨gs,0,none⟩)))),(8,.a (.v (.int .i64 (t.2.i:Nat)))),(9,.a (.v (.int .i64 k))),(10,.a (.p 1 0)),(14,.a (.v (.slice bo d.length bc))),(15,.a (.v (.int .i64 d.length))),(16,.a (.v (.int .i64 k)))])
    (fun _=>[(1,.loc 71,itCells x)]) (fun t=>[opK gs t.2.oo t.2.S.length t.2.oc t.2.i,opE t.2.oo t.2.oc t.2.S,X st,Y st]) 2
    (fun t=>s.le t.1/\t.2.i<=a.length/\(∃ y,Swept a t.2.i y t.2.S/\∀ y',y=some y'->aheadI y' x=true)/\(∀ z,a[t.2.i]?=some z->aheadI z x=false)/\t.2.S.length<=t.2.oc) ?_ (fun t ht=>?_)
  · refine cj_loop2 (fun (s':Snap) (_:SwS α)=>s') (fun _ t=>[(0,.a (.v (.slice ao a.length ac))),(1,.a (.v (.slice bo d.length bc))),(2,.a (.fn (.func f) caps)),(7,.a (.v (.pointer (some ⟨gs,0,none⟩)))),(8,.a (.v (.int .i64 (t.i:Nat)))),(9,.a (.v (.int .i64 k))),(10,.a (.p 1 0)),(14,.a (.v (.slice bo d.length bc))),(15,.a (.v (.int .i64 d.length))),(16,.a (.v (.int .i64 k)))])
      (fun _ _=>[(1,.loc 71,itCells x)]) (fun _ t=>[opK gs t.oo t.S.length t.oc t.i,opE t.oo t.oc t.S,X st,Y st]) 2
      (fun s' t=>s.le s'/\t.i<=a.length/\(∃ y,Swept a t.i y t.S/\(∀ y',y=some y'->aheadI y' x=true)/\∀ y' z,y=some y'->a[t.i]?=some z->aheadI z y'=false)/\t.S.length<=t.oc) (fun _ t=>a.length - t.i) s ⟨k,i,S,oo,oc,st⟩
      ⟨Snap.le_refl _,hi,⟨_,hsw,hyx,hai⟩,hSc⟩ rfl (by (repeat first | exact trivial | refine ⟨rfl,?_⟩)) (by (repeat first | exact trivial | refine ⟨rfl,?_⟩)) rfl ⟨trivial,trivial,hlt2,trivial,trivial,trivial,h12,trivial,trivial,trivial,trivial⟩ (by (repeat' (first | exact trivial | exact Nat.le_of_ble_eq_true rfl | refine AllLt.of ?_ | constructor))) fun s' ⟨_,i,S,oo,oc,_⟩ ⟨hle',hi,⟨y,hsw,hyx,hyz⟩,hSc⟩=>?_
    dsimp only at hi hsw hyz hSc ⊢
    have HA:=HA.mono hle'
    have hSi:=swept_le hsw
    (repeat refine cj_seq ?_)
    refine cj_cutN (fun (_:Unit)=>s') (fun _=>[(0,.a (.v (.slice ao a.length ac))),(1,.a (.v (.slice bo d.length bc))),(2,.a (.fn (.func f) caps)),(7,.a (.v (.pointer (some ⟨gs,0,none⟩)))),(8,.a (.v (.int .i64 (i:Nat)))),(9,.a (.v (.int .i64 k))),(10,.a (.p 1 0)),(14,.a (.v (.slice bo d.length bc))),(15,.a (.v (.int .i64 d.length))),(16,.a (.v (.int .i64 k))),(32,.a (.b (match a[i]? with | some z=>aheadI z x | none=>false)))])
      (fun _=>[(1,.loc 71,itCells x)]) (fun _=>[opK gs oo S.length oc i,opE oo oc S,X st,Y st]) 2 (fun _=>True) ?_ (fun _ _=>?_)
    · refine cj_draw [(0,.pure),(1,.pure),(2,.pure),(3,.pure),(4,.pure),(5,.pure),(6,.pure),(7,.pure),(8,.quiet),(9,.quiet),(10,.keep),(11,.pure)] mixed (by kernel_rfl) (oj_run TT rfl ?_)
      refine oj_split 25 rfl (fun h=>?_) (fun h=>?_)
      · have h:decide ((i:Int)<a.length)=true:=h
        have hil:i<a.length:=by have:=of_decide_eq_true h;omega
        have hrow:=itRows_get (List.getElem?_eq_getElem hil)
        rw [List.getElem?_eq_getElem hil]
        generalize a[i]=z at *
        refine oj_run TT rfl ?_
        refine oj_idx TT rfl rfl rfl rfl rfl rfl rfl rfl rfl HA (by omega) hrow (oj_run TT rfl ?_)
        refine oj_callP rfl rfl rfl rfl rfl Tryz.call94 (by (repeat' (first | exact trivial | refine AllLt.of ?_ | constructor))) (ahead_c s' z x) fun v hv=>⟨.a (.b (aheadI z x)),trivial,hv.symm,?_⟩
        refine oj_run TT rfl ?_
        (repeat refine oj_nil ?_)
        refine nj_again () trivial Nat.zero_lt_one rfl (by (repeat first | exact trivial | refine ⟨rfl,?_⟩)) (by (repeat first | exact trivial | refine ⟨rfl,?_⟩)) rfl ⟨trivial,trivial,hlt2,trivial,trivial,trivial,h12,trivial,trivial,trivial,trivial,trivial⟩ (by (repeat' (first | exact trivial | exact Nat.le_of_ble_eq_true rfl | refine AllLt.of ?_ | constructor)))
      · have h:decide ((i:Int)<a.length)=false:=h
        have hil:a.length<=i:=by have:=of_decide_eq_false h;omega
        rw [List.getElem?_eq_none hil]
        refine oj_run TT rfl ?_
        (repeat refine oj_nil ?_)
        refine nj_set 32 (.a (.b false)) rfl trivial (fun β=>rfl) ?_
        refine nj_again () trivial Nat.zero_lt_one rfl (by (repeat first | exact trivial | refine ⟨rfl,?_⟩)) (by (repeat first | exact trivial | refine ⟨rfl,?_⟩)) rfl ⟨trivial,trivial,hlt2,trivial,trivial,trivial,h12,trivial,trivial,trivial,trivial,trivial⟩ (by (repeat' (first | exact trivial | exact Nat.le_of_ble_eq_true rfl | refine AllLt.of ?_ | constructor)))
    skip
    refine cj_if rfl (fun h=>?_) (fun h=>?_)
    rotate_left
    · have h:(match a[i]? with | some z=>aheadI z x | none=>false)=false:=h
      (repeat (first | refine cj_exit ?_ | refine nj_then_exit ?_ | refine nj_block_out ?_))
      refine nj_again (s',(⟨k,i,S,oo,oc,st⟩:SwS α)) ⟨hle',hi,⟨y,hsw,hyx⟩,fun z hz=>by rw [hz] at h;exact h,hSc⟩ Nat.zero_lt_one rfl (by (repeat first | exact trivial | refine ⟨rfl,?_⟩)) (by (repeat first | exact trivial | refine ⟨rfl,?_⟩)) rfl ⟨trivial,trivial,hlt2,trivial,trivial,trivial,h12,trivial,trivial,trivial,trivial⟩ (by (repeat' (first | exact trivial | exact Nat.le_of_ble_eq_true rfl | refine AllLt.of ?_ | constructor)))
    have h:(match a[i]? with | some z=>aheadI z x | none=>false)=true:=h
    have hil:i<a.length:=by
      rcases Nat.lt_or_ge i a.length with h1 | h1
      · exact h1
      · rw [List.getElem?_eq_none h1] at h;cases h
    have hzi:a[i]?=some a[i]:=List.getElem?_eq_getElem hil
    have hrow:=itRows_get hzi
    have hlast:∀ z',a[i+1]?=some z'->aheadI z' a[i]=false:=by
      intro z' hz'
      have:=(hLa.get (Nat.lt_succ_self i) hzi hz').1
      rw [aheadI_iff] at this
      rw [aheadI_not]
      omega
    rw [hzi] at h
    generalize a[i]=z at *
    have h:aheadI z x=true:=h
    have hpop:=hsw.pop hLa z (fun y' hy'=>hyz y' z hy' hzi)
    have hpush:=hpop.push hLa hzi
    (repeat (first | refine cj_seq ?_ | refine cjr TT rfl ?_ | refine cj_skip ?_ | refine cj_block ?_ | refine nj_then ?_))
    refine oj_idx TT rfl rfl rfl rfl rfl rfl rfl rfl rfl HA (by omega) hrow (oj_run TT rfl ?_)
    refine oj_then ?_
    refine cj_own 3 1 5 rfl (itCells_lt 0 z) rfl (by decide) fun g=>?_
    refine cj_set 2 (.a (.fn (.func f) caps)) rfl (SV.lt_mono (Nat.zero_le _) hlt) (fun β=>by show SV.den β (.a (.fn (.func f) (caps.map (concP 3 g))))=_;rw [conc_caps hlt]) ?_
    refine cj_seal 4 rfl rfl fun s1 hle1 hS1=>?_
    have hz:=itAt_of hS1
    (repeat (first | refine cj_seq ?_ | refine cjr TT rfl ?_))
    refine oj_callF [0,1,2,3] (A0:=[opK gs oo S.length oc i,opE oo oc S]) (Ar:=[X st,Y st]) rfl rfl rfl rfl rfl rfl rfl Tryz.call159 ⟨trivial,fnLt1 160 g,trivial⟩ (opPop_c s1 gs oo oc i S (by omega) hSc 160 [.val (.pointer (some ⟨g,0,none⟩))] ⟨trivial,trivial⟩ Tryz.call160 (fun y=>overI y.1 z) (fun y _=>Sweep1_c s1 g z y hz) (fnLt1 160 g)) fun v s2 A2 hle2 ⟨hv,hA⟩=>⟨.tup [],(by (repeat' (first | exact trivial | refine SV.lt_tup ?_))),hv.symm,?_⟩
    subst hA
    have hz:=hz.mono hle2
    have hP:=(popI_sub (fun y:OI=>overI y.1 z) S).length_le
    generalize popI (fun y:OI=>overI y.1 z) S=P at *
    refine oj_run TT rfl ?_
    (repeat (first | refine cjr TT rfl ?_ | refine oj_then ?_))
    refine oj_ldSs TT (itCells z) rfl rfl rfl rfl rfl rfl rfl rfl rfl hz.ld (itCells_lt 0 z) (oj_run TT rfl ?_)
    refine oj_set 45 (.agg (opCells (z,i))) rfl (opCells_lt _ _) (fun _=>rfl) ?_
    refine oj_callF [0,1,2,3] (A0:=[opK gs oo P.length oc i,opE oo oc P]) (Ar:=[X st,Y st]) rfl rfl rfl rfl rfl rfl rfl Tryz.call161 ⟨trivial,opCells_lt 0 (z,i),trivial⟩ (opPush_c s2 gs oo oc i P (z,i) (by omega) (by omega) (by omega)) fun v s3 A3 hle3 ⟨hv,oo',oc',hoc',hA⟩=>⟨.tup [],(by (repeat' (first | exact trivial | refine SV.lt_tup ?_))),hv.symm,?_⟩
    subst hA
    refine oj_run TT rfl ?_
    (repeat (first | refine cjr TT rfl ?_ | refine oj_nil ?_ | refine nj_then ?_ | refine nj_block ?_ | (refine oj_add rfl rfl rfl rfl rfl rfl (by omega) ?_;refine oj_run TT rfl ?_)))
    have hlen:(P++[(z,i)]).length=P.length+1:=by simp
    refine nj_again (s3,(⟨k,i+1,P++[(z,i)],oo',oc',st⟩:SwS α)) ⟨Snap.le_trans hle' (Snap.le_trans hle1 (Snap.le_trans hle2 hle3)),by dsimp only;omega,⟨_,hpush,fun y' hy'=>by injection hy' with hy';subst hy';exact h,fun y' z' hy' hz'=>by injection hy' with hy';subst hy';exact hlast z' hz'⟩,by dsimp only;omega⟩ (by dsimp only;omega) rfl (by (repeat first | exact trivial | refine ⟨rfl,?_⟩)) (by (repeat first | exact trivial | refine ⟨rfl,?_⟩)) ?_ ⟨trivial,trivial,hlt2,trivial,trivial,trivial,h12,trivial,trivial,trivial,trivial⟩ (by (repeat' (first | exact trivial | exact Nat.le_of_ble_eq_true rfl | refine AllLt.of ?_ | constructor)))
    show [_,_,_,_]=[_,_,_,_]
    dsimp only
    rw [hlen]
    rfl
  obtain ⟨s',⟨_,i,S,oo,oc,_⟩⟩:=t
  obtain ⟨hle',hi,⟨y,hsw,hyx⟩,haz,hSc⟩:=ht
  dsimp only at hle' hi hsw haz hSc ⊢
  have hSi:=swept_le hsw
  have hpop:=hsw.pop hLa x (fun y' hy'=>leI.of (hyx y' hy'))
  refine cj_own 1 1 5 rfl (itCells_lt 0 x) rfl (by decide) fun g=>?_
  refine cj_set 2 (.a (.fn (.func f) caps)) rfl (SV.lt_mono (Nat.zero_le _) hlt) (fun β=>by show SV.den β (.a (.fn (.func f) (caps.map (concP 1 g))))=_;rw [conc_caps hlt]) ?_
  refine cj_seal 4 rfl rfl fun s1 hle1 hS1=>?_
  have hx:=itAt_of hS1
  (repeat (first | refine cj_seq ?_ | refine cjr TT rfl ?_))
  refine oj_callF [0,1,2,3] (A0:=[opK gs oo S.length oc i,opE oo oc S]) (Ar:=[X st,Y st]) rfl rfl rfl rfl rfl rfl rfl Tryz.call159 ⟨trivial,fnLt1 162 g,trivial⟩ (opPop_c s1 gs oo oc i S (by omega) hSc 162 [.val (.pointer (some ⟨g,0,none⟩))] ⟨trivial,trivial⟩ Tryz.call162 (fun y=>overI y.1 x) (fun y _=>Sweep2_c s1 g x y hx) (fnLt1 162 g)) fun v s2 A2 hle2 ⟨hv,hA⟩=>⟨.tup [],(by (repeat' (first | exact trivial | refine SV.lt_tup ?_))),hv.symm,?_⟩
  subst hA
  have hP:=(popI_sub (fun y:OI=>overI y.1 x) S).length_le
  have hPe:=(hpop.some_ x rfl).1
  have hsw2:=hpop
  rw [hPe] at hP hsw2 ⊢
  refine oj_run TT rfl ?_
  (repeat (first | refine cjr TT rfl ?_ | refine oj_then ?_))
  refine oj_ldA 0 (c:=.v (.slice oo (openAt a i x).length oc)) TT rfl rfl rfl rfl rfl rfl rfl rfl rfl rfl rfl trivial (oj_run TT rfl ?_)
  refine oj_callF [1,2,3,0] (A0:=[opE oo oc (openAt a i x),X st,Y st]) (Ar:=[opK gs oo (openAt a i x).length oc i]) (ys:=.a (.v (.int .i64 k))::.a (.v (.slice oo (openAt a i x).length oc))::caps.map ptSV) rfl rfl rfl rfl rfl rfl rfl hcall ⟨trivial,trivial,hcap⟩
    (hf s2 k i x st oo oc (Snap.le_trans hle (Snap.le_trans hle' (Snap.le_trans hle1 hle2))) hxk hR haz (by omega) (by omega)) fun v s3 A3 hle3 ⟨hv,st',hR',hA⟩=>⟨.tup [],(by (repeat' (first | exact trivial | refine SV.lt_tup ?_))),hv.symm,?_⟩
  subst hA
  refine oj_run TT rfl ?_
  (repeat (first | refine cjr TT rfl ?_ | refine oj_nil ?_ | refine nj_then ?_ | refine nj_block ?_ | (refine oj_add rfl rfl rfl rfl rfl rfl (by omega) ?_;refine oj_run TT rfl ?_)))
  refine nj_re [3,0,1,2] (A':=[opK gs oo (openAt a i x).length oc i,opE oo oc (openAt a i x),X st',Y st']) rfl rfl ?_
  refine nj_again (s3,(⟨k+1,i,openAt a i x,oo,oc,st'⟩:SwS α)) ⟨Snap.le_trans hle (Snap.le_trans hle' (Snap.le_trans hle1 (Snap.le_trans hle2 hle3))),by dsimp only;omega,hi,by dsimp only;rw [hnext];exact hsw2,fun y' z hy' hz=>by dsimp only at hy' hz;rw [hnext] at hy';injection hy' with hy';subst hy';exact haz z hz,by dsimp only;omega,hR'⟩ (by dsimp only;omega) rfl (by (repeat first | exact trivial | refine ⟨rfl,?_⟩)) (by (repeat first | exact trivial | refine ⟨rfl,?_⟩)) rfl ⟨trivial,trivial,hlt,trivial,trivial,trivial,trivial,trivial,trivial⟩ trivial
end Go.Sy
