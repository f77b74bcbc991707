/- Parts of the proof of CStreamsValues: SyO, SyP, Tab, F1, F2, F3. No conditions. -/
import Derived.Test.YtlonlnagmfdlbaaGreatDoorM3
import Derived.RangeFuncRecord
import Derived.Test.YtlonlnagmfdlbaaGreatDoorProg
import Derived.KernelRfl
/- Rounds: loops over functions. No program in sight. -/
namespace Go.Sy
def Snap.leB (l:Nat) (σ σ':Snap):Prop:=(σ.set l none).le σ'
theorem Snap.leB.cle {l:Nat} {σ σ':Snap} {r:Loop} (h:σ.leB l σ') (hl:σ l=some (.loop r)):σ.cle σ':=by
  intro a v hv
  refine Snap.le.cell h ?_
  rw [Snap.cell_set (fun o e=>by rw [hl] at e;injection e with e;subst e;rfl) (fun _ e=>by cases e)]
  exact hv
theorem Snap.leB.at_ {l:Nat} {σ σ':Snap} (h:σ.leB l σ') {b:Nat} {o:Obj} (hb:b≠l) (ho:σ b=some o):σ' b=some o:=h b o (by rw [Snap.set_ne hb];exact ho)
abbrev cfL (P:Program) (w:World) (σ:Snap) (A:List AE) (l:Nat) (N:Nat) (rd:Option Nat):Cf:=⟨P,w,σ.set l none,fun b=>blks A b\/b=l,N,[],rd⟩
def postI (P:Program) (w:World) (σ:Snap) (A:List AE) (l:Nat) (Φ:Value->Snap->List AE->Prop):Ending->World->Prop :=
  fun e w'=>∃ v σ' A',e=.returned v/\StW (cfL P w σ A l 0 none) σ' [] A' β0 w'/\Φ v σ' A'
def RoundC (P:Program) (l:Nat) (r:Loop) (args:Array Value) (σ:Snap) (A:List AE) (Φ:Value->Snap->List AE->Prop):Prop :=
  ∀ w,StW (cfL P w σ A l 0 none) σ [] A β0 w->RoundIn (FR none) 0 P l r.fn ((r.params.zip args).foldl (fun tmps (t,a)=>tmps.setIfInBounds t a) r.tmps) r.assign r.body w (postI P w σ A l Φ)
def IterC (P:Program) (f:FuncId) (args:Array Value) (l:Nat) (σ:Snap) (A:List AE) (Φ:Value->Snap->List AE->Prop):Prop :=
  ∀ w,StW (cfL P w σ A l 0 none) σ [] A β0 w->Calls P f args w (postI P w σ A l Φ)
section
variable {cf:Cf} {σ:Snap} {hp:HP} {A:List AE} {β:Nat->Addr} {w:World}
theorem StW.bareM {P:Program} {w0 w:World} {σ0 σ:Snap} {M:Nat->Prop} {N:Nat} {ds:List Deferred} {rd:Option Nat} {hp:HP} {A:List AE} {β:Nat->Addr} (h:StW ⟨P,w0,σ0,M,N,ds,rd⟩ σ hp A β w) (N':Nat) (ds':List Deferred) (rd':Option Nat) (β':Nat->Addr) :
    StW ⟨P,w0,σ0,M,N',ds',rd'⟩ σ [] A β' w where
  os:=h.os
  tape:=h.tape
  output:=h.output
  size:=h.size
  fr:=h.fr
  sealed:=h.sealed
  le:=h.le
  grow:=h.grow
  loc:=fun _ _ _ h=>by cases h
  ro:=fun _ _ h=>by cases h
  inj:=fun _ _ _ _ _ _ h=>by cases h
  arr:=fun i E hE=>h.arr i E hE
  arrd:=h.arrd
  arrh:=fun _ _ _ _ _ _ h=>by cases h
theorem StW.re {P:Program} {w0 w:World} {σ0 σ:Snap} {M:Nat->Prop} {N:Nat} {ds:List Deferred} {rd:Option Nat} {hp:HP} {A:List AE} {β:Nat->Addr} (h:StW ⟨P,w0,σ0,M,N,ds,rd⟩ σ hp A β w) (N':Nat) (ds':List Deferred) (rd':Option Nat) :
    StW ⟨P,w0,σ0,M,N',ds',rd'⟩ σ hp A β w :=
  ⟨h.os,h.tape,h.output,h.size,h.fr,h.sealed,h.le,h.grow,h.loc,h.ro,h.inj,h.arr,h.arrd,h.arrh⟩
theorem StW.handInL {l:Nat} {A0 Ar:List AE} (h:StW cf σ hp (A0++Ar) β w):StW (cfL cf.P w σ A0 l 0 none) σ [] A0 β0 w where
  os:=rfl
  tape:=rfl
  output:=rfl
  size:=Nat.le_refl _
  fr:=fun _ _ _=>rfl
  sealed:=h.sealed
  le:=fun b o (hb:σ.set l none b=some o)=>by
    by_cases hbl:b=l
    · subst hbl;rw [Snap.set_self] at hb;cases hb
    · rw [Snap.set_ne hbl] at hb;exact hb
  grow:=fun b hb=>by
    by_cases hbl:b=l
    · exact .inr (.inr (.inr hbl))
    · left;show σ.set l none b≠none;rw [Snap.set_ne hbl];exact hb
  loc:=fun _ _ _ h=>by cases h
  ro:=fun _ _ h=>by cases h
  inj:=fun _ _ _ _ _ _ h=>by cases h
  arr:=fun i E hE=>by
    have hlt:=(List.getElem?_eq_some_iff.1 hE).1
    obtain ⟨h1,h2⟩:=h.arr i E (by rw [List.getElem?_append_left hlt];exact hE)
    refine ⟨h1,h2.imp id ?_⟩
    rintro ⟨g,cur,h3,h4,h5,h6,h7,h8,h9,h10⟩
    exact ⟨g,cur,h3,h4,h5,h6,h7,h8,h9,.inr (.inl ⟨E,List.mem_of_getElem? hE,by simp [AE.blk,h3]⟩)⟩
  arrd:=fun i j E F hE hF hij=>by
    have hi:=(List.getElem?_eq_some_iff.1 hE).1
    have hj:=(List.getElem?_eq_some_iff.1 hF).1
    exact h.arrd i j E F (by rw [List.getElem?_append_left hi];exact hE) (by rw [List.getElem?_append_left hj];exact hF) hij
  arrh:=fun _ _ _ _ _ _ h=>by cases h
theorem StW.throughL {w':World} {σ':Snap} {l:Nat} {o:Obj} {A0 Ar A1:List AE} (h:StW cf σ hp (A0++Ar) β w) (hl:σ l=some o) (ho:nocell o=true) (h0:cf.σ0 l=none)
    (h':StW (cfL cf.P w σ A0 l 0 none) σ' [] A1 β0 w'):StW cf σ' hp (A1++Ar) β w':=by
  have hlw:=h.sealed _ _ hl
  have hlo:=h.own_of hl h0
  have hcells:∀ {c:Nat} {cs:Array Value} {e:TypeId} {f:Nat×Nat},w.heap[c]?=some (.cells cs e f)->c≠l:=fun hc e=>by subst e;rw [hlw] at hc;injection hc with hc;subst hc;cases ho
  have hin0:∀ {E},E∈A0->∃ i,(A0++Ar)[i]?=some E/\i<A0.length:=by
    intro E hE
    obtain ⟨i,hi⟩:=List.getElem?_of_mem hE
    have hlt:=(List.getElem?_eq_some_iff.1 hi).1
    exact ⟨i,by rw [List.getElem?_append_left hlt];exact hi,hlt⟩
  have hblk:∀ {b},blks A0 b->∃ i E,(A0++Ar)[i]?=some E/\E.blk=some b/\i<A0.length:=by
    rintro b ⟨E,hE,hb⟩
    obtain ⟨i,hi,hlt⟩:=hin0 hE
    exact ⟨i,E,hi,hb,hlt⟩
  have hown:∀ {b},(blks A0 b\/b=l)->Own cf b:=by
    rintro b (hb | hb)
    · obtain ⟨i,E,hi,hE,_⟩:=hblk hb
      exact ((h.arr i E hi).lt hE).2.2
    · subst hb;exact hlo
  have hold:∀ b,b<w.heap.size->¬ (blks A0 b\/b=l)->w'.heap[b]?=w.heap[b]?:=h'.fr
  have hσ:∀ b,b<w.heap.size->¬ (blks A0 b\/b=l)->σ b=none->σ' b=none:=by
    intro b hb hnb hn
    cases hb':σ' b with
    | none=>rfl
    | some o =>
      rcases h'.grow b (by rw [hb'];simp) with h1 | h1 | h1
      · have h1:σ.set l none b≠none:=h1
        exact absurd hn (by rw [Snap.set_ne (fun e=>hnb (.inr e))] at h1;exact h1)
      · have:w.heap.size<=b:=h1
        omega
      · exact absurd h1 hnb
  have hold':∀ {b},Own (cfL cf.P w σ A0 l 0 none) b->Own cf b:=by
    rintro b (h1 | h1)
    · exact .inl (Nat.le_trans h.size h1)
    · exact hown h1
  have hget:∀ {j:Nat} {E:AE},(A1++Ar)[j]?=some E->(j<A1.length/\A1[j]?=some E)\/(A1.length<=j/\(A0++Ar)[A0.length+(j - A1.length)]?=some E):=by
    intro j E hj
    by_cases hlt:j<A1.length
    · rw [List.getElem?_append_left hlt] at hj;exact .inl ⟨hlt,hj⟩
    · rw [List.getElem?_append_right (by omega)] at hj
      refine .inr ⟨by omega,?_⟩
      rw [List.getElem?_append_right (by omega),Nat.add_sub_cancel_left];exact hj
  have hnew:∀ {E:AE} {j:Nat} {b:Nat},A1[j]?=some E->E.blk=some b->w.heap.size<=b\/(blks A0 b\/b=l):=by
    intro E j b hE hb
    rcases ((h'.arr j E hE).lt hb).2.2 with h1 | h1
    · exact .inl h1
    · exact .inr h1
  have hkept:∀ {F:AE} {k:Nat} {b:Nat},A0.length<=k->(A0++Ar)[k]?=some F->F.blk=some b->b<w.heap.size/\¬ (blks A0 b\/b=l):=by
    intro F k b hk hF hb
    refine ⟨((h.arr k F hF).lt hb).1,?_⟩
    rintro (hc | hc)
    · obtain ⟨i,E,hi,hE,hlt⟩:=hblk hc
      exact h.arrd i k E F hi hF (by omega) b hE hb
    · subst hc
      obtain ⟨_,h2⟩:=h.arr k F hF
      rcases h2 with ⟨h3,_⟩ | ⟨g,cur,h3,h4,_⟩
      · simp [AE.blk,h3] at hb
      · simp only [AE.blk,h3,Option.map_some,Option.some.injEq] at hb
        subst hb
        exact hcells h4 rfl
  have hcle:σ.cle σ':=by
    intro a v hv
    refine Snap.le.cell h'.le ?_
    rw [Snap.cell_set (h.nocell_of hlw ho) (fun _ e=>by cases e)]
    exact hv
  refine ⟨h'.os.trans h.os,h'.tape.trans h.tape,h'.output.trans h.output,Nat.le_trans h.size h'.size,fun b hb hm=>?_,h'.sealed,fun b o hb=>h'.le b o ?_,fun b hb=>?_,fun i e cs hi=>?_,fun i cs hi j c hc=>hcle _ _ (h.ro i cs hi j c hc),h.inj,fun i E hE=>?_,
    fun i j E F hE hF hij=>?_,fun i j E e cs hE hj=>?_⟩
  · have hnb:¬ (blks A0 b\/b=l):=fun hc=>by
      rcases hown hc with h1 | h1
      · omega
      · exact hm h1
    rw [hold b (Nat.lt_of_lt_of_le hb h.size) hnb];exact h.fr b hb hm
  · have hbl:b≠l:=fun e=>by subst e;rw [h0] at hb;cases hb
    show (σ.set l none) b=some o
    rw [Snap.set_ne hbl];exact h.le b o hb
  · rcases h'.grow b hb with h1 | h1
    · refine h.grow b fun hn=>h1 ?_
      show (σ.set l none) b=none
      by_cases hbl:b=l
      · subst hbl;exact Snap.set_self ..
      · rw [Snap.set_ne hbl];exact hn
    · exact .inr (hold' h1)
  · obtain ⟨h1,h2,h3,h4⟩:=h.loc i e cs hi
    have hlt:=(Array.getElem?_eq_some_iff.1 h2).1
    have hnb:¬ (blks A0 (β i).block\/(β i).block=l):=by
      rintro (hc | hc)
      · obtain ⟨k,E,hk,hE,_⟩:=hblk hc
        exact h.arrh k i E e cs hk hi hE
      · exact hcells h2 hc
    exact ⟨h1,by rw [hold _ hlt hnb];exact h2,hσ _ hlt hnb h3,h4⟩
  · rcases hget hE with ⟨_,hE'⟩ | ⟨hle,hE'⟩
    · obtain ⟨h1,h2⟩:=h'.arr i E hE'
      refine ⟨h1,h2.imp id ?_⟩
      rintro ⟨g,cur,h3,h4,h5,h6,h7,h8,h9,h10⟩
      exact ⟨g,cur,h3,h4,h5,h6,h7,h8,h9,hold' h10⟩
    · obtain ⟨h1,h2⟩:=h.arr _ E hE'
      refine ⟨h1,h2.imp id ?_⟩
      rintro ⟨g,cur,h3,h4,h5,h6,h7,h8,h9,h10⟩
      obtain ⟨hlt,hnb⟩:=hkept (by omega) hE' (b:=g) (by simp [AE.blk,h3])
      exact ⟨g,cur,h3,by rw [hold g hlt hnb];exact h4,h5,h6,h7,h8,hσ g hlt hnb h9,h10⟩
  · intro b hEb hFb
    rcases hget hE with ⟨hi,hE'⟩ | ⟨hi,hE'⟩<;>rcases hget hF with ⟨hj,hF'⟩ | ⟨hj,hF'⟩
    · exact h'.arrd i j E F hE' hF' hij b hEb hFb
    · obtain ⟨hlt,hnb⟩:=hkept (by omega) hF' hFb
      rcases hnew hE' hEb with h1 | h1
      · omega
      · exact hnb h1
    · obtain ⟨hlt,hnb⟩:=hkept (by omega) hE' hEb
      rcases hnew hF' hFb with h1 | h1
      · omega
      · exact hnb h1
    · exact h.arrd _ _ E F hE' hF' (by omega) b hEb hFb
  · intro hb
    obtain ⟨h1,h2,h3,h4⟩:=h.loc j e cs hj
    have hlt:=(Array.getElem?_eq_some_iff.1 h2).1
    rcases hget hE with ⟨_,hE'⟩ | ⟨_,hE'⟩
    · rcases hnew hE' hb with h5 | h5 | h5
      · omega
      · obtain ⟨k,G,hk,hG,_⟩:=hblk h5
        exact h.arrh k j G e cs hk hj hG
      · exact hcells h2 h5
    · exact h.arrh _ j E e cs hE' hj hb
end
theorem enter_raw {P:Program} {f:FuncId} {fn:Func} {c:Code} {args:Array Value} {w:World} {M:Nat->Prop} {σ0 σ:Snap} {R:Ending->World->Prop}
    (hf:P.funcs[f]?=some fn) (hb:fn.body=some c) (svs:List SV) (A:List AE) (hargs:args=(svs.map (SV.den β0)).toArray) (hN:Nat.ble svs.length fn.ntmps=true)
    (hlt:LtAll svs) (hw:StW ⟨P,w,σ0,M,fn.ntmps,[],none⟩ σ [] A β0 w)
    (h:CJ ⟨P,w,σ0,M,fn.ntmps,[],none⟩ c (bodyPost P fn R) σ (argEnv 0 svs) [] A 0):Calls P f args w R:=by
  have hN:=Nat.le_of_ble_eq_true hN
  have hlt:=hlt.of
  refine calls_of_wp hf hb (wpR_none (h.run ⟨fun i x hx=>?_,fun _ _ _ h=>by cases h⟩ _ β0 w ⟨?_,rfl,fun i x hx=>?_⟩ hw))
  · obtain ⟨_,h2⟩:=argEnv_get svs 0 i x hx
    exact hlt x (List.mem_of_getElem? h2)
  · subst hargs
    simp only [Array.size_append,List.size_toArray,List.length_map,Array.size_replicate]
    omega
  · obtain ⟨_,h2⟩:=argEnv_get svs 0 i x hx
    simp only [Nat.sub_zero] at h2
    subst hargs
    rw [Array.getElem?_append_left (by simp;exact (List.getElem?_eq_some_iff.1 h2).1)]
    simp [h2]
theorem enter_it {P:Program} {f:FuncId} {fn:Func} {c:Code} {svs:List SV} {l:Nat} {σ:Snap} {A:List AE} {Φ:Value->Snap->List AE->Prop}
    (hf:P.funcs[f]?=some fn) (hb:fn.body=some c) (hN:Nat.ble svs.length fn.ntmps=true) (hlt:LtAll svs)
    (h:∀ w,CJ (cfL P w σ A l fn.ntmps none) c (bodyPost P fn (postI P w σ A l Φ)) σ (argEnv 0 svs) [] A 0):IterC P f (svs.map (SV.den β0)).toArray l σ A Φ :=
  fun w hw=>enter_raw hf hb svs A rfl hN hlt (hw.re _ _ _) (h w)
theorem nj_iret {P:Program} {w0:World} {σ0:Snap} {A0:List AE} {l N:Nat} {T:List (Nat×TI)} (hT:TTok P T) {fn:Func} {Φ:Value->Snap->List AE->Prop} {σ:Snap} {env:Env} {hp:HP} {A:List AE} {nh:Nat}
    {xs:List S1} (hr:resL T env hp fn.results.toList=some xs) (h:∀ β,Φ ((resSV xs).den β) σ A) :
    NJ (cfL P w0 σ0 A0 l N none) .ret (bodyPost P fn (postI P w0 σ0 A0 l Φ)) σ env hp A nh:=⟨fun hb _ β _ ha hw =>
  ⟨ha.defers,_,results_ok (cf:=cfL P w0 σ0 A0 l N none) hT ha hb hw hr,_,σ,A,rfl,hw.bareM _ _ _ _,h β⟩⟩
theorem nj_iend {P:Program} {w0:World} {σ0:Snap} {A0:List AE} {l N:Nat} {T:List (Nat×TI)} (hT:TTok P T) {fn:Func} {Φ:Value->Snap->List AE->Prop} {σ:Snap} {env:Env} {hp:HP} {A:List AE} {nh:Nat}
    {xs:List S1} (hr:resL T env hp fn.results.toList=some xs) (h:∀ β,Φ ((resSV xs).den β) σ A) :
    NJ (cfL P w0 σ0 A0 l N none) .normal (bodyPost P fn (postI P w0 σ0 A0 l Φ)) σ env hp A nh:=⟨fun hb _ β _ ha hw =>
  ⟨ha.defers,_,results_ok (cf:=cfL P w0 σ0 A0 l N none) hT ha hb hw hr,_,σ,A,rfl,hw.bareM _ _ _ _,h β⟩⟩
section
variable {cf:Cf} {Q:Exit->Act->World->Prop} {σ:Snap} {env:Env} {hp:HP} {A:List AE} {nh:Nat} {it:Item} {rest:List Item}
def yieldee (env:Env) (op:Op):Option (Nat×List SV) :=
  match op with
  | .call c =>
    match c.callee with
    | .value f =>
      match evalO env f,evalL env c.args.toList with
      | some (.a (.fn (.yield l) [])),some ys=>some (l,ys)
      | _,_=>none
    | _=>none
  | _=>none
theorem yieldee_ok {β:Nat->Addr} {a:Act} {w:World} (ha:StA cf env β a) {o:Oper} {l:Nat} {ys:List SV} {r:Loop} (h:yieldee env o.op=some (l,ys)) (hl:w.heap[l]?=some (.loop r)) (hs:Nat.beq ys.length r.params.size=true) :
    (execOp a.eval o).run cf.P w=.ok (.round l r.fn ((r.params.zip (ys.map (SV.den β)).toArray).foldl (fun tmps (t,a)=>tmps.setIfInBounds t a) r.tmps) r.assign r.body) w:=by
  unfold yieldee at h
  split at h
  · rename_i c hop
    split at h
    · rename_i fo hcal
      split at h
      · rename_i g zs hf hz
        injection h with h
        simp only [Prod.mk.injEq] at h
        obtain ⟨rfl,rfl⟩:=h
        have h1:a.eval fo=.func (.yield g) #[] #[]:=evalO_eval ha hf
        have h2:c.args.map a.eval=(zs.map (SV.den β)).toArray:=by
          have:=evalL_ok ha _ _ hz
          rw [<-this,<-Array.toList_map]
        simp only [execOp,hop,resolve,hcal,h1,h2,Deferred.ofValue,Sem.run_bind,Sem.run_pure,Result.andThen_ok,invoke,Array.empty_append]
        exact run_yield hl (by simpa using hs)
      · cases h
    · cases h
  · cases h
theorem oj_yield {d l:Nat} {r:Loop} {ys:List SV} {Φ:Value->Snap->List AE->Prop} (is:List Nat) {A0 Ar:List AE} (hl:σ l=some (.loop r)) (h0:cf.σ0 l=none) (hA:reA is A=A0++Ar) (hn:nodupB is=true)
    (hc:yieldee env it.o.op=some (l,ys)) (hs:Nat.beq ys.length r.params.size=true) (hd:it.o.dst=some d) (hg:guardVal it.guard env=some true)
    (hN:Nat.blt d cf.N=true) (htag:canSink it.tag=true) (hlt:LtAll ys)
    (hC:RoundC cf.P l r (ys.map (SV.den β0)).toArray σ A0 Φ)
    (k:∀ v σ' A',σ.leB l σ'->Φ v σ' A'->∃ y:SV,y.lt 0/\y.den β0=v/\OJ cf rest Q σ' ((d,y)::env) hp (A'++Ar) nh):OJ cf (it::rest) Q σ env hp A nh:=by
  refine ⟨fun hb a β ha hex=>?_⟩
  have hN':d<cf.N:=by simpa [Nat.blt_eq] using hN
  have den0:∀ {y:SV},y.lt 0->y.den β=y.den β0:=fun hy=>SV.den_congr (n:=0) (fun i hi=>by omega) hy
  have hargs:(ys.map (SV.den β)).toArray=(ys.map (SV.den β0)).toArray:=by
    rw [List.map_congr_left fun y hy=>den0 (hlt.of y hy)]
  have key:∀ w,StW cf σ hp A β w->∀ Q',it.o.wq cf.P a w (fun a' w'=>∃ E' S':World->Prop,S' w'/\(∀ x,S' x->E' x)/\RunT cf.P Q rest E' S' a') Q':=by
    intro w hw Q'
    have hw2:StW cf σ hp (A0++Ar) β w:=by rw [<-hA];exact hw.reA hn
    unfold Oper.wq
    rw [yieldee_ok ha hc (hw.sealed _ _ hl) hs]
    simp only [Oper.uponIn]
    rw [hargs]
    refine ⟨fun h=>(by cases h),RoundIn.mono (round_FR (hC w hw2.handInL)) fun e w' ⟨v,σ',A',he,h4,h5⟩=>?_⟩
    subst he
    obtain ⟨y,hy,hyv,hk⟩:=k v σ' A' h4.le h5
    have hw':=hw2.throughL hl rfl h0 h4
    refine ⟨_,_,hw',fun _ h=>h,?_⟩
    have:=hk.run (hb.put (SV.lt_mono (Nat.zero_le _) hy) d) (a.put (some d) (y.den β)) β (ha.put hN' y) ⟨_,hw'⟩
    rw [hd,<-hyv,<-den0 hy]
    exact this
  simp only [RunT]
  rw [if_pos (guardVal_ok ha hg)]
  cases htag':it.tag with
  | pure=>rw [htag'] at htag;cases htag
  | quiet=>rw [htag'] at htag;cases htag
  | keep=>rw [htag'] at htag;cases htag
  | sink=>exact fun w hw=>key w hw _
  | free=>exact fun w hw=>key w hw _
end
def parEnv:List Nat->List SV->Env->Env
  | p::ps,y::ys,env=>parEnv ps ys ((p,y)::env)
  | _,_,env=>env
def allBlt (N:Nat):List Nat->Bool
  | []=>true
  | p::ps=>Nat.blt p N&&allBlt N ps
theorem StA.params {cf:Cf}:∀ (ps:List Nat) (ys:List SV) (env:Env) (a:Act),ps.length=ys.length->allBlt cf.N ps=true->StA cf env β0 a ->
    StA cf (parEnv ps ys env) β0 { a with tmps:=(ps.zip (ys.map (SV.den β0))).foldl (fun tmps x=>tmps.setIfInBounds x.1 x.2) a.tmps }
  | [],[],env,a,_,_,ha=>ha
  | [],_::_,env,a,h,_,_=>by simp at h
  | _::_,[],env,a,h,_,_=>by simp at h
  | p::ps,y::ys,env,a,h,hN,ha=>by
    simp only [allBlt,Bool.and_eq_true,Nat.blt_eq] at hN
    have:=StA.params ps ys ((p,y)::env) (a.put (some p) (y.den β0)) (by simpa using h) hN.2 (ha.put hN.1 y)
    exact this
theorem parEnv_lt {n:Nat}:∀ (ps:List Nat) (ys:List SV) (env:Env),LtAll ys->EnvLt n env->EnvLt n (parEnv ps ys env)
  | [],[],_,_,h=>h
  | [],_::_,_,_,h=>h
  | _::_,[],_,_,h=>h
  | _::ps,_::ys,_,hy,h=>parEnv_lt ps ys _ hy.2 ⟨SV.lt_mono (Nat.zero_le _) hy.1,h⟩
def beginQ (P:Program) (l:Nat) (body:Code) (R:Ending->World->Prop):Exit->Act->World->Prop :=
  Exit.then (fun a w=>∃ w',(Instr.beginRound l).run P w=.ok () w'/\body.wpIn (FR (some l)) 0 P (roundPost P l R) a w') (fun _ _ _=>False)
theorem roundC_of {P:Program} {l:Nat} {r:Loop} {ys:List SV} {σ:Snap} {A:List AE} {Φ:Value->Snap->List AE->Prop} {N:Nat} {env:Env} (hsz:r.tmps.size=N) (henv:∀ i x,env.get i=some x->r.tmps[i]?=some (x.den β0))
    (ps:List Nat) (hps:r.params=ps.toArray) (hlen:Nat.beq ps.length ys.length=true) (hpN:allBlt N ps=true) (hlt:LtAll ys) (he:EnvLt 0 env)
    (h:∀ w,CJ (cfL P w σ A l N (some l)) r.assign (beginQ P l r.body (postI P w σ A l Φ)) σ (parEnv ps ys env) [] A 0):RoundC P l r (ys.map (SV.den β0)).toArray σ A Φ:=by
  intro w hw
  refine round_FR (rd:=none) (n:=0) (roundIn_of_wpIn (F:=FR none) trivial ?_)
  have ha:StA (cfL P w σ A l N (some l)) env β0 ⟨r.tmps,[]⟩:=⟨hsz,rfl,henv⟩
  have ha':=ha.params ps ys env ⟨r.tmps,[]⟩ (Nat.eq_of_beq_eq_true hlen) hpN
  have hz:(r.params.zip (ys.map (SV.den β0)).toArray).foldl (fun tmps (x:Nat×Value)=>tmps.setIfInBounds x.1 x.2) r.tmps=(ps.zip (ys.map (SV.den β0))).foldl (fun tmps x=>tmps.setIfInBounds x.1 x.2) r.tmps:=by
    rw [hps,<-Array.foldl_toList]
    simp
  have hrun:=(h w).run (Bd.of (parEnv_lt ps ys env hlt he) trivial) _ β0 w ha' (hw.re _ _ _)
  rw [<-hz] at hrun
  exact hrun
section
variable {P:Program} {w0:World} {σ0:Snap} {A0:List AE} {l N:Nat} {σ:Snap} {env:Env} {hp:HP} {A:List AE} {nh:Nat} {r:Loop}
theorem nj_begin {body:Code} {R:Ending->World->Prop} (hl:σ l=some (.loop r)) (hr:r.state=.ready) (h0:σ0.set l none l=none)
    (h:CJ (cfL P w0 σ0 A0 l N (some l)) body (roundPost P l R) (σ.set l (some (.loop { r with state:=.busy }))) env hp A nh):NJ (cfL P w0 σ0 A0 l N (some l)) .normal (beginQ P l body R) σ env hp A nh:=by
  refine ⟨fun hb a β w ha hw=>⟨_,run_beginRound (hw.sealed _ _ hl) hr,h.run hb a β _ ha ?_⟩⟩
  exact hw.turn hl rfl rfl h0
theorem nj_rndN {Φ:Value->Snap->List AE->Prop} (hl:σ l=some (.loop r)) (h:Φ (.bool true) (σ.set l (some (.loop { r with state:=.ready,pending:=none }))) A) :
    NJ (cfL P w0 σ0 A0 l N (some l)) .normal (roundPost P l (postI P w0 σ0 A0 l Φ)) σ env hp A nh :=
  ⟨fun _ _ _ _ _ hw=>⟨_,_,run_endRound none (hw.sealed _ _ hl),_,_,A,rfl,(hw.turn hl rfl rfl (Snap.set_self ..)).bareM _ _ _ _,h⟩⟩
theorem nj_rndR {Φ:Value->Snap->List AE->Prop} (hl:σ l=some (.loop r)) (h:Φ (.bool false) (σ.set l (some (.loop { r with state:=.done,pending:=some .ret }))) A) :
    NJ (cfL P w0 σ0 A0 l N (some l)) .ret (roundPost P l (postI P w0 σ0 A0 l Φ)) σ env hp A nh :=
  ⟨fun _ _ _ _ _ hw=>⟨_,_,run_endRound (some .ret) (hw.sealed _ _ hl),_,_,A,rfl,(hw.turn hl rfl rfl (Snap.set_self ..)).bareM _ _ _ _,h⟩⟩
end
abbrev markD (D:Nat):Deferred:={ target:=.collected D,args:=#[] }
theorem cj_rangeFunc {P:Program} {w0:World} {σ0:Snap} {M:Nat->Prop} {N:Nat} {ds:List Deferred} {Q:Exit->Act->World->Prop} {σ:Snap} {env:Env} {hp:HP} {A:List AE} {nh:Nat}
    {g:Operand} {ps:Array Tmp} {assign body:Code} {gf:FuncId} {caps:List PT} (is:List Nat) {A0 Ar:List AE} (hA:reA is A=A0++Ar) (hn:nodupB is=true)
    (hg:evalO env g=some (.a (.fn (.func gf) caps))) (hcap:LtAll (caps.map ptSV)) (hlt:EnvLt 0 env) (hcall:∀ args w,(callFunc gf args).run P w=.ok (.enter gf args) w)
    (Φ:Nat->Nat->Loop->Value->Snap->List AE->Prop)
    (hit:∀ (fid D l:Nat) (tmps:Array Value),tmps.size=N->(∀ i x,env.get i=some x->tmps[i]?=some (x.den β0))->D≠l->σ D=none->σ l=none->σ0 l=none ->
      IterC P gf (((.a (.fn (.yield l) [])::caps.map ptSV).map (SV.den β0)).toArray) l ((σ.set D (some (.deferred (some [])))).set l (some (.loop ⟨.ready,none,fid,tmps,ps,assign,body,D⟩))) A0 (Φ D l ⟨.ready,none,fid,tmps,ps,assign,body,D⟩))
    (k:∀ (D l:Nat) (r:Loop) (v:Value) (σ':Snap) (A':List AE),Φ D l r v σ' A'->σ0 D=none->σ0 l=none->σ' D=some (.deferred (some []))->σ.cle σ'->(∀ b o,b≠D->b≠l->σ b=some o->σ' b=some o) ->
      ∃ r',σ' l=some (.loop r')/\r'.state≠.busy/\(match r'.pending with
        | none=>NJ ⟨P,w0,σ0,M,N,markD D::ds,none⟩ .normal Q (σ'.set l none) env hp (A'++Ar) nh
        | some c=>CJ ⟨P,w0,σ0,M,N,markD D::ds,none⟩ c Q (σ'.set l none) env hp (A'++Ar) nh)) :
    CJ ⟨P,w0,σ0,M,N,ds,none⟩ (.rangeFunc g ps assign body) Q σ env hp A nh:=by
  refine ⟨fun hb a β w ha hw=>?_⟩
  have hw2:StW ⟨P,w0,σ0,M,N,ds,none⟩ σ hp (A0++Ar) β w:=by rw [<-hA];exact hw.reA hn
  refine wpIn_rangeFunc fun fid _=>?_
  have hev:a.eval g=.func (.func gf) #[] (caps.map (PT.den β)).toArray:=evalO_eval ha hg
  have hcd:caps.map (PT.den β)=(caps.map ptSV).map (SV.den β0):=by
    rw [List.map_map]
    refine List.map_congr_left fun p hp=>?_
    show p.den β=(ptSV p).den β0
    rw [<-ptSV_den β p]
    exact SV.den_congr (n:=0) (fun i hi=>by omega) (hcap.of _ (List.mem_map.2 ⟨p,hp,rfl⟩))
  obtain ⟨hD,hwD⟩:=hw2.lay (o:=.deferred (some [])) rfl
  obtain ⟨hl,hwl⟩:=hwD.lay (o:=.loop ⟨.ready,none,fid,a.tmps,ps,assign,body,w.heap.size⟩) rfl
  have hsz1:(w.alloc (.deferred (some []))).heap.size=w.heap.size+1:=Array.size_push ..
  have hne:w.heap.size≠(w.alloc (.deferred (some []))).heap.size:=by omega
  have hl':σ (w.alloc (.deferred (some []))).heap.size=none:=by rw [<-hl,Snap.set_ne (Ne.symm hne)]
  have h0D:σ0 w.heap.size=none:=Snap.none_of_le hw2.le hD
  have h0l:σ0 (w.alloc (.deferred (some []))).heap.size=none:=Snap.none_of_le hw2.le hl'
  let w1:=(w.alloc (.deferred (some []))).alloc (.loop ⟨.ready,none,fid,a.tmps,ps,assign,body,w.heap.size⟩)
  refine ⟨(w.alloc (.deferred (some []))).heap.size,[markD w.heap.size],w1,⟨.fn (.func gf) (caps.map (PT.den β)).toArray,#[.func (.yield (w.alloc (.deferred (some []))).heap.size) #[] #[]]⟩,w1,gf,
    #[.func (.yield (w.alloc (.deferred (some []))).heap.size) #[] #[]]++(caps.map (PT.den β)).toArray,w1,?_,?_,fun _ _=>trivial,?_,fun h=>(by cases h),?_⟩
  · rw [hsz1];exact run_enterLoop_outer fid a.tmps ps assign body
  · show (resolve a.eval (rangeCall g _) 0).run P _=_
    simp only [resolve,hev,Deferred.ofValue,Sem.run_pure,Array.empty_append]
    simp [Act.eval]
  · show (invoke (.fn (.func gf) _) _).run P _=_
    simp only [invoke]
    exact hcall _ _
  · have henv:∀ i x,env.get i=some x->a.tmps[i]?=some (x.den β0):=fun i x hx=>by
      rw [ha.env i x hx]
      congr 1
      exact SV.den_congr (n:=0) (fun i hi=>by omega) ((Bd.of (hp:=[]) hlt trivial).env i x hx)
    have hI:=hit fid w.heap.size (w.alloc (.deferred (some []))).heap.size a.tmps ha.size henv hne hD hl' h0l
    have hargs:(#[.func (.yield (w.alloc (.deferred (some []))).heap.size) #[] #[]]++(caps.map (PT.den β)).toArray:Array Value)=(((.a (.fn (.yield (w.alloc (.deferred (some []))).heap.size) [])::caps.map ptSV).map (SV.den β0)).toArray):=by
      rw [hcd]
      simp [SV.den,AT.den]
    rw [hargs]
    refine callsIn_FR.2 (Calls.mono (hI _ hwl.handInL) ?_)
    rintro e w' ⟨v,σ',A',rfl,h4,h5⟩
    have hσl:((σ.set w.heap.size (some (.deferred (some [])))).set (w.alloc (.deferred (some []))).heap.size (some (.loop ⟨.ready,none,fid,a.tmps,ps,assign,body,w.heap.size⟩))) (w.alloc (.deferred (some []))).heap.size=some (.loop ⟨.ready,none,fid,a.tmps,ps,assign,body,w.heap.size⟩):=Snap.set_self ..
    have hw':=hwl.throughL hσl rfl h0l h4
    have hle:∀ b o,b≠w.heap.size->b≠(w.alloc (.deferred (some []))).heap.size->σ b=some o->σ' b=some o:=fun b o h1 h2 h3=>h4.le b o (by
      show Snap.set _ _ none b=some o
      rw [Snap.set_ne h2,Snap.set_ne h2,Snap.set_ne h1];exact h3)
    have hσD:σ' w.heap.size=some (.deferred (some [])):=h4.le _ _ (by
      show Snap.set _ _ none _=_
      rw [Snap.set_ne hne,Snap.set_ne hne,Snap.set_self])
    have hcle:σ.cle σ':=by
      intro ad x hx
      refine Snap.le.cell h4.le ?_
      show Snap.cell (Snap.set _ _ none) ad=_
      rw [Snap.cell_set (fun o e=>by rw [Snap.set_self] at e;injection e with e;subst e;rfl) (fun _ e=>by cases e),Snap.cell_set (fun o e=>by rw [Snap.set_ne (Ne.symm hne),hl'] at e;cases e) (fun o e=>by injection e with e;subst e;rfl),
        Snap.cell_set (fun o e=>by rw [hD] at e;cases e) (fun o e=>by injection e with e;subst e;rfl)]
      exact hx
    obtain ⟨r',hr1,hr2,hk⟩:=k _ _ _ v σ' A' h5 h0D h0l hσD hcle hle
    have hfin:=hw'.swap (w':=w'.putObj (w.alloc (.deferred (some []))).heap.size (.loop { r' with state:=.exhausted })) none (hw'.sealed _ _ hr1) rfl h0l (hw'.own_of hr1 h0l) rfl rfl rfl (by simp) (fun c hc=>World.putObj_heap_other hc) fun _ e=>(by cases e)
    refine ⟨r'.pending,_,run_endLoop (hw'.sealed _ _ hr1) hr2,?_⟩
    generalize w'.putObj (w.alloc (.deferred (some []))).heap.size (.loop { r' with state:=.exhausted })=wf at hfin
    have ha2:StA ⟨P,w0,σ0,M,N,markD w.heap.size::ds,none⟩ env β { a with defers:=[markD w.heap.size]++a.defers }:=⟨ha.size,by show _++a.defers=_;rw [ha.defers];rfl,ha.env⟩
    cases hp':r'.pending with
    | none =>
      rw [hp'] at hk
      exact hk.run hb _ β _ ha2 (hfin.re _ _ _)
    | some c =>
      rw [hp'] at hk
      exact hk.run hb _ β _ ha2 (hfin.re _ _ _)
theorem enter_m {P:Program} {f:FuncId} {fn:Func} {c:Code} {args:Array Value} {w:World} {M:Nat->Prop} {σ0 σ:Snap} {R:Ending->World->Prop}
    (hf:P.funcs[f]?=some fn) (hb:fn.body=some c) (svs:List SV) (A:List AE) (hargs:args=(svs.map (SV.den β0)).toArray) (hN:Nat.ble svs.length fn.ntmps=true)
    (hlt:LtAll svs) (hw:StW ⟨P,w,σ0,M,fn.ntmps,[],none⟩ σ [] A β0 w)
    (h:CJ ⟨P,w,σ0,M,fn.ntmps,[],none⟩ c (bodyPostM (FR none) 0 P fn R) σ (argEnv 0 svs) [] A 0):Calls P f args w R:=by
  have hN:=Nat.le_of_ble_eq_true hN
  have hlt:=hlt.of
  refine callsIn_FR.1 (callsIn_of_wp_marks (F:=FR none) (n:=0) hf hb trivial (h.run ⟨fun i x hx=>?_,fun _ _ _ h=>by cases h⟩ _ β0 w ⟨?_,rfl,fun i x hx=>?_⟩ hw))
  · obtain ⟨_,h2⟩:=argEnv_get svs 0 i x hx
    exact hlt x (List.mem_of_getElem? h2)
  · subst hargs
    simp only [Array.size_append,List.size_toArray,List.length_map,Array.size_replicate]
    omega
  · obtain ⟨_,h2⟩:=argEnv_get svs 0 i x hx
    simp only [Nat.sub_zero] at h2
    subst hargs
    rw [Array.getElem?_append_left (by simp;exact (List.getElem?_eq_some_iff.1 h2).1)]
    simp [h2]
theorem enter_mp {P:Program} {f:FuncId} {fn:Func} {c:Code} {svs:List SV} {σ:Snap} {Φ:Value->Prop}
    (hf:P.funcs[f]?=some fn) (hb:fn.body=some c) (hN:Nat.ble svs.length fn.ntmps=true) (hlt:LtAll svs)
    (h:∀ w,CJ ⟨P,w,σ,fun _=>False,fn.ntmps,[],none⟩ c (bodyPostM (FR none) 0 P fn (postR w (fun _=>False) σ (fun v _ _=>Φ v))) σ (argEnv 0 svs) [] [] 0):PlainS P f svs σ Φ :=
  fun w hs=>enter_m hf hb svs [] rfl hN hlt (StW.start hs β0) (h w)
section
variable {P:Program} {w0:World} {σ0:Snap} {M:Nat->Prop} {N:Nat} {T:List (Nat×TI)} {fn:Func} {Post:Value->World->Snap->Prop} {σ:Snap} {env:Env} {hp:HP} {A:List AE} {nh:Nat} {xs:List S1}
theorem nj_mret0 (hT:TTok P T) (hr:resL T env hp fn.results.toList=some xs) (h:∀ β w,Bd env hp nh->StW ⟨P,w0,σ0,M,N,[],none⟩ σ hp A β w->Post ((resSV xs).den β) w σ) :
    NJ ⟨P,w0,σ0,M,N,[],none⟩ .ret (bodyPostM (FR none) 0 P fn (postR w0 M σ0 Post)) σ env hp A nh:=⟨fun hb a β w ha hw=>by
  show LeavesInM (FR none) 0 P fn a.tmps _ a.defers .returning w
  rw [ha.defers]
  exact ⟨_,results_ok (cf:=⟨P,w0,σ0,M,N,[],none⟩) hT ha hb hw hr,_,σ,rfl,Fr.of hw,SGrow.of hw,hw.sealed,h β w hb hw⟩⟩
end
def AllS1 (n:Nat):List S1->Prop
  | []=>True
  | x::l=>x.lt n/\AllS1 n l
theorem SV.lt_tup {n:Nat}:∀ {l:List S1},AllS1 n l->(SV.tup l).lt n
  | [],_=>fun _ h=>(by cases h)
  | y::l,h=>fun x hx=>by
    cases hx with
    | head=>exact h.1
    | tail _ hx=>exact SV.lt_tup h.2 x hx
end Go.Sy
/- More rules: values in other words; regions whose stores may come among their reads. No program in sight. -/
namespace Go.Sy
section
variable {cf:Cf} {Q:Exit->Act->World->Prop} {σ:Snap} {env:Env} {hp:HP} {A:List AE} {nh:Nat} {it:Item} {rest:List Item}
theorem StA.set {β:Nat->Addr} {a:Act} (t:Nat) {x y:SV} (h:env.get t=some x) (hxy:x.den β=y.den β) (ha:StA cf env β a):StA cf ((t,y)::env) β a:=by
  refine ⟨ha.size,ha.defers,fun i z hz=>?_⟩
  rw [Env.get_cons] at hz
  by_cases hi:t=i
  · rw [if_pos hi] at hz
    injection hz with hz
    subst hz;subst hi
    rw [<-hxy];exact ha.env t _ h
  · rw [if_neg hi] at hz;exact ha.env i z hz
theorem nj_set {e:Exit} (t:Nat) {x:SV} (y:SV) (h:env.get t=some x) (hy:y.lt nh) (hxy:∀ β,x.den β=y.den β) (k:NJ cf e Q σ ((t,y)::env) hp A nh):NJ cf e Q σ env hp A nh :=
  ⟨fun hb a β w ha hw=>k.run (hb.put hy t) a β w (ha.set t h (hxy β)) hw⟩
theorem cj_set {c:Code} (t:Nat) {x:SV} (y:SV) (h:env.get t=some x) (hy:y.lt nh) (hxy:∀ β,x.den β=y.den β) (k:CJ cf c Q σ ((t,y)::env) hp A nh):CJ cf c Q σ env hp A nh :=
  ⟨fun hb a β w ha hw=>k.run (hb.put hy t) a β w (ha.set t h (hxy β)) hw⟩
structure OW (cf:Cf) (l:List Item) (Q:Exit->Act->World->Prop) (W:(Nat->Addr)->World->Prop) (σ:Snap) (env:Env) (hp:HP) (A:List AE) (nh:Nat):Prop where
  run:Bd env hp nh->∀ a β,StA cf env β a->(∃ w,StW cf σ hp A β w)->RunT cf.P Q l (W β) (fun w=>StW cf σ hp A β w) a
variable {W:(Nat->Addr)->World->Prop}
theorem cj_drawW {id:Nat} {ops:Array Oper} (l:List (Nat×Tag)) (W:(Nat->Addr)->World->Prop) (hW:∀ β w,StW cf σ hp A β w->W β w) (hm:cf.P.follows .mixedOrders=true) (hB:orderOk ops l=true)
    (h:OW cf (itemsOf ops l) Q W σ env hp A nh) (hd:okRd cf.rd ops=true:=by rfl):CJ cf (.region id ops true) Q σ env hp A nh :=
  ⟨fun hb a β _ ha hw=>wp_of_order l hm hB hd (fun x hx=>hW β x hx) hw.drew (h.run hb a β ha ⟨_,hw⟩)⟩
def noQuiet:List Item->Bool
  | []=>true
  | it::l=>(match it.tag with | .quiet=>false | _=>true)&&noQuiet l
theorem run_wider {P:Program} {E E':World->Prop} (hE:∀ w,E w->E' w):∀ (l:List Item) (S:World->Prop) (a:Act),noQuiet l=true->RunT P Q l E S a->RunT P Q l E' S a
  | [],_,_,_,h=>h
  | it::l,S,a,hq,h=>by
    simp only [noQuiet,Bool.and_eq_true] at hq
    simp only [RunT] at h ⊢
    split
    · rename_i hw
      rw [if_pos hw] at h
      cases htag:it.tag with
      | quiet=>rw [htag] at hq;cases hq.1
      | pure =>
        rw [htag] at h
        obtain ⟨v,h1,h2⟩:=h
        exact ⟨v,h1,run_wider hE l S _ hq.2 h2⟩
      | keep =>
        rw [htag] at h
        exact fun w hS=>wq_mono (fun a' w' ⟨E1,S1,h1,h2,h3,h4⟩=>⟨E1,S1,h1,h2,fun x hx=>hE x (h3 x hx),h4⟩) (h w hS)
      | sink=>rw [htag] at h;exact h
      | free=>rw [htag] at h;exact h
    · rename_i hw
      rw [if_neg hw] at h
      exact run_wider hE l S _ hq.2 h
theorem ow_end {l:List Item} (hq:noQuiet l=true) (hW:∀ β w,StW cf σ hp A β w->W β w) (h:OJ cf l Q σ env hp A nh):OW cf l Q W σ env hp A nh :=
  ⟨fun hb a β ha hex=>run_wider (E:=fun w=>StW cf σ hp A β w) (fun w hw=>hW β w hw) l _ a hq (h.run hb a β ha hex)⟩
theorem ow_val {d:Nat} (y:SV) (hd:it.o.dst=some d) (hg:guardVal it.guard env=some true) (hN:Nat.blt d cf.N=true) (hlt:y.lt nh)
    (hrun:Bd env hp nh->∀ a β,StA cf env β a->match it.tag with
      | .pure=>∀ w,(execOp a.eval it.o).run cf.P w=.ok (.value (y.den β)) w
      | .quiet=>∀ w,W β w->(execOp a.eval it.o).run cf.P w=.ok (.value (y.den β)) w
      | _=>False) (k:OW cf rest Q W σ ((d,y)::env) hp A nh):OW cf (it::rest) Q W σ env hp A nh:=by
  refine ⟨fun hb a β ha hex=>?_⟩
  have hN':d<cf.N:=by simpa [Nat.blt_eq] using hN
  have h':=k.run (hb.put hlt d) (a.put (some d) (y.den β)) β (ha.put hN' y) hex
  have hrun:=hrun hb a β ha
  simp only [RunT]
  rw [if_pos (guardVal_ok ha hg),hd]
  cases htag:it.tag with
  | pure=>rw [htag] at hrun;exact ⟨_,fun w=>.inl (hrun w),h'⟩
  | quiet=>rw [htag] at hrun;exact ⟨_,fun w hw=>.inl (hrun w hw),h'⟩
  | keep=>rw [htag] at hrun;exact hrun.elim
  | sink=>rw [htag] at hrun;exact hrun.elim
  | free=>rw [htag] at hrun;exact hrun.elim
theorem ow_pure {d:Nat} {T:List (Nat×TI)} (hT:TTok cf.P T) {x:SV} (h:stepOp T it.o.op env hp nh=some (.val x)) (hl:isLoad it.o.op=false) (hp':isPure it.tag=true) (hd:it.o.dst=some d) (hg:guardVal it.guard env=some true) (hN:Nat.blt d cf.N=true)
    (k:OW cf rest Q W σ ((d,x)::env) hp A nh):OW cf (it::rest) Q W σ env hp A nh:=by
  refine ⟨fun hb a β ha hex=>?_⟩
  have hN':d<cf.N:=by simpa [Nat.blt_eq] using hN
  obtain ⟨hx,hrun⟩:=step_ok (o:=it.o) hT ha hb h
  have h':=k.run (hb.put hx d) (a.put (some d) (x.den β)) β (ha.put hN' x) hex
  simp only [RunT]
  rw [if_pos (guardVal_ok ha hg),hd]
  cases htag:it.tag with
  | pure=>exact ⟨_,fun w=>.inl (hrun w (fun hc=>by rw [hl] at hc;cases hc)),h'⟩
  | _=>rw [htag] at hp';cases hp'
theorem ow_load {d:Nat} {T:List (Nat×TI)} (hT:TTok cf.P T) {x:SV} (hpW:HP) (AW:List AE) (hsub:subH hpW hp) (hW:∀ β w,W β w->StW cf σ hpW AW β w) (h:stepOp T it.o.op env hpW nh=some (.val x)) (hq:(match it.tag with | .quiet=>true | _=>false)=true) (hd:it.o.dst=some d) (hg:guardVal it.guard env=some true) (hN:Nat.blt d cf.N=true)
    (k:OW cf rest Q W σ ((d,x)::env) hp A nh):OW cf (it::rest) Q W σ env hp A nh:=by
  refine ⟨fun hb a β ha hex=>?_⟩
  have hN':d<cf.N:=by simpa [Nat.blt_eq] using hN
  obtain ⟨hx,hrun⟩:=step_ok (o:=it.o) hT ha (hb.sub (fun _ _ h=>h) hsub) h
  have h':=k.run (hb.put hx d) (a.put (some d) (x.den β)) β (ha.put hN' x) hex
  simp only [RunT]
  rw [if_pos (guardVal_ok ha hg),hd]
  cases htag:it.tag with
  | quiet=>exact ⟨_,fun w hw=>.inl (hrun w (fun _=>⟨σ,AW,hW β w hw⟩)),h'⟩
  | _=>rw [htag] at hq;cases hq
theorem ow_put {T:List (Nat×TI)} (hT:TTok cf.P T) {i:Nat} {e:TypeId} {cs:List AT} (h:stepOp T it.o.op env hp nh=some (.put i e cs)) (hk:(match it.tag with | .keep=>true | _=>false)=true) (hd:it.o.dst=none) (hg:guardVal it.guard env=some true)
    (hW:∀ β w,StW cf σ ((i,.loc e,cs)::hp) A β w->W β w) (k:OW cf rest Q W σ env ((i,.loc e,cs)::hp) A nh):OW cf (it::rest) Q W σ env hp A nh:=by
  refine ⟨fun hb a β ha hex=>?_⟩
  obtain ⟨hcs,⟨cs0,hi⟩,hrun⟩:=step_ok (o:=it.o) hT ha hb h
  simp only [RunT]
  rw [if_pos (guardVal_ok ha hg),hd]
  cases htag:it.tag with
  | keep =>
    refine fun w hw=>?_
    unfold Oper.wq
    rw [hrun σ A w hw]
    have hw':=hw.store (cs:=cs) hi
    refine ⟨W β,_,hw',fun x hx=>hW β x hx,fun _ h=>h,?_⟩
    rw [hd]
    exact k.run (hb.row (hb.hp i _ _ hi).1 hcs) a β ha ⟨_,hw'⟩
  | _=>rw [htag] at hk;cases hk
theorem ow_call {d:Nat} {f:FuncId} {ys:List SV} {Φ:Value->Snap->List AE->Prop} (is:List Nat) {A0 Ar:List AE} (hA:reA is A=A0++Ar) (hn:nodupB is=true)
    (hc:callee env it.o.op=some (f,ys)) (hd:it.o.dst=some d) (hg:guardVal it.guard env=some true)
    (hN:Nat.blt d cf.N=true) (hk:(match it.tag with | .keep=>true | _=>false)=true) (hcall:∀ args w,(callFunc f args).run cf.P w=.ok (.enter f args) w) (hlt:LtAll ys)
    (hC:FnS cf.P f ys σ A0 Φ)
    (k:∀ v σ' A',σ.le σ'->Φ v σ' A'->(∀ β w,StW cf σ' hp (A'++Ar) β w->W β w)/\∃ y:SV,y.lt 0/\y.den β0=v/\OW cf rest Q W σ' ((d,y)::env) hp (A'++Ar) nh):OW cf (it::rest) Q W σ env hp A nh:=by
  refine ⟨fun hb a β ha hex=>?_⟩
  have hN':d<cf.N:=by simpa [Nat.blt_eq] using hN
  have den0:∀ {y:SV},y.lt 0->y.den β=y.den β0:=fun hy=>SV.den_congr (n:=0) (fun i hi=>by omega) hy
  have hargs:(ys.map (SV.den β)).toArray=(ys.map (SV.den β0)).toArray:=by
    rw [List.map_congr_left fun y hy=>den0 (hlt.of y hy)]
  simp only [RunT]
  rw [if_pos (guardVal_ok ha hg)]
  cases htag:it.tag with
  | keep =>
    intro w hw
    have hw2:StW cf σ hp (A0++Ar) β w:=by rw [<-hA];exact hw.reA hn
    unfold Oper.wq
    rw [callee_ok ha hc hcall]
    simp only [Oper.uponIn]
    rw [hargs]
    refine ⟨fun h=>(by cases h),CallsIn.mono (callsIn_FR.2 (hC w hw2.handIn)) fun e w' ⟨v,σ',he,h1,h2,h3,A',h4,h5⟩=>?_⟩
    subst he
    obtain ⟨hW,y,hy,hyv,hk⟩:=k v σ' A' h2.le h4
    have hw':=hw2.through h5
    refine ⟨W β,_,hw',fun x hx=>hW β x hx,fun _ h=>h,?_⟩
    have:=hk.run (hb.put (SV.lt_mono (Nat.zero_le _) hy) d) (a.put (some d) (y.den β)) β (ha.put hN' y) ⟨_,hw'⟩
    rw [hd,<-hyv,<-den0 hy]
    exact this
  | _=>rw [htag] at hk;cases hk
end
theorem SV.lt_fn0 {n:Nat} {f:Fn}:(SV.a (.fn f [])).lt n:=fun _ h=>(by cases h)
theorem nj_nilarr {cf:Cf} {Q:Exit->Act->World->Prop} {σ:Snap} {env:Env} {hp:HP} {A:List AE} {nh:Nat} {ex:Exit} (e sz:Nat) (h:NJ cf ex Q σ env hp (A++[⟨none,0,0,e,sz,[]⟩]) nh):NJ cf ex Q σ env hp A nh :=
  ⟨fun hb a β w ha hw=>h.run hb a β w ha ((StW.nilArr e sz).1 hw)⟩
end Go.Sy
namespace Go.Sy
open Go.Proofs
def tt:List (Nat×TI):=[
  (1,⟨1,false,[.v .nilFunc],[],.func,8⟩),
  (2,⟨1,false,[.v (.int .i64 0)],[],.int .i64,8⟩),
  (3,⟨1,false,[.v (.int .i64 0)],[],.int .i64,8⟩),
  (4,⟨1,false,[.ff],[],.bool,1⟩),
  (5,⟨1,false,[.v (.int .u8 0)],[],.int .u8,1⟩),
  (6,⟨1,false,[.v (.int .u8 0)],[],.int .u8,1⟩),
  (7,⟨4,true,[.v (.int .i64 0),.v (.int .i64 0),.ff,.v (.int .u8 0)],[(0,1,some false),(1,1,some false),(2,1,some false),(3,1,some false)],.struct,24⟩),
  (8,⟨4,true,[.v (.int .i64 0),.v (.int .i64 0),.ff,.v (.int .u8 0)],[(0,1,some false),(1,1,some false),(2,1,some false),(3,1,some false)],.struct,24⟩),
  (9,⟨1,false,[.v (.string ⟨#[]⟩)],[],.str,16⟩),
  (10,⟨1,false,[.v (.string ⟨#[]⟩)],[],.str,16⟩),
  (11,⟨1,false,[.v (.string ⟨#[]⟩)],[],.str,16⟩),
  (12,⟨1,false,[.v (.int .u64 0)],[],.int .u64,8⟩),
  (13,⟨2,true,[.v (.string ⟨#[]⟩),.v (.int .u64 0)],[(0,1,some false),(1,1,some false)],.struct,24⟩),
  (14,⟨2,true,[.v (.string ⟨#[]⟩),.v (.int .u64 0)],[(0,1,some false),(1,1,some false)],.struct,24⟩),
  (15,⟨1,false,[.v (.pointer none)],[],.ptr 384,8⟩),
  (16,⟨1,false,[.v (.pointer none)],[],.ptr 387,8⟩),
  (17,⟨1,false,[.v (.pointer none)],[],.ptr 394,8⟩),
  (18,⟨1,true,[.v (.pointer none)],[(0,1,some false)],.struct,8⟩),
  (19,⟨1,true,[.v (.pointer none)],[(0,1,some false)],.struct,8⟩),
  (20,⟨1,false,[.v .nilIface],[],.iface,16⟩),
  (21,⟨1,false,[.v (.int .i32 0)],[],.int .i32,4⟩),
  (24,⟨3,true,[.ff,.v (.string ⟨#[]⟩),.v (.int .i64 0)],[(0,1,some false),(1,1,some false),(2,1,some false)],.struct,32⟩),
  (25,⟨1,false,[.v (.slice none 0 0)],[],.slice 28,24⟩),
  (26,⟨1,false,[.v (.slice none 0 0)],[],.slice 184,24⟩),
  (28,⟨8,true,[.v (.int .i64 0),.ff,.ff,.v (.string ⟨#[]⟩),.v (.int .i64 0),.v (.string ⟨#[]⟩),.v (.slice none 0 0),.v (.slice none 0 0)],[(0,1,some false),(1,1,some false),(2,3,some true),(5,1,some false),(6,1,some false),(7,1,some false)],.struct,112⟩),
  (32,⟨1,false,[.v (.slice none 0 0)],[],.slice 130,24⟩),
  (36,⟨1,false,[.v (.int .i64 0)],[],.int .i64,8⟩),
  (54,⟨1,false,[.v (.slice none 0 0)],[],.slice 90,24⟩),
  (55,⟨1,false,[.v (.slice none 0 0)],[],.slice 211,24⟩),
  (57,⟨2,true,[.v (.slice none 0 0),.v (.int .i64 0)],[(0,1,some false),(1,1,some false)],.struct,32⟩),
  (58,⟨1,false,[.v (.slice none 0 0)],[],.slice 74,24⟩),
  (60,⟨4,true,[.v (.slice none 0 0),.v (.slice none 0 0),.v (.int .i64 0),.v (.slice none 0 0)],[(0,1,some false),(1,2,some true),(3,1,some false)],.struct,80⟩),
  (62,⟨1,false,[.v (.slice none 0 0)],[],.slice 71,24⟩),
  (70,⟨5,true,[.v (.int .i64 0),.v (.int .i64 0),.v (.int .i64 0),.v (.int .i64 0),.v (.int .i64 0)],[(0,1,some false),(1,1,some false),(2,1,some false),(3,1,some false),(4,1,some false)],.struct,40⟩),
  (71,⟨5,true,[.v (.int .i64 0),.v (.int .i64 0),.v (.int .i64 0),.v (.int .i64 0),.v (.int .i64 0)],[(0,1,some false),(1,1,some false),(2,1,some false),(3,1,some false),(4,1,some false)],.struct,40⟩),
  (74,⟨1,false,[.v (.slice none 0 0)],[],.slice 3,24⟩),
  (90,⟨2,true,[.v (.int .i64 0),.v (.slice none 0 0)],[(0,1,some false),(1,1,some false)],.struct,32⟩),
  (94,⟨1,false,[.v (.slice none 0 0)],[],.slice 122,24⟩),
  (99,⟨7,true,[.v (.int .i64 0),.ff,.ff,.v (.string ⟨#[]⟩),.v (.int .i64 0),.v (.string ⟨#[]⟩),.v (.int .i64 0)],[(0,1,some false),(1,1,some false),(2,3,some true),(5,1,some false),(6,1,some false)],.struct,72⟩),
  (122,⟨5,true,[.v (.int .i64 0),.v (.int .i64 0),.v (.int .i64 0),.v (.int .i64 0),.v (.int .i64 0)],[(0,1,some false),(1,1,some false),(2,1,some false),(3,1,some false),(4,1,some false)],.struct,40⟩),
  (130,⟨11,true,[.v (.int .i64 0),.v (.int .i64 0),.v (.int .i64 0),.v (.int .i64 0),.ff,.v (.string ⟨#[]⟩),.ff,.ff,.v (.string ⟨#[]⟩),.v (.int .i64 0),.v (.string ⟨#[]⟩)],[(0,1,some false),(1,1,some false),(2,1,some false),(3,1,some false),(4,1,some false),(5,1,some false),(6,1,some false),(7,3,some true),(10,1,some false)],.struct,112⟩),
  (149,⟨1,false,[.v (.slice none 0 0)],[],.slice 5,24⟩),
  (165,⟨1,false,[.v .nilFunc],[],.func,8⟩),
  (181,⟨1,false,[.v .nilFunc],[],.func,8⟩),
  (184,⟨9,true,[.v (.string ⟨#[]⟩),.v (.int .i64 0),.ff,.ff,.v (.string ⟨#[]⟩),.v (.int .i64 0),.v (.string ⟨#[]⟩),.v (.slice none 0 0),.v (.slice none 0 0)],[(0,1,some false),(1,8,some true)],.struct,128⟩),
  (191,⟨1,false,[.v (.pointer none)],[],.ptr 193,8⟩),
  (193,⟨3,true,[.v (.slice none 0 0),.v (.int .i64 0),.v (.int .i64 0)],[(0,1,some false),(1,1,some false),(2,1,some false)],.struct,40⟩),
  (198,⟨1,false,[.v (.slice none 0 0)],[],.slice 209,24⟩),
  (209,⟨1,false,[.v (.slice none 0 0)],[],.slice 9,24⟩),
  (211,⟨3,true,[.v (.int .i64 0),.v (.slice none 0 0),.v (.int .i64 0)],[(0,1,some false),(1,1,some false),(2,1,some false)],.struct,40⟩),
  (217,⟨1,false,[.v (.slice none 0 0)],[],.slice 220,24⟩),
  (220,⟨6,true,[.v (.slice none 0 0),.v (.int .i64 0),.v (.int .i64 0),.v (.int .i64 0),.v (.int .i64 0),.v (.int .i64 0)],[(0,1,some false),(1,5,some true)],.struct,64⟩),
  (222,⟨1,false,[.v .nilFunc],[],.func,8⟩),
  (239,⟨1,false,[.v (.pointer none)],[],.ptr 241,8⟩),
  (241,⟨1,true,[.v (.int .i64 0)],[(0,1,some false)],.struct,8⟩),
  (253,⟨1,false,[.v (.pointer none)],[],.ptr 255,8⟩),
  (255,⟨2,true,[.v (.slice none 0 0),.v (.int .i64 0)],[(0,1,some false),(1,1,some false)],.struct,32⟩),
  (274,⟨1,false,[.v .nilFunc],[],.func,8⟩),
  (287,⟨1,false,[.v .nilFunc],[],.func,8⟩),
  (289,⟨1,false,[.v (.slice none 0 0)],[],.slice 99,24⟩),
  (315,⟨1,false,[.v .nilFunc],[],.func,8⟩),
  (318,⟨1,false,[.v (.int .u64 0)],[],.int .u64,8⟩),
  (333,⟨1,false,[.v .nilFunc],[],.func,8⟩),
  (334,⟨1,false,[.v (.map none)],[],.map 9 4,8⟩),
  (336,⟨3,true,[.v (.int .u8 0),.v (.int .u8 0),.v (.int .i32 0)],[(0,1,some false),(1,1,some false),(2,1,some false)],.struct,8⟩),
  (337,⟨12,true,[.v (.int .u8 0),.v (.int .u8 0),.v (.int .i32 0),.v (.int .u8 0),.v (.int .u8 0),.v (.int .i32 0),.v (.int .u8 0),.v (.int .u8 0),.v (.int .i32 0),.v (.int .u8 0),.v (.int .u8 0),.v (.int .i32 0)],[],.array 4 336,32⟩),
  (340,⟨1,false,[.v .nilFunc],[],.func,8⟩),
  (354,⟨256,true,List.replicate 256 .ff,[],.array 256 4,256⟩),
  (358,⟨1,false,[.v (.pointer none)],[],.ptr 354,8⟩),
  (360,⟨1,false,[.v (.pointer none)],[],.ptr 362,8⟩),
  (362,⟨2,true,[.v (.pointer none),.v (.slice none 0 0)],[(0,1,some false),(1,1,some false)],.struct,32⟩),
  (364,⟨1,false,[.v .nilIface],[],.iface,16⟩),
  (372,⟨1,false,[.v (.pointer none)],[],.ptr 5,8⟩),
  (374,⟨1,false,[.v (.pointer none)],[],.other,8⟩),
  (378,⟨2,true,[.v (.int .u8 0),.v (.int .u8 0)],[(0,1,some false),(1,1,some false)],.struct,2⟩),
  (379,⟨32,true,[.v (.int .u8 0),.v (.int .u8 0),.v (.int .u8 0),.v (.int .u8 0),.v (.int .u8 0),.v (.int .u8 0),.v (.int .u8 0),.v (.int .u8 0),.v (.int .u8 0),.v (.int .u8 0),.v (.int .u8 0),.v (.int .u8 0),.v (.int .u8 0),.v (.int .u8 0),.v (.int .u8 0),.v (.int .u8 0),.v (.int .u8 0),.v (.int .u8 0),.v (.int .u8 0),.v (.int .u8 0),.v (.int .u8 0),.v (.int .u8 0),.v (.int .u8 0),.v (.int .u8 0),.v (.int .u8 0),.v (.int .u8 0),.v (.int .u8 0),.v (.int .u8 0),.v (.int .u8 0),.v (.int .u8 0),.v (.int .u8 0),.v (.int .u8 0)],[],.array 16 378,32⟩),
  (380,⟨1,false,[.v (.int .u32 0)],[],.int .u32,4⟩)
]
theorem tt1:tiOf Tryz.prog 1=some ⟨1,false,[.v .nilFunc],[],.func,8⟩:=by kernel_rfl
theorem tt2:tiOf Tryz.prog 2=some ⟨1,false,[.v (.int .i64 0)],[],.int .i64,8⟩:=by kernel_rfl
theorem tt3:tiOf Tryz.prog 3=some ⟨1,false,[.v (.int .i64 0)],[],.int .i64,8⟩:=by kernel_rfl
theorem tt4:tiOf Tryz.prog 4=some ⟨1,false,[.ff],[],.bool,1⟩:=by kernel_rfl
theorem tt5:tiOf Tryz.prog 5=some ⟨1,false,[.v (.int .u8 0)],[],.int .u8,1⟩:=by kernel_rfl
theorem tt6:tiOf Tryz.prog 6=some ⟨1,false,[.v (.int .u8 0)],[],.int .u8,1⟩:=by kernel_rfl
theorem tt7:tiOf Tryz.prog 7=some ⟨4,true,[.v (.int .i64 0),.v (.int .i64 0),.ff,.v (.int .u8 0)],[(0,1,some false),(1,1,some false),(2,1,some false),(3,1,some false)],.struct,24⟩:=by kernel_rfl
theorem tt8:tiOf Tryz.prog 8=some ⟨4,true,[.v (.int .i64 0),.v (.int .i64 0),.ff,.v (.int .u8 0)],[(0,1,some false),(1,1,some false),(2,1,some false),(3,1,some false)],.struct,24⟩:=by kernel_rfl
theorem tt9:tiOf Tryz.prog 9=some ⟨1,false,[.v (.string ⟨#[]⟩)],[],.str,16⟩:=by kernel_rfl
theorem tt10:tiOf Tryz.prog 10=some ⟨1,false,[.v (.string ⟨#[]⟩)],[],.str,16⟩:=by kernel_rfl
theorem tt11:tiOf Tryz.prog 11=some ⟨1,false,[.v (.string ⟨#[]⟩)],[],.str,16⟩:=by kernel_rfl
theorem tt12:tiOf Tryz.prog 12=some ⟨1,false,[.v (.int .u64 0)],[],.int .u64,8⟩:=by kernel_rfl
theorem tt13:tiOf Tryz.prog 13=some ⟨2,true,[.v (.string ⟨#[]⟩),.v (.int .u64 0)],[(0,1,some false),(1,1,some false)],.struct,24⟩:=by kernel_rfl
theorem tt14:tiOf Tryz.prog 14=some ⟨2,true,[.v (.string ⟨#[]⟩),.v (.int .u64 0)],[(0,1,some false),(1,1,some false)],.struct,24⟩:=by kernel_rfl
theorem tt15:tiOf Tryz.prog 15=some ⟨1,false,[.v (.pointer none)],[],.ptr 384,8⟩:=by kernel_rfl
theorem tt16:tiOf Tryz.prog 16=some ⟨1,false,[.v (.pointer none)],[],.ptr 387,8⟩:=by kernel_rfl
theorem tt17:tiOf Tryz.prog 17=some ⟨1,false,[.v (.pointer none)],[],.ptr 394,8⟩:=by kernel_rfl
theorem tt18:tiOf Tryz.prog 18=some ⟨1,true,[.v (.pointer none)],[(0,1,some false)],.struct,8⟩:=by kernel_rfl
theorem tt19:tiOf Tryz.prog 19=some ⟨1,true,[.v (.pointer none)],[(0,1,some false)],.struct,8⟩:=by kernel_rfl
theorem tt20:tiOf Tryz.prog 20=some ⟨1,false,[.v .nilIface],[],.iface,16⟩:=by kernel_rfl
theorem tt21:tiOf Tryz.prog 21=some ⟨1,false,[.v (.int .i32 0)],[],.int .i32,4⟩:=by kernel_rfl
theorem tt24:tiOf Tryz.prog 24=some ⟨3,true,[.ff,.v (.string ⟨#[]⟩),.v (.int .i64 0)],[(0,1,some false),(1,1,some false),(2,1,some false)],.struct,32⟩:=by kernel_rfl
theorem tt25:tiOf Tryz.prog 25=some ⟨1,false,[.v (.slice none 0 0)],[],.slice 28,24⟩:=by kernel_rfl
theorem tt26:tiOf Tryz.prog 26=some ⟨1,false,[.v (.slice none 0 0)],[],.slice 184,24⟩:=by kernel_rfl
theorem tt28:tiOf Tryz.prog 28=some ⟨8,true,[.v (.int .i64 0),.ff,.ff,.v (.string ⟨#[]⟩),.v (.int .i64 0),.v (.string ⟨#[]⟩),.v (.slice none 0 0),.v (.slice none 0 0)],[(0,1,some false),(1,1,some false),(2,3,some true),(5,1,some false),(6,1,some false),(7,1,some false)],.struct,112⟩:=by kernel_rfl
theorem tt32:tiOf Tryz.prog 32=some ⟨1,false,[.v (.slice none 0 0)],[],.slice 130,24⟩:=by kernel_rfl
theorem tt36:tiOf Tryz.prog 36=some ⟨1,false,[.v (.int .i64 0)],[],.int .i64,8⟩:=by kernel_rfl
theorem tt54:tiOf Tryz.prog 54=some ⟨1,false,[.v (.slice none 0 0)],[],.slice 90,24⟩:=by kernel_rfl
theorem tt55:tiOf Tryz.prog 55=some ⟨1,false,[.v (.slice none 0 0)],[],.slice 211,24⟩:=by kernel_rfl
theorem tt57:tiOf Tryz.prog 57=some ⟨2,true,[.v (.slice none 0 0),.v (.int .i64 0)],[(0,1,some false),(1,1,some false)],.struct,32⟩:=by kernel_rfl
theorem tt58:tiOf Tryz.prog 58=some ⟨1,false,[.v (.slice none 0 0)],[],.slice 74,24⟩:=by kernel_rfl
theorem tt60:tiOf Tryz.prog 60=some ⟨4,true,[.v (.slice none 0 0),.v (.slice none 0 0),.v (.int .i64 0),.v (.slice none 0 0)],[(0,1,some false),(1,2,some true),(3,1,some false)],.struct,80⟩:=by kernel_rfl
theorem tt62:tiOf Tryz.prog 62=some ⟨1,false,[.v (.slice none 0 0)],[],.slice 71,24⟩:=by kernel_rfl
theorem tt70:tiOf Tryz.prog 70=some ⟨5,true,[.v (.int .i64 0),.v (.int .i64 0),.v (.int .i64 0),.v (.int .i64 0),.v (.int .i64 0)],[(0,1,some false),(1,1,some false),(2,1,some false),(3,1,some false),(4,1,some false)],.struct,40⟩:=by kernel_rfl
theorem tt71:tiOf Tryz.prog 71=some ⟨5,true,[.v (.int .i64 0),.v (.int .i64 0),.v (.int .i64 0),.v (.int .i64 0),.v (.int .i64 0)],[(0,1,some false),(1,1,some false),(2,1,some false),(3,1,some false),(4,1,some false)],.struct,40⟩:=by kernel_rfl
theorem tt74:tiOf Tryz.prog 74=some ⟨1,false,[.v (.slice none 0 0)],[],.slice 3,24⟩:=by kernel_rfl
theorem tt90:tiOf Tryz.prog 90=some ⟨2,true,[.v (.int .i64 0),.v (.slice none 0 0)],[(0,1,some false),(1,1,some false)],.struct,32⟩:=by kernel_rfl
theorem tt94:tiOf Tryz.prog 94=some ⟨1,false,[.v (.slice none 0 0)],[],.slice 122,24⟩:=by kernel_rfl
theorem tt99:tiOf Tryz.prog 99=some ⟨7,true,[.v (.int .i64 0),.ff,.ff,.v (.string ⟨#[]⟩),.v (.int .i64 0),.v (.string ⟨#[]⟩),.v (.int .i64 0)],[(0,1,some false),(1,1,some false),(2,3,some true),(5,1,some false),(6,1,some false)],.struct,72⟩:=by kernel_rfl
theorem tt122:tiOf Tryz.prog 122=some ⟨5,true,[.v (.int .i64 0),.v (.int .i64 0),.v (.int .i64 0),.v (.int .i64 0),.v (.int .i64 0)],[(0,1,some false),(1,1,some false),(2,1,some false),(3,1,some false),(4,1,some false)],.struct,40⟩:=by kernel_rfl
theorem tt130:tiOf Tryz.prog 130=some ⟨11,true,[.v (.int .i64 0),.v (.int .i64 0),.v (.int .i64 0),.v (.int .i64 0),.ff,.v (.string ⟨#[]⟩),.ff,.ff,.v (.string ⟨#[]⟩),.v (.int .i64 0),.v (.string ⟨#[]⟩)],[(0,1,some false),(1,1,some false),(2,1,some false),(3,1,some false),(4,1,some false),(5,1,some false),(6,1,some false),(7,3,some true),(10,1,some false)],.struct,112⟩:=by kernel_rfl
theorem tt149:tiOf Tryz.prog 149=some ⟨1,false,[.v (.slice none 0 0)],[],.slice 5,24⟩:=by kernel_rfl
theorem tt165:tiOf Tryz.prog 165=some ⟨1,false,[.v .nilFunc],[],.func,8⟩:=by kernel_rfl
theorem tt181:tiOf Tryz.prog 181=some ⟨1,false,[.v .nilFunc],[],.func,8⟩:=by kernel_rfl
theorem tt184:tiOf Tryz.prog 184=some ⟨9,true,[.v (.string ⟨#[]⟩),.v (.int .i64 0),.ff,.ff,.v (.string ⟨#[]⟩),.v (.int .i64 0),.v (.string ⟨#[]⟩),.v (.slice none 0 0),.v (.slice none 0 0)],[(0,1,some false),(1,8,some true)],.struct,128⟩:=by kernel_rfl
theorem tt191:tiOf Tryz.prog 191=some ⟨1,false,[.v (.pointer none)],[],.ptr 193,8⟩:=by kernel_rfl
theorem tt193:tiOf Tryz.prog 193=some ⟨3,true,[.v (.slice none 0 0),.v (.int .i64 0),.v (.int .i64 0)],[(0,1,some false),(1,1,some false),(2,1,some false)],.struct,40⟩:=by kernel_rfl
theorem tt198:tiOf Tryz.prog 198=some ⟨1,false,[.v (.slice none 0 0)],[],.slice 209,24⟩:=by kernel_rfl
theorem tt209:tiOf Tryz.prog 209=some ⟨1,false,[.v (.slice none 0 0)],[],.slice 9,24⟩:=by kernel_rfl
theorem tt211:tiOf Tryz.prog 211=some ⟨3,true,[.v (.int .i64 0),.v (.slice none 0 0),.v (.int .i64 0)],[(0,1,some false),(1,1,some false),(2,1,some false)],.struct,40⟩:=by kernel_rfl
theorem tt217:tiOf Tryz.prog 217=some ⟨1,false,[.v (.slice none 0 0)],[],.slice 220,24⟩:=by kernel_rfl
theorem tt220:tiOf Tryz.prog 220=some ⟨6,true,[.v (.slice none 0 0),.v (.int .i64 0),.v (.int .i64 0),.v (.int .i64 0),.v (.int .i64 0),.v (.int .i64 0)],[(0,1,some false),(1,5,some true)],.struct,64⟩:=by kernel_rfl
theorem tt222:tiOf Tryz.prog 222=some ⟨1,false,[.v .nilFunc],[],.func,8⟩:=by kernel_rfl
theorem tt239:tiOf Tryz.prog 239=some ⟨1,false,[.v (.pointer none)],[],.ptr 241,8⟩:=by kernel_rfl
theorem tt241:tiOf Tryz.prog 241=some ⟨1,true,[.v (.int .i64 0)],[(0,1,some false)],.struct,8⟩:=by kernel_rfl
theorem tt253:tiOf Tryz.prog 253=some ⟨1,false,[.v (.pointer none)],[],.ptr 255,8⟩:=by kernel_rfl
theorem tt255:tiOf Tryz.prog 255=some ⟨2,true,[.v (.slice none 0 0),.v (.int .i64 0)],[(0,1,some false),(1,1,some false)],.struct,32⟩:=by kernel_rfl
theorem tt274:tiOf Tryz.prog 274=some ⟨1,false,[.v .nilFunc],[],.func,8⟩:=by kernel_rfl
theorem tt287:tiOf Tryz.prog 287=some ⟨1,false,[.v .nilFunc],[],.func,8⟩:=by kernel_rfl
theorem tt289:tiOf Tryz.prog 289=some ⟨1,false,[.v (.slice none 0 0)],[],.slice 99,24⟩:=by kernel_rfl
theorem tt315:tiOf Tryz.prog 315=some ⟨1,false,[.v .nilFunc],[],.func,8⟩:=by kernel_rfl
theorem tt318:tiOf Tryz.prog 318=some ⟨1,false,[.v (.int .u64 0)],[],.int .u64,8⟩:=by kernel_rfl
theorem tt333:tiOf Tryz.prog 333=some ⟨1,false,[.v .nilFunc],[],.func,8⟩:=by kernel_rfl
theorem tt334:tiOf Tryz.prog 334=some ⟨1,false,[.v (.map none)],[],.map 9 4,8⟩:=by kernel_rfl
theorem tt336:tiOf Tryz.prog 336=some ⟨3,true,[.v (.int .u8 0),.v (.int .u8 0),.v (.int .i32 0)],[(0,1,some false),(1,1,some false),(2,1,some false)],.struct,8⟩:=by kernel_rfl
theorem tt337:tiOf Tryz.prog 337=some ⟨12,true,[.v (.int .u8 0),.v (.int .u8 0),.v (.int .i32 0),.v (.int .u8 0),.v (.int .u8 0),.v (.int .i32 0),.v (.int .u8 0),.v (.int .u8 0),.v (.int .i32 0),.v (.int .u8 0),.v (.int .u8 0),.v (.int .i32 0)],[],.array 4 336,32⟩:=by kernel_rfl
theorem tt340:tiOf Tryz.prog 340=some ⟨1,false,[.v .nilFunc],[],.func,8⟩:=by kernel_rfl
theorem tt354:tiOf Tryz.prog 354=some ⟨256,true,List.replicate 256 .ff,[],.array 256 4,256⟩:=by kernel_rfl
theorem tt358:tiOf Tryz.prog 358=some ⟨1,false,[.v (.pointer none)],[],.ptr 354,8⟩:=by kernel_rfl
theorem tt360:tiOf Tryz.prog 360=some ⟨1,false,[.v (.pointer none)],[],.ptr 362,8⟩:=by kernel_rfl
theorem tt362:tiOf Tryz.prog 362=some ⟨2,true,[.v (.pointer none),.v (.slice none 0 0)],[(0,1,some false),(1,1,some false)],.struct,32⟩:=by kernel_rfl
theorem tt364:tiOf Tryz.prog 364=some ⟨1,false,[.v .nilIface],[],.iface,16⟩:=by kernel_rfl
theorem tt372:tiOf Tryz.prog 372=some ⟨1,false,[.v (.pointer none)],[],.ptr 5,8⟩:=by kernel_rfl
theorem tt374:tiOf Tryz.prog 374=some ⟨1,false,[.v (.pointer none)],[],.other,8⟩:=by kernel_rfl
theorem tt378:tiOf Tryz.prog 378=some ⟨2,true,[.v (.int .u8 0),.v (.int .u8 0)],[(0,1,some false),(1,1,some false)],.struct,2⟩:=by kernel_rfl
theorem tt379:tiOf Tryz.prog 379=some ⟨32,true,[.v (.int .u8 0),.v (.int .u8 0),.v (.int .u8 0),.v (.int .u8 0),.v (.int .u8 0),.v (.int .u8 0),.v (.int .u8 0),.v (.int .u8 0),.v (.int .u8 0),.v (.int .u8 0),.v (.int .u8 0),.v (.int .u8 0),.v (.int .u8 0),.v (.int .u8 0),.v (.int .u8 0),.v (.int .u8 0),.v (.int .u8 0),.v (.int .u8 0),.v (.int .u8 0),.v (.int .u8 0),.v (.int .u8 0),.v (.int .u8 0),.v (.int .u8 0),.v (.int .u8 0),.v (.int .u8 0),.v (.int .u8 0),.v (.int .u8 0),.v (.int .u8 0),.v (.int .u8 0),.v (.int .u8 0),.v (.int .u8 0),.v (.int .u8 0)],[],.array 16 378,32⟩:=by kernel_rfl
theorem tt380:tiOf Tryz.prog 380=some ⟨1,false,[.v (.int .u32 0)],[],.int .u32,4⟩:=by kernel_rfl
set_option maxRecDepth 100000 in
theorem TT:TTok Tryz.prog tt:=TTok.cons tt1 (TTok.cons tt2 (TTok.cons tt3 (TTok.cons tt4 (TTok.cons tt5 (TTok.cons tt6 (TTok.cons tt7 (TTok.cons tt8 (TTok.cons tt9 (TTok.cons tt10 (TTok.cons tt11 (TTok.cons tt12 (TTok.cons tt13 (TTok.cons tt14 (TTok.cons tt15 (TTok.cons tt16 (TTok.cons tt17 (TTok.cons tt18 (TTok.cons tt19 (TTok.cons tt20 (TTok.cons tt21 (TTok.cons tt24 (TTok.cons tt25 (TTok.cons tt26 (TTok.cons tt28 (TTok.cons tt32 (TTok.cons tt36 (TTok.cons tt54 (TTok.cons tt55 (TTok.cons tt57 (TTok.cons tt58 (TTok.cons tt60 (TTok.cons tt62 (TTok.cons tt70 (TTok.cons tt71 (TTok.cons tt74 (TTok.cons tt90 (TTok.cons tt94 (TTok.cons tt99 (TTok.cons tt122 (TTok.cons tt130 (TTok.cons tt149 (TTok.cons tt165 (TTok.cons tt181 (TTok.cons tt184 (TTok.cons tt191 (TTok.cons tt193 (TTok.cons tt198 (TTok.cons tt209 (TTok.cons tt211 (TTok.cons tt217 (TTok.cons tt220 (TTok.cons tt222 (TTok.cons tt239 (TTok.cons tt241 (TTok.cons tt253 (TTok.cons tt255 (TTok.cons tt274 (TTok.cons tt287 (TTok.cons tt289 (TTok.cons tt315 (TTok.cons tt318 (TTok.cons tt333 (TTok.cons tt334 (TTok.cons tt336 (TTok.cons tt337 (TTok.cons tt340 (TTok.cons tt354 (TTok.cons tt358 (TTok.cons tt360 (TTok.cons tt362 (TTok.cons tt364 (TTok.cons tt372 (TTok.cons tt374 (TTok.cons tt378 (TTok.cons tt379 (TTok.cons tt380 (TTok.nil _)))))))))))))))))))))))))))))))))))))))))))))))))))))))))))))))))))))))))))))
end Go.Sy
namespace Go.Sy
open Go.Proofs
theorem mixed:Tryz.prog.follows .mixedOrders=true:=by kernel_rfl
set_option maxRecDepth 100000 in
set_option maxHeartbeats 1000000 in
theorem few_c (σ:Snap) (g:GVal):∀ (r:List AT) (left deep:Int),RepV σ g r -> -281474976710656<=left->left<=1099511627776->0<=deep->deep<=1000 ->
    PlainS Tryz.prog 57 [.agg r,.a (.v (.int .i64 left)),.a (.v (.int .i64 deep))] σ (fun v=>∃ x:Int,v=.int .i64 x /\ -1125899906842624<=x/\x<=1099511627776/\(0<=x->x+g.weight<=left)):=by
  induction g using GVal.byWeight with | _ g ih=>?_
  intro r left deep hr hl1 hl2 hd1 hd2
  obtain ⟨la,lc,lrows,ma,mc,vrows,rfl,V⟩:=hr.open
  have hdg:=V.dg
  have hs:=V.s
  have hll:=V.ll
  have hkl:=V.kl
  simp only [mostLen] at hdg hs hll hkl
  refine enter_p Tryz.func57 rfl rfl (by (repeat' (first | exact trivial | exact vCells_lt _ _ _ _ _ _ | constructor))) fun w=>?_
  (repeat (first | refine cj_seq ?_ | refine cjr TT rfl ?_ | refine oj_then ?_))
  refine cj_if rfl (fun h=>?_) (fun h=>?_)
  · (repeat (first | refine cj_seq ?_ | refine cjr TT rfl ?_ | refine oj_then ?_ | refine cj_ret ?_ | refine nj_then_ret ?_))
    refine nj_ret TT rfl fun β w' _ _=>?_
    exact ⟨-1,rfl,by omega,by omega,by omega⟩
  have hd3:deep<=150:=by simpa using h
  have hw:=g.weight_eq
  (repeat (first | refine cj_seq ?_ | refine cjr TT rfl ?_ | refine oj_then ?_ | refine cj_skip ?_ | refine cj_block ?_ | refine nj_then ?_ | (refine oj_minus rfl rfl rfl rfl rfl rfl (by omega) ?_;refine oj_run TT rfl ?_)))
  refine cj_cutB (fun _=>σ) (fun (x:Int)=>[(1,.a (.v (.int .i64 x))),(2,.a (.v (.int .i64 deep))),(3,.a (.p 0 0))]) (fun _=>[(0,.loc 28,vCells g la lc ma mc)]) (fun _=>[]) 1
    (fun x => -1125899906842624<=x/\x<=1099511627776/\(0<=x->x+1+g.s.size+g.n.dg.size+GVal.weights g.l<=left)) ?_ (fun x ⟨hx1,hx2,hx3⟩=>?_)
  · refine cj_loop2 (fun _ _=>σ) (fun (k:Nat) (x:Int)=>[(1,.a (.v (.int .i64 x))),(2,.a (.v (.int .i64 deep))),(3,.a (.p 0 0)),(7,.a (.v (.int .i64 k)))]) (fun _ _=>[(0,.loc 28,vCells g la lc ma mc)]) (fun _ _=>[]) 1
      (fun k x=>k<=g.l.length /\ -1125899906842624<=x/\x<=1099511627776/\(0<=x->x+1+g.s.size+g.n.dg.size+GVal.weights (g.l.take k)<=left)) (fun k _=>g.l.length - k) 0 (left - 1 - g.s.size - g.n.dg.size)
      ⟨Nat.zero_le _,by omega,by omega,by simp [GVal.weights];omega⟩ rfl (by (repeat first | exact trivial | refine ⟨rfl,?_⟩)) (by (repeat first | exact trivial | refine ⟨rfl,?_⟩)) rfl (by (repeat' (first | exact trivial | exact Nat.le_of_ble_eq_true rfl | constructor))) (by (repeat' (first | exact trivial | exact Nat.le_of_ble_eq_true rfl | exact vCells_lt _ _ _ _ _ _ | constructor))) fun k x ⟨hk,hx1,hx2,hx3⟩=>?_
    (repeat (first | refine cj_seq ?_ | refine cjr TT rfl ?_))
    refine oj_split 27 rfl (fun h=>?_) (fun h=>?_)
    · refine oj_run TT rfl ?_
      (repeat refine oj_then ?_)
      refine cj_if rfl (fun h0=>?_) (fun h0=>?_)
      · have hk':k<g.l.length:=by simpa using h
        have hx0:0<=x:=by simpa using h0
        (repeat (first | refine cj_seq ?_ | refine cjr TT rfl ?_ | refine cj_skip ?_ | refine cj_block ?_ | refine nj_then ?_))
        obtain ⟨r,hr1,hr2⟩:=V.l.get (List.getElem?_eq_getElem hk')
        obtain ⟨la',lc',lrows',ma',mc',vrows',rfl,V'⟩:=hr2.open
        refine oj_idx TT rfl rfl rfl rfl rfl rfl rfl rfl rfl V.L (by omega) hr1 (oj_run TT rfl ?_)
        (repeat (refine oj_add rfl rfl rfl rfl rfl rfl (by omega) ?_;refine oj_run TT rfl ?_))
        refine oj_callP rfl rfl rfl rfl rfl Tryz.call57 (by (repeat' (first | exact trivial | exact vCells_lt _ _ _ _ _ _ | constructor))) (ih _ (weight_l (List.getElem_mem hk')) _ _ _ V'.rep (by omega) (by omega) (by omega) (by omega)) fun v ⟨x',hv,hx4,hx5,hx6⟩=>⟨.a (.v (.int .i64 x')),trivial,hv.symm,?_⟩
        refine oj_run TT rfl ?_
        (repeat (first | refine cjr TT rfl ?_ | refine oj_nil ?_ | refine nj_then ?_ | refine nj_block ?_ | (refine oj_add rfl rfl rfl rfl rfl rfl (by omega) ?_;refine oj_run TT rfl ?_)))
        refine nj_again (k+1,x') ⟨hk',hx4,hx5,fun h=>?_⟩ (by dsimp only;omega) rfl (by (repeat first | exact trivial | refine ⟨rfl,?_⟩)) (by (repeat first | exact trivial | refine ⟨rfl,?_⟩)) rfl (by (repeat' (first | exact trivial | exact Nat.le_of_ble_eq_true rfl | constructor))) (by (repeat' (first | exact trivial | exact Nat.le_of_ble_eq_true rfl | exact vCells_lt _ _ _ _ _ _ | constructor)))
        dsimp only at h ⊢
        have:=hx3 (by omega)
        have:=hx6 h
        rw [weights_take (List.getElem?_eq_getElem hk')]
        omega
      · have hx0:x<0:=by simpa using h0
        (repeat (first | refine cj_exit ?_ | refine nj_then_exit ?_ | refine nj_block_out ?_))
        refine nj_again x ⟨hx1,hx2,fun h=>by omega⟩ (by omega) rfl (by (repeat first | exact trivial | refine ⟨rfl,?_⟩)) (by (repeat first | exact trivial | refine ⟨rfl,?_⟩)) rfl (by (repeat' (first | exact trivial | exact Nat.le_of_ble_eq_true rfl | constructor))) (by (repeat' (first | exact trivial | exact Nat.le_of_ble_eq_true rfl | exact vCells_lt _ _ _ _ _ _ | constructor)))
    · have hk0:k=g.l.length:=by simp at h;omega
      refine oj_run TT rfl ?_
      (repeat (first | refine oj_then ?_ | refine cj_if_f rfl ?_ | refine cj_exit ?_ | refine nj_then_exit ?_ | refine nj_block_out ?_))
      refine nj_again x ⟨hx1,hx2,fun h=>?_⟩ (by omega) rfl (by (repeat first | exact trivial | refine ⟨rfl,?_⟩)) (by (repeat first | exact trivial | refine ⟨rfl,?_⟩)) rfl (by (repeat' (first | exact trivial | exact Nat.le_of_ble_eq_true rfl | constructor))) (by (repeat' (first | exact trivial | exact Nat.le_of_ble_eq_true rfl | exact vCells_lt _ _ _ _ _ _ | constructor)))
      have:=hx3 h
      rw [hk0,List.take_length] at this
      exact this
  · (repeat (first | refine cj_seq ?_ | refine cjr TT rfl ?_ | refine oj_then ?_ | refine cj_block ?_))
    refine cj_cutB (fun _=>σ) (fun (x:Int)=>[(1,.a (.v (.int .i64 x))),(2,.a (.v (.int .i64 deep))),(3,.a (.p 0 0))]) (fun _=>[(0,.loc 28,vCells g la lc ma mc)]) (fun _=>[]) 1
      (fun x => -1125899906842624<=x/\x<=1099511627776/\(0<=x->x+g.weight<=left)) ?_ (fun x ⟨hx1,hx2,hx3⟩=>?_)
    · refine cj_loop2 (fun _ _=>σ) (fun (k:Nat) (x:Int)=>[(1,.a (.v (.int .i64 x))),(2,.a (.v (.int .i64 deep))),(3,.a (.p 0 0)),(8,.a (.v (.int .i64 k)))]) (fun _ _=>[(0,.loc 28,vCells g la lc ma mc)]) (fun _ _=>[]) 1
        (fun k x=>k<=g.ks.length /\ -1125899906842624<=x/\x<=1099511627776/\(0<=x->x+1+g.s.size+g.n.dg.size+GVal.weights g.l+sizes (g.ks.take k)+GVal.weights (g.vs.take k)<=left)) (fun k _=>g.ks.length - k) 0 x
        ⟨Nat.zero_le _,by omega,by omega,by simp [GVal.weights,sizes];omega⟩ rfl (by (repeat first | exact trivial | refine ⟨rfl,?_⟩)) (by (repeat first | exact trivial | refine ⟨rfl,?_⟩)) rfl (by (repeat' (first | exact trivial | exact Nat.le_of_ble_eq_true rfl | constructor))) (by (repeat' (first | exact trivial | exact Nat.le_of_ble_eq_true rfl | exact vCells_lt _ _ _ _ _ _ | constructor))) fun k x ⟨hk,hx1,hx2,hx3⟩=>?_
      (repeat (first | refine cj_seq ?_ | refine cjr TT rfl ?_))
      refine oj_split 47 rfl (fun h=>?_) (fun h=>?_)
      · refine oj_run TT rfl ?_
        (repeat refine oj_then ?_)
        refine cj_if rfl (fun h0=>?_) (fun h0=>?_)
        · have hk':k<g.ks.length:=by simpa using h
          have hkv:k<g.vs.length:=by have:=V.kv;omega
          have hx0:0<=x:=by simpa using h0
          (repeat (first | refine cj_seq ?_ | refine cj_skip ?_ | refine cj_block ?_ | refine nj_then ?_))
          obtain ⟨r,hr1,hr2⟩:=V.v.get (List.getElem?_eq_getElem hkv)
          obtain ⟨la',lc',lrows',ma',mc',vrows',rfl,V'⟩:=hr2.open
          have hrow:=keyRows_get (List.getElem?_eq_getElem hk') hr1
          have hkk:=V.kk _ (List.getElem_mem hk')
          simp only [mostLen] at hkk
          refine cj_draw [(0,.pure),(1,.quiet),(2,.pure),(3,.pure),(4,.pure),(5,.quiet),(6,.pure),(7,.pure),(8,.quiet),(9,.pure),(10,.pure),(11,.pure),(12,.quiet),(13,.pure),(14,.pure),(15,.pure),(16,.pure),(17,.keep),(18,.pure)] mixed (by kernel_rfl) (oj_run TT rfl ?_)
          refine oj_idx TT rfl rfl rfl rfl rfl rfl rfl rfl rfl V.M (by omega) hrow (oj_run TT rfl ?_)
          refine oj_idx TT rfl rfl rfl rfl rfl rfl rfl rfl rfl V.M (by omega) hrow (oj_run TT rfl ?_)
          (repeat (first | (refine oj_add rfl rfl rfl rfl rfl rfl (by omega) ?_;refine oj_run TT rfl ?_) | (refine oj_minus rfl rfl rfl rfl rfl rfl (by omega) ?_;refine oj_run TT rfl ?_)))
          refine oj_callP rfl rfl rfl rfl rfl Tryz.call57 (by (repeat' (first | exact trivial | exact vCells_lt _ _ _ _ _ _ | constructor))) (ih _ (weight_v (List.getElem_mem hkv)) _ _ _ V'.rep (by omega) (by omega) (by omega) (by omega)) fun v ⟨x',hv,hx4,hx5,hx6⟩=>⟨.a (.v (.int .i64 x')),trivial,hv.symm,?_⟩
          refine oj_run TT rfl ?_
          (repeat (first | refine cjr TT rfl ?_ | refine oj_nil ?_ | refine nj_then ?_ | refine nj_block ?_ | (refine oj_add rfl rfl rfl rfl rfl rfl (by omega) ?_;refine oj_run TT rfl ?_)))
          refine nj_again (k+1,x') ⟨hk',hx4,hx5,fun h=>?_⟩ (by dsimp only;omega) rfl (by (repeat first | exact trivial | refine ⟨rfl,?_⟩)) (by (repeat first | exact trivial | refine ⟨rfl,?_⟩)) rfl (by (repeat' (first | exact trivial | exact Nat.le_of_ble_eq_true rfl | constructor))) (by (repeat' (first | exact trivial | exact Nat.le_of_ble_eq_true rfl | exact vCells_lt _ _ _ _ _ _ | constructor)))
          dsimp only at h ⊢
          have:=hx3 (by omega)
          have:=hx6 h
          rw [weights_take (List.getElem?_eq_getElem hkv),sizes_take (List.getElem?_eq_getElem hk')]
          omega
        · have hx0:x<0:=by simpa using h0
          (repeat (first | refine cj_exit ?_ | refine nj_then_exit ?_ | refine nj_block_out ?_))
          refine nj_again x ⟨hx1,hx2,fun h=>by omega⟩ (by omega) rfl (by (repeat first | exact trivial | refine ⟨rfl,?_⟩)) (by (repeat first | exact trivial | refine ⟨rfl,?_⟩)) rfl (by (repeat' (first | exact trivial | exact Nat.le_of_ble_eq_true rfl | constructor))) (by (repeat' (first | exact trivial | exact Nat.le_of_ble_eq_true rfl | exact vCells_lt _ _ _ _ _ _ | constructor)))
      · have hk0:k=g.ks.length:=by simp at h;omega
        refine oj_run TT rfl ?_
        (repeat (first | refine oj_then ?_ | refine cj_if_f rfl ?_ | refine cj_exit ?_ | refine nj_then_exit ?_ | refine nj_block_out ?_))
        refine nj_again x ⟨hx1,hx2,fun h=>?_⟩ (by omega) rfl (by (repeat first | exact trivial | refine ⟨rfl,?_⟩)) (by (repeat first | exact trivial | refine ⟨rfl,?_⟩)) rfl (by (repeat' (first | exact trivial | exact Nat.le_of_ble_eq_true rfl | constructor))) (by (repeat' (first | exact trivial | exact Nat.le_of_ble_eq_true rfl | exact vCells_lt _ _ _ _ _ _ | constructor)))
        have:=hx3 h
        rw [hk0,List.take_length,V.kv,List.take_length] at this
        omega
    · (repeat (first | refine cj_seq ?_ | refine cjr TT rfl ?_ | refine oj_then ?_ | refine cj_ret ?_))
      refine nj_ret TT rfl fun β w' _ _=>?_
      exact ⟨x,rfl,hx1,hx2,hx3⟩
set_option maxRecDepth 100000 in
set_option maxHeartbeats 1000000 in
theorem Few_c (σ:Snap) (g:GVal) (r:List AT) (most:Int) (hr:RepV σ g r) (h1:0<=most) (h2:most<=1000000) :
    PlainS Tryz.prog 13 [.agg r,.a (.v (.int .i64 most))] σ (fun v=>∃ b:Bool,v=.bool b/\(b=true->(g.weight:Int)<=most)):=by
  obtain ⟨la,lc,lrows,ma,mc,vrows,rfl,V⟩:=hr.open
  refine enter_p Tryz.func13 rfl rfl (by (repeat' (first | exact trivial | exact vCells_lt _ _ _ _ _ _ | constructor))) fun w=>?_
  (repeat (first | refine cj_seq ?_ | refine cjr TT rfl ?_ | refine oj_then ?_))
  refine oj_callP rfl rfl rfl rfl rfl Tryz.call57 (by (repeat' (first | exact trivial | exact vCells_lt _ _ _ _ _ _ | constructor))) (few_c σ g _ _ _ V.rep (by omega) (by omega) (by omega) (by omega)) fun v ⟨x',hv,hx4,hx5,hx6⟩=>⟨.a (.v (.int .i64 x')),trivial,hv.symm,?_⟩
  refine oj_run TT rfl ?_
  (repeat (first | refine oj_then ?_ | refine cj_ret ?_))
  refine nj_ret TT rfl fun β w' _ _=>?_
  refine ⟨_,rfl,fun h=>?_⟩
  have:=hx6 (by simpa using h)
  have:0<=x':=by simpa using h
  omega
end Go.Sy
namespace Go.Sy
open Go.Proofs
theorem und214:Tryz.prog.underlying 354=some (.array 256 4):=by kernel_rfl
theorem und4:Tryz.prog.underlying 4=some .bool:=by kernel_rfl
theorem cells4:Tryz.prog.cellsOf 4=1:=by kernel_rfl
set_option maxRecDepth 100000 in
set_option maxHeartbeats 1000000 in
theorem contains_c (σ:Snap) (p:UInt8->Bool) (g:Nat) (h:∀ u:UInt8,σ.cell ⟨g,u.toNat,none⟩=some (.bool (p u))) (u:UInt8) :
    PlainS Tryz.prog 264 [.a (.v (.pointer (some ⟨g,0,none⟩))),.a (.v (.int .u8 u.toNat))] σ (fun v=>v=.bool (p u)):=by
  refine enter_p Tryz.func264 rfl rfl (by (repeat' (first | exact trivial | constructor))) fun w=>?_
  have hu:u.toNat<256:=u.toNat_lt
  (repeat (first | refine cj_seq ?_ | refine cjr TT rfl ?_ | refine oj_then ?_))
  refine oj_idx_ptr 4 256 und214 und4 rfl rfl rfl rfl rfl rfl (by omega) (by omega) ⟨g,u.toNat,none⟩ (by rw [show Tryz.prog.cellsOf 4=1 from cells4,add0,Nat.mul_one];rfl) (oj_run TT rfl ?_)
  refine oj_ldS (c:=.b (p u)) TT rfl rfl rfl rfl rfl rfl rfl rfl (h u) trivial (oj_run TT rfl ?_)
  (repeat (first | refine oj_then ?_ | refine cj_ret ?_))
  refine nj_ret TT rfl fun β w' _ _=>?_
  rfl
set_option maxRecDepth 100000 in
set_option maxHeartbeats 1000000 in
theorem trimLeftASCII_c (σ:Snap) (p:UInt8->Bool) (g:Nat) (h:∀ u:UInt8,σ.cell ⟨g,u.toNat,none⟩=some (.bool (p u))) (l:List UInt8) :
    PlainS Tryz.prog 253 [.a (.v (.string (mkB l))),.a (.v (.pointer (some ⟨g,0,none⟩)))] σ (fun v=>v=.string (mkB (l.dropWhile p))):=by
  refine enter_p Tryz.func253 rfl rfl (by (repeat' (first | exact trivial | constructor))) fun w=>?_
  (repeat (first | refine cj_seq ?_ | refine cjr TT rfl ?_ | refine oj_then ?_ | refine cj_block ?_))
  refine cj_loop (fun _=>σ) (fun (k:List UInt8)=>[(0,.a (.v (.string (mkB k)))),(1,.a (.v (.pointer (some ⟨g,0,none⟩))))]) (fun _=>[]) (fun _=>[]) 0
    (fun k=>k.dropWhile p=l.dropWhile p) (fun k=>k.length) l rfl rfl (by (repeat first | exact trivial | refine ⟨rfl,?_⟩)) (by (repeat first | exact trivial | refine ⟨rfl,?_⟩)) rfl (by (repeat' (first | exact trivial | constructor))) (by (repeat' exact trivial)) fun k hk=>?_
  (repeat (first | refine cj_seq ?_ | refine cjr TT rfl ?_ | refine oj_then ?_))
  refine cj_if rfl (fun hc=>?_) (fun hc=>?_)
  · cases k with
    | nil=>simp at hc
    | cons u k =>
      (repeat (first | refine cj_seq ?_ | refine cjr TT rfl ?_ | refine cj_skip ?_ | refine cj_block ?_ | refine nj_then ?_))
      refine oj_index_str (u:=u) TT rfl rfl rfl rfl rfl rfl rfl rfl (by omega) (by rfl) (oj_run TT rfl ?_)
      skip
      refine oj_callP rfl rfl rfl rfl rfl Tryz.call264 (by (repeat' (first | exact trivial | constructor))) (contains_c σ p g h u) fun v hv=>⟨.a (.b (p u)),trivial,hv.symm,?_⟩
      refine oj_run TT rfl ?_
      (repeat refine oj_then ?_)
      refine cj_if rfl (fun hp=>?_) (fun hp=>?_)
      · (repeat (first | refine cj_seq ?_ | refine cjr TT rfl ?_ | refine oj_then ?_ | refine cj_exit ?_ | refine cj_ret ?_ | refine nj_then ?_ | refine nj_then_exit ?_ | refine nj_block_out ?_ | refine nj_block_on rfl ?_))
        refine nj_ret TT rfl fun β w' _ _=>?_
        have:p u=false:=by simpa using hp
        rw [<-hk,List.dropWhile_cons_of_neg (by simp [this])]
        rfl
      · have hp':p u=true:=by simpa using hp
        (repeat (first | refine cjr TT rfl ?_ | refine cj_skip ?_ | refine nj_then ?_))
        refine oj_slice_str (vl:=some (.int .i64 1)) (vh:=none) TT 1 (k.length+1) rfl rfl rfl rfl rfl rfl rfl rfl rfl (.inr ⟨_,_,rfl,rfl⟩) (.inl ⟨rfl,by simp⟩) (by omega) (by simp) (oj_run TT rfl ?_)
        (repeat (first | refine oj_nil ?_ | refine nj_block ?_))
        rw [mkB_extract,show List.drop 1 (List.take (k.length+1) (u::k))=k by simp]
        refine nj_again k ?_ (by simp) rfl (by (repeat first | exact trivial | refine ⟨rfl,?_⟩)) (by (repeat first | exact trivial | refine ⟨rfl,?_⟩)) rfl (by (repeat' (first | exact trivial | constructor))) (by (repeat' exact trivial))
        rw [<-hk,List.dropWhile_cons_of_pos hp']
  · (repeat (first | refine cj_seq ?_ | refine cjr TT rfl ?_ | refine oj_then ?_ | refine cj_exit ?_ | refine cj_ret ?_ | refine nj_then ?_ | refine nj_then_exit ?_ | refine nj_block_out ?_))
    refine nj_ret TT rfl fun β w' _ _=>?_
    have:k=[]:=by cases k with
      | nil=>rfl
      | cons u k=>simp at hc
    subst this
    rw [<-hk]
    rfl
def trimR (p:UInt8->Bool) (l:List UInt8):List UInt8:=(l.reverse.dropWhile p).reverse
theorem trimR_snoc (p:UInt8->Bool) (l:List UInt8) (u:UInt8):trimR p (l++[u])=if p u then trimR p l else l++[u]:=by
  unfold trimR
  rw [List.reverse_append,List.reverse_singleton,List.singleton_append,List.dropWhile_cons]
  split<;>simp
set_option maxRecDepth 100000 in
set_option maxHeartbeats 1000000 in
theorem trimRightASCII_c (σ:Snap) (p:UInt8->Bool) (g:Nat) (h:∀ u:UInt8,σ.cell ⟨g,u.toNat,none⟩=some (.bool (p u))) (l:List UInt8) (hl:l.length<=mostLen) :
    PlainS Tryz.prog 254 [.a (.v (.string (mkB l))),.a (.v (.pointer (some ⟨g,0,none⟩)))] σ (fun v=>v=.string (mkB (trimR p l))):=by
  simp only [mostLen] at hl
  refine enter_p Tryz.func254 rfl rfl (by (repeat' (first | exact trivial | constructor))) fun w=>?_
  (repeat (first | refine cj_seq ?_ | refine cjr TT rfl ?_ | refine oj_then ?_ | refine cj_block ?_))
  refine cj_loop (fun _=>σ) (fun (k:List UInt8)=>[(0,.a (.v (.string (mkB k)))),(1,.a (.v (.pointer (some ⟨g,0,none⟩))))]) (fun _=>[]) (fun _=>[]) 0
    (fun k=>k.length<=l.length/\trimR p k=trimR p l) (fun k=>k.length) l ⟨Nat.le_refl _,rfl⟩ rfl (by (repeat first | exact trivial | refine ⟨rfl,?_⟩)) (by (repeat first | exact trivial | refine ⟨rfl,?_⟩)) rfl (by (repeat' (first | exact trivial | constructor))) (by (repeat' exact trivial)) fun k ⟨hkl,hk⟩=>?_
  have hsz:=mkB_size k
  (repeat (first | refine cj_seq ?_ | refine cjr TT rfl ?_ | refine oj_then ?_))
  refine cj_if rfl (fun hc=>?_) (fun hc=>?_)
  · obtain ⟨k,u,rfl⟩:∃ k' u,k=k'++[u]:=by
      rcases List.eq_nil_or_concat k with rfl | ⟨k',u,rfl⟩
      · simp at hc
      · exact ⟨k',u,by simp⟩
    have hsz:(mkB (k++[u])).size=k.length+1:=by simp
    rw [List.length_append,List.length_singleton] at hkl
    (repeat (first | refine cj_seq ?_ | refine cjr TT rfl ?_ | refine cj_skip ?_ | refine cj_block ?_ | refine nj_then ?_ | (refine oj_minus rfl rfl rfl rfl rfl rfl (by omega) ?_;refine oj_run TT rfl ?_)))
    refine oj_index_str (u:=u) TT rfl rfl rfl rfl rfl rfl rfl rfl (by rw [hsz];omega) (by rw [hsz];simp) (oj_run TT rfl ?_)
    skip
    refine oj_callP rfl rfl rfl rfl rfl Tryz.call264 (by (repeat' (first | exact trivial | constructor))) (contains_c σ p g h u) fun v hv=>⟨.a (.b (p u)),trivial,hv.symm,?_⟩
    refine oj_run TT rfl ?_
    (repeat refine oj_then ?_)
    refine cj_if rfl (fun hp=>?_) (fun hp=>?_)
    · (repeat (first | refine cj_seq ?_ | refine cjr TT rfl ?_ | refine oj_then ?_ | refine cj_exit ?_ | refine cj_ret ?_ | refine nj_then ?_ | refine nj_then_exit ?_ | refine nj_block_out ?_ | refine nj_block_on rfl ?_))
      refine nj_ret TT rfl fun β w' _ _=>?_
      have:p u=false:=by simpa using hp
      rw [<-hk,trimR_snoc,this]
      rfl
    · have hp':p u=true:=by simpa using hp
      (repeat (first | refine cjr TT rfl ?_ | refine cj_skip ?_ | refine nj_then ?_ | (refine oj_minus rfl rfl rfl rfl rfl rfl (by omega) ?_;refine oj_run TT rfl ?_)))
      refine oj_slice_str (vl:=none) (vh:=some (.int .i64 ((mkB (k++[u])).size - 1))) TT 0 k.length rfl rfl rfl rfl rfl rfl rfl rfl rfl (.inl ⟨rfl,rfl⟩) (.inr ⟨_,_,rfl,by rw [hsz];omega⟩) (by omega) (by rw [hsz];omega) (oj_run TT rfl ?_)
      (repeat (first | refine oj_nil ?_ | refine nj_block ?_))
      rw [mkB_extract,show List.drop 0 (List.take k.length (k++[u]))=k by simp]
      refine nj_again k ⟨by omega,?_⟩ (by simp) rfl (by (repeat first | exact trivial | refine ⟨rfl,?_⟩)) (by (repeat first | exact trivial | refine ⟨rfl,?_⟩)) rfl (by (repeat' (first | exact trivial | constructor))) (by (repeat' exact trivial))
      rw [<-hk,trimR_snoc,hp']
      rfl
  · (repeat (first | refine cj_seq ?_ | refine cjr TT rfl ?_ | refine oj_then ?_ | refine cj_exit ?_ | refine cj_ret ?_ | refine nj_then ?_ | refine nj_then_exit ?_ | refine nj_block_out ?_))
    refine nj_ret TT rfl fun β w' _ _=>?_
    have:k=[]:=by cases k with
      | nil=>rfl
      | cons u k=>simp at hc
    subst this
    rw [<-hk]
    rfl
end Go.Sy
namespace Go.Sy
open Go.Proofs
def asciiCells (p:UInt8->Bool):List AT:=(List.range 256).map fun i=>.b (p (UInt8.ofNat i))
theorem asciiCells_len (p:UInt8->Bool):(asciiCells p).length=256:=by simp [asciiCells]
theorem asciiCells_lt (p:UInt8->Bool) (n:Nat):∀ c∈asciiCells p,c.lt n:=by
  intro c hc
  obtain ⟨i,_,rfl⟩:=List.mem_map.1 hc
  trivial
theorem asciiCells_get (p:UInt8->Bool) (u:UInt8):(asciiCells p)[u.toNat]?=some (.b (p u)):=by
  have:=u.toNat_lt
  simp [asciiCells,this]
theorem asciiCells_set (p:UInt8->Bool) (u:UInt8) (β:Nat->Addr):((asciiCells p).set u.toNat .tt).map (AT.den β)=(asciiCells fun x=>p x||x == u).map (AT.den β):=by
  apply List.ext_getElem?
  intro j
  simp only [List.getElem?_map,List.getElem?_set,asciiCells,List.length_map,List.length_range]
  by_cases hj:j<256
  · by_cases huj:u.toNat=j
    · subst huj
      rw [if_pos rfl,if_pos hj]
      simp [hj,AT.den]
    · rw [if_neg huj]
      have hne:UInt8.ofNat j≠u:=fun e=>huj (by rw [<-e];simp;omega)
      simp [hj,AT.den,hne]
  · have:=u.toNat_lt
    rw [if_neg (by omega)]
    simp [hj]
set_option maxRecDepth 100000 in
set_option maxHeartbeats 1000000 in
theorem makeASCIISet_c (σ:Snap) (l:List UInt8) (hl:l.length<=1000) (h128:∀ u∈l,u.toNat<128) :
    PlainS Tryz.prog 252 [.a (.v (.string (mkB l)))] σ (fun v=>v=(SV.tup [.agg (asciiCells l.contains),.a .tt]).den β0):=by
  refine enter_p Tryz.func252 rfl rfl (by (repeat' (first | exact trivial | constructor))) fun w=>?_
  have hsz:=mkB_size l
  (repeat (first | refine cj_seq ?_ | refine cjr TT rfl ?_ | refine oj_then ?_ | refine cj_block ?_))
  refine cj_rowset 0 (asciiCells fun _=>false) rfl (fun β=>?_) (asciiCells_lt _ _) ?_
  · show (List.replicate 256 AT.ff).map _=_
    rw [List.map_replicate,asciiCells,List.map_map]
    exact ((List.map_const' (l:=List.range 256) (b:=Value.bool false)).trans (by rw [List.length_range];rfl)).symm
  refine cj_loop (fun _=>σ) (fun (k:Nat)=>[(0,.a (.v (.string (mkB l)))),(2,.a (.p 0 0)),(4,.a (.v (.int .i64 k)))]) (fun k=>[(0,.loc 354,asciiCells (l.take k).contains)]) (fun _=>[]) 1
    (fun k=>k<=l.length) (fun k=>l.length - k) 0 (Nat.zero_le _) rfl (by (repeat first | exact trivial | refine ⟨rfl,?_⟩)) (by (repeat first | exact trivial | refine ⟨rfl,?_⟩)) rfl (by (repeat' (first | exact trivial | exact Nat.le_of_ble_eq_true rfl | constructor))) ⟨⟨Nat.zero_lt_one,asciiCells_lt _ _⟩,trivial⟩ fun k hk=>?_
  (repeat (first | refine cj_seq ?_ | refine cjr TT rfl ?_ | refine oj_then ?_))
  refine cj_if rfl (fun hc=>?_) (fun hc=>?_)
  · have hlt:k<l.length:=by rw [hsz] at hc;simpa using hc
    have hu:=h128 _ (List.getElem_mem hlt)
    (repeat (first | refine cj_seq ?_ | refine cjr TT rfl ?_ | refine cj_skip ?_ | refine cj_block ?_ | refine nj_then ?_))
    refine oj_index_str (u:=l[k]) TT rfl rfl rfl rfl rfl rfl rfl rfl (by omega) (by simp [hlt]) (oj_run TT rfl ?_)
    (repeat (first | refine cj_seq ?_ | refine cjr TT rfl ?_ | refine oj_then ?_))
    refine cj_if rfl (fun hp=>?_) (fun hp=>?_)
    · simp at hp;omega
    (repeat (first | refine cjr TT rfl ?_ | refine cj_skip ?_ | refine nj_then ?_))
    refine oj_idx_row 4 256 und214 und4 rfl rfl rfl rfl rfl rfl (by omega) (by omega) l[k].toNat (by rw [show Tryz.prog.cellsOf 4=1 from cells4];simp) ?_
    refine oj_store1 (c:=.tt) TT rfl rfl rfl rfl rfl rfl rfl rfl rfl rfl (by rw [asciiCells_len];omega) ?_
    (repeat (first | refine cjr TT rfl ?_ | refine oj_nil ?_ | refine nj_then ?_ | refine nj_block ?_ | (refine oj_add rfl rfl rfl rfl rfl rfl (by omega) ?_;refine oj_run TT rfl ?_)))
    refine nj_rowset 0 (asciiCells (l.take (k+1)).contains) rfl (fun β=>?_) (asciiCells_lt _ _) ?_
    · rw [asciiCells_set]
      congr 2
      funext x
      rw [Bool.eq_iff_iff]
      simp only [Bool.or_eq_true,beq_iff_eq,List.contains_iff_mem]
      rw [List.take_succ_eq_append_getElem hlt,List.mem_append,List.mem_singleton]
    refine nj_again (k+1) hlt (by omega) rfl (by (repeat first | exact trivial | refine ⟨rfl,?_⟩)) (by (repeat first | exact trivial | refine ⟨rfl,?_⟩)) rfl (by (repeat' (first | exact trivial | exact Nat.le_of_ble_eq_true rfl | constructor))) ⟨⟨Nat.zero_lt_one,asciiCells_lt _ _⟩,trivial⟩
  · have hk0:k=l.length:=by rw [hsz] at hc;simp at hc;omega
    subst hk0
    rw [List.take_length]
    (repeat (first | refine cj_seq ?_ | refine cjr TT rfl ?_ | refine oj_then ?_ | refine cj_exit ?_ | refine cj_ret ?_ | refine nj_then ?_ | refine nj_then_exit ?_ | refine nj_block_out ?_))
    refine nj_ret TT rfl fun β w' _ _=>?_
    rfl
def digitB (u:UInt8):Bool:=[48,49,50,51,52,53,54,55,56,57].contains u
def digitsS:ByteArray:=⟨#[48,49,50,51,52,53,54,55,56,57]⟩
set_option maxRecDepth 100000 in
set_option maxHeartbeats 1000000 in
theorem Trim_c (σ:Snap) (l:List UInt8) (hl:l.length<=mostLen) :
    PlainS Tryz.prog 244 [.a (.v (.string (mkB l))),.a (.v (.string digitsS))] σ (fun v=>v=.string (mkB ((trimR digitB l).dropWhile digitB))):=by
  have hsz:=mkB_size l
  refine enter_p Tryz.func244 rfl rfl (by (repeat' (first | exact trivial | constructor))) fun w=>?_
  (repeat (first | refine cj_seq ?_ | refine cjr TT rfl ?_ | refine oj_then ?_))
  refine oj_split 9 rfl (fun h=>?_) (fun h=>?_)
  · have h0:l=[]:=mkB_inj (of_decide_eq_true h)
    subst h0
    refine oj_run TT rfl ?_
    (repeat (first | refine cj_seq ?_ | refine cjr TT rfl ?_ | refine oj_then ?_ | refine cj_if_t rfl ?_ | refine cj_ret ?_ | refine nj_then_ret ?_))
    refine nj_ret TT rfl fun β w' _ _=>?_
    rfl
  refine oj_run TT rfl ?_
  (repeat refine oj_then ?_)
  refine cj_if rfl (fun h=>?_) (fun h=>?_)
  · exact absurd h (by decide)
  (repeat (first | refine cj_seq ?_ | refine cjr TT rfl ?_ | refine cj_skip ?_ | refine nj_then ?_))
  refine oj_split 17 rfl (fun h=>?_) (fun h=>?_)
  · exact absurd h (by decide)
  refine oj_run TT rfl ?_
  (repeat (first | refine cj_seq ?_ | refine cjr TT rfl ?_ | refine oj_then ?_ | refine cj_if_f rfl ?_ | refine cj_skip ?_ | refine nj_then ?_))
  refine oj_callP rfl rfl rfl rfl rfl Tryz.call252 (by (repeat' (first | exact trivial | constructor))) (makeASCIISet_c σ [48,49,50,51,52,53,54,55,56,57] (by decide) (by decide)) fun v hv=>⟨_,?_,hv.symm,?_⟩
  · intro x hx
    simp only [List.mem_cons,List.not_mem_nil,or_false] at hx
    rcases hx with rfl | rfl
    · exact asciiCells_lt _ _
    · trivial
  refine oj_run TT rfl ?_
  (repeat (first | refine cj_seq ?_ | refine cjr TT rfl ?_ | refine oj_then ?_ | refine cj_if_t rfl ?_))
  refine oj_own 0 1 256 rfl (by exact asciiCells_lt digitB 0) rfl (by decide) fun g=>?_
  refine oj_seal 0 rfl rfl rfl fun σ' hle hS=>?_
  have hcell:∀ u:UInt8,σ'.cell ⟨g,u.toNat,none⟩=some (.bool (digitB u)):=by
    intro u
    rcases hS with ⟨h1,_⟩ | ⟨g',h1,h2⟩
    · cases h1
    · injection h1 with h1
      simp only [Addr.mk.injEq,and_true] at h1
      subst h1
      refine h2 u.toNat _ ?_
      show ((asciiCells digitB).map AT.val)[u.toNat]?=_
      rw [List.getElem?_map,asciiCells_get]
      rfl
  refine oj_callP rfl rfl rfl rfl rfl Tryz.call254 (by (repeat' (first | exact trivial | constructor))) (trimRightASCII_c σ' digitB g hcell l hl) fun v hv=>⟨.a (.v (.string (mkB (trimR digitB l)))),trivial,hv.symm,?_⟩
  refine oj_callP rfl rfl rfl rfl rfl Tryz.call253 (by (repeat' (first | exact trivial | constructor))) (trimLeftASCII_c σ' digitB g hcell (trimR digitB l)) fun v hv=>⟨.a (.v (.string (mkB ((trimR digitB l).dropWhile digitB)))),trivial,hv.symm,?_⟩
  refine oj_run TT rfl ?_
  (repeat (first | refine oj_then ?_ | refine cj_ret ?_ | refine nj_then_ret ?_))
  refine nj_ret TT rfl fun β w' _ _=>?_
  rfl
theorem dropWhile_nil (p:UInt8->Bool):∀ (l:List UInt8),l.dropWhile p=[]↔∀ u∈l,p u=true
  | []=>by simp
  | x::l=>by
    rw [List.dropWhile_cons]
    split
    · rename_i h
      rw [dropWhile_nil p l]
      simp [h]
    · rename_i h
      simp [h]
theorem trim_digits (l:List UInt8):(trimR digitB l).dropWhile digitB=[]↔∀ u∈l,digitB u=true:=by
  have hR:trimR digitB l=[]↔∀ u∈l,digitB u=true:=by
    unfold trimR
    rw [List.reverse_eq_nil_iff,dropWhile_nil]
    simp
  constructor
  · intro h
    rw [dropWhile_nil] at h
    by_cases h0:trimR digitB l=[]
    · exact hR.1 h0
    · exfalso
      have hlast:∀ u,(trimR digitB l).getLast?=some u->digitB u=false:=by
        intro u hu
        unfold trimR at hu
        rw [List.getLast?_reverse] at hu
        have:=List.head?_dropWhile_not digitB l.reverse
        rw [hu] at this
        simpa using this
      cases hg:(trimR digitB l).getLast? with
      | none=>rw [List.getLast?_eq_none_iff] at hg;exact h0 hg
      | some u =>
        have h1:=hlast u hg
        have h2:=h u (List.mem_of_getLast? hg)
        rw [h1] at h2;cases h2
  · intro h
    rw [hR.2 h]
    rfl
def decSane (d:GDec):Bool :=
  let l:=d.dg.data.toList
  if l.length=0 then !d.neg&&decide (d.ex=0)
  else decide (l.length<=40)&&l.all digitB&&decide (-800<=d.ex)&&decide (d.ex<=800)&&decide (-400<=l.length+d.ex)&&decide (l.length+d.ex<=400)&&l.head? != some 48&&l.getLast? != some 48
set_option maxRecDepth 100000 in
set_option maxHeartbeats 1000000 in
theorem height_c (σ:Snap) (d:GDec) (h1:d.dg.size<=1000) (h2:-1000<=d.ex) (h3:d.ex<=1000):PlainS Tryz.prog 245 [.agg (decCells d)] σ (fun v=>v=.int .i64 (d.dg.size+d.ex)):=by
  refine enter_p Tryz.func245 rfl rfl (by (repeat' (first | exact trivial | exact decCells_lt _ _ | constructor))) fun w=>?_
  (repeat (first | refine cj_seq ?_ | refine cjr TT rfl ?_ | refine oj_then ?_ | refine cj_ret ?_ | (refine oj_add rfl rfl rfl rfl rfl rfl (by omega) ?_;refine oj_run TT rfl ?_)))
  refine nj_ret TT rfl fun β w' _ _=>?_
  rfl
theorem und23:Tryz.prog.underlying 24=some (.struct (Tryz.prog.fieldsOf 24)):=by kernel_rfl
def fieldsAre:List Field->List (Nat×Nat)->Bool
  | [],[]=>true
  | f :: fs, (t, o) :: l => f.name != "_" && Nat.beq f.type t && Nat.beq f.offset o && fieldsAre fs l
  | _,_=>false
theorem fieldsAre_cons {l : List Field} {t o : Nat} {r : List (Nat × Nat)} (h : fieldsAre l ((t, o) :: r) = true) : ∃ f fs, l = f :: fs ∧ f.name ≠ "_" ∧ f.type = t ∧ f.offset = o ∧ fieldsAre fs r = true := by
  cases l with
  | nil=>cases h
  | cons f fs =>
    simp only [fieldsAre,Bool.and_eq_true,bne_iff_ne,ne_eq] at h
    exact ⟨f,fs,rfl,h.1.1.1,Nat.eq_of_beq_eq_true h.1.1.2,Nat.eq_of_beq_eq_true h.1.2,h.2⟩
theorem eqFields_cons {P : Program} {w : World} {d : Nat} {xs ys : Array Value} {f : Field} {fs : List Field} {a b : Value} {r : Bool} (hn : f.name ≠ "_") (ha : (part f.type xs f.offset).run P w = .ok a w) (hb : (part f.type ys f.offset).run P w = .ok b w)
    (he:(Op.equalIn d f.type a b).run P w=.ok r w):(Op.eqFields d xs ys (f::fs)).run P w=if r then (Op.eqFields d xs ys fs).run P w else .ok false w:=by
  simp only [Op.eqFields,if_pos hn,Sem.run_bind,ha,hb,he,Result.andThen_ok]
  cases r<;>simp
theorem run_part1 {P:Program} {w:World} {t:TypeId} {xs:Array Value} {o:Nat} {d:TypeDesc} {v:Value} (hu:P.underlying t=some d) (hd:aggD d=false) (hv:xs[o]?=some v):(part t xs o).run P w=.ok v w:=by
  simp only [part,Sem.run_bind,run_isAgg hu,hd,Result.andThen_ok,Bool.false_eq_true,if_false,hv,Sem.run_pure]
theorem und9:Tryz.prog.underlying 9=some .string:=by kernel_rfl
theorem und3:Tryz.prog.underlying 3=some (.int .i64):=by kernel_rfl
theorem run_eqStr {P:Program} {w:World} (d:Nat) (t:TypeId) (a b:ByteArray) (h:P.underlying t=some .string):(Op.equalIn (d+1) t (.string a) (.string b)).run P w=.ok (decide (a=b)) w:=by
  simp only [Op.equalIn,Sem.run_bind,run_underlying h,Result.andThen_ok,Sem.run_pure]
  congr 1
  rw [beq_toListBytes,ByteArray.toList_eq,ByteArray.toList_eq,Bool.eq_iff_iff]
  simp only [beq_iff_eq,decide_eq_true_eq]
  exact ⟨fun h=>ByteArray.ext (Array.ext' h),fun h=>by rw [h]⟩
theorem eqDec_ok (m:Nat) (a b:GDec) (w:World):(Op.equalIn (m+1+1) 24 (.agg #[.bool a.neg,.string a.dg,.int .i64 a.ex]) (.agg #[.bool b.neg,.string b.dg,.int .i64 b.ex])).run Tryz.prog w=.ok (decide (a=b)) w:=by
  rw [run_equalIn_agg w (m+1) 24 _ _ und23 (by kernel_rfl)]
  have h:fieldsAre (Tryz.prog.fieldsOf 24).toList [(4,0),(9,1),(3,2)]=true:=by kernel_rfl
  generalize (Tryz.prog.fieldsOf 24).toList=fl at h
  obtain ⟨f0,fl,rfl,n0,t0,o0,h⟩:=fieldsAre_cons h
  obtain ⟨f1,fl,rfl,n1,t1,o1,h⟩:=fieldsAre_cons h
  obtain ⟨f2,fl,rfl,n2,t2,o2,h⟩:=fieldsAre_cons h
  cases fl with
  | cons _ _=>cases h
  | nil =>
    rw [eqFields_cons (r:=a.neg == b.neg) n0 (run_part1 (v:=.bool a.neg) (by rw [t0];exact und4) rfl (by rw [o0];rfl)) (run_part1 (v:=.bool b.neg) (by rw [t0];exact und4) rfl (by rw [o0];rfl)) (run_equalIn_bool' w m f0.type a.neg b.neg (by rw [t0];exact und4))]
    rw [eqFields_cons (r:=decide (a.dg=b.dg)) n1 (run_part1 (v:=.string a.dg) (by rw [t1];exact und9) rfl (by rw [o1];rfl)) (run_part1 (v:=.string b.dg) (by rw [t1];exact und9) rfl (by rw [o1];rfl)) (run_eqStr m f1.type a.dg b.dg (by rw [t1];exact und9))]
    rw [eqFields_cons (r:=a.ex == b.ex) n2 (run_part1 (v:=.int .i64 a.ex) (by rw [t2];exact und3) rfl (by rw [o2];rfl)) (run_part1 (v:=.int .i64 b.ex) (by rw [t2];exact und3) rfl (by rw [o2];rfl)) (run_equalIn_int w m f2.type .i64 .i64 a.ex b.ex (by rw [t2];exact und3))]
    simp only [Op.eqFields,Sem.run_pure]
    have:(decide (a=b))=(a.neg == b.neg&&(decide (a.dg=b.dg)&&a.ex == b.ex)):=by
      rw [Bool.eq_iff_iff]
      cases a;cases b
      simp
    rw [this]
    cases (a.neg == b.neg)<;>cases decide (a.dg=b.dg)<;>cases (a.ex == b.ex)<;>rfl
theorem oj_eqDec {cf:Cf} {Q:Exit->Act->World->Prop} {σ:Snap} {env:Env} {hp:HP} {A:List AE} {nh:Nat} {it:Item} {rest:List Item} {d:Nat} {x y:Operand} {yt:TypeId} {ca cb:List AT} (a b:GDec) (hP:cf.P=Tryz.prog)
    (hop:it.o.op=.binOp .eql 24 x y yt) (hd:it.o.dst=some d) (hg:guardVal it.guard env=some true) (hN:Nat.blt d cf.N=true) (hx:evalO env x=some (.agg ca)) (hy:evalO env y=some (.agg cb)) (hca:∀ β,ca.map (AT.den β)=(decCells a).map (AT.den β)) (hcb:∀ β,cb.map (AT.den β)=(decCells b).map (AT.den β))
    (hk:OJ cf rest Q σ ((d,.a (.b (decide (a=b))))::env) hp A nh):OJ cf (it::rest) Q σ env hp A nh:=by
  refine oj_val (.a (.b (decide (a=b)))) hd hg hN trivial (fun _ ac β ha w=>?_) hk
  have h1:ac.eval x=.agg #[.bool a.neg,.string a.dg,.int .i64 a.ex]:=(evalO_eval ha hx).trans (by simp only [SV.den,hca];rfl)
  have h2:ac.eval y=.agg #[.bool b.neg,.string b.dg,.int .i64 b.ex]:=(evalO_eval ha hy).trans (by simp only [SV.den,hcb];rfl)
  rw [hP]
  have hG:(eqGuard .eql 24 x y (.agg #[.bool a.neg,.string a.dg,.int .i64 a.ex]) (.agg #[.bool b.neg,.string b.dg,.int .i64 b.ex])).run Tryz.prog w=.ok () w:=run_eqGuard_agg w _ _ _ _ _ _ (by kernel_rfl)
  have hE:(Op.equalIn 10000 24 (.agg #[.bool a.neg,.string a.dg,.int .i64 a.ex]) (.agg #[.bool b.neg,.string b.dg,.int .i64 b.ex])).run Tryz.prog w=.ok (decide (a=b)) w:=eqDec_ok 9998 a b w
  have hB:(binOp .eql 24 (.agg #[.bool a.neg,.string a.dg,.int .i64 a.ex]) (.agg #[.bool b.neg,.string b.dg,.int .i64 b.ex])).run Tryz.prog w=.ok (.bool (decide (a=b))) w:=by
    rw [run_eql_struct,hE]
    rfl
  simp only [execOp,hop,h1,h2,Sem.run_bind,hG,hB,Result.andThen_ok,Sem.run_pure]
  rfl
theorem decSane_mk (ng:Bool) (l:List UInt8) (ex:Int) (h0:l.length≠0):decSane ⟨ng,mkB l,ex⟩=(decide (l.length<=40)&&l.all digitB&&decide (-800<=ex)&&decide (ex<=800)&&decide (-400<=l.length+ex)&&decide (l.length+ex<=400)&&l.head? != some 48&&l.getLast? != some 48):=by
  unfold decSane
  exact if_neg h0
def dec0:GDec:=⟨false,⟨#[]⟩,0⟩
set_option maxRecDepth 100000 in
set_option maxHeartbeats 1000000 in
theorem decSane_c (σ:Snap) (d:GDec) (hd:d.dg.size<=mostLen):PlainS Tryz.prog 228 [.agg (decCells d)] σ (fun v=>v=.bool (decSane d)):=by
  obtain ⟨ng,dg,ex⟩:=d
  obtain ⟨l,rfl⟩:=mkB_ex dg
  have hsz:=mkB_size l
  simp only at hd
  rw [hsz] at hd
  have hd':=hd
  simp only [mostLen] at hd'
  refine enter_p Tryz.func228 rfl rfl (by (repeat' (first | exact trivial | exact decCells_lt _ _ | constructor))) fun w=>?_
  (repeat (first | refine cj_seq ?_ | refine cjr TT rfl ?_ | refine oj_then ?_ | refine cj_block ?_))
  refine cj_if rfl (fun h=>?_) (fun h=>?_)
  · have h0:l=[]:=by simpa using h
    subst h0
    (repeat (first | refine cj_seq ?_ | refine cjr TT rfl ?_))
    refine oj_eqDec ⟨ng,mkB [],ex⟩ dec0 rfl rfl rfl rfl rfl rfl rfl (fun _=>rfl) (fun _=>rfl) (oj_run TT rfl ?_)
    (repeat (first | refine oj_then ?_ | refine cj_ret ?_ | refine nj_then_ret ?_ | refine nj_block_ret ?_))
    refine nj_ret TT rfl fun β w' _ _=>?_
    show Value.bool _=_
    congr 1
    simp only [decSane,mkB_list,List.length_nil,if_true,dec0,GDec.mk.injEq]
    rw [Bool.eq_iff_iff]
    cases ng<;>simp [mkB]
  · have h0:l≠[]:=by simpa using h
    have hl0:l.length≠0:=by simpa using h0
    have hlb:(mkB l).size=l.length:=hsz
    (repeat (first | refine cj_seq ?_ | refine cjr TT rfl ?_))
    refine oj_split 17 rfl (fun h=>?_) (fun h=>?_)
    · have h40:40<l.length:=by simp at h;omega
      refine oj_run TT rfl ?_
      (repeat (first | refine cj_seq ?_ | refine cjr TT rfl ?_ | refine oj_then ?_ | refine cj_if_t rfl ?_ | refine cj_ret ?_ | refine nj_then_ret ?_ | refine nj_block_ret ?_))
      refine nj_ret TT rfl fun β w' _ _=>?_
      show Value.bool false=_
      congr 1
      rw [decSane_mk _ _ _ hl0,show decide (l.length<=40)=false by simp;omega]
      simp
    have h40:l.length<=40:=by simp at h;omega
    refine oj_run TT rfl ?_
    refine oj_callP rfl rfl rfl rfl rfl Tryz.call244 (by (repeat' (first | exact trivial | constructor))) (Trim_c σ l hd) fun v hv=>⟨.a (.v (.string (mkB ((trimR digitB l).dropWhile digitB)))),trivial,hv.symm,?_⟩
    refine oj_run TT rfl ?_
    (repeat refine oj_then ?_)
    have htr:(decide (mkB ((trimR digitB l).dropWhile digitB)=⟨#[]⟩))=l.all digitB:=by
      rw [Bool.eq_iff_iff,decide_eq_true_eq,List.all_eq_true,<-trim_digits]
      exact ⟨fun h=>mkB_inj h,fun h=>by rw [h];rfl⟩
    refine cj_if rfl (fun h=>?_) (fun h=>?_)
    · rw [htr] at h
      (repeat (first | refine cj_seq ?_ | refine cjr TT rfl ?_ | refine oj_then ?_ | refine cj_ret ?_ | refine nj_then_ret ?_ | refine nj_block_ret ?_))
      refine nj_ret TT rfl fun β w' _ _=>?_
      show Value.bool false=_
      congr 1
      rw [decSane_mk _ _ _ hl0,show l.all digitB=false by simpa using h]
      simp
    rw [htr] at h
    have hall:l.all digitB=true:=by simpa using h
    (repeat (first | refine cj_seq ?_ | refine cjr TT rfl ?_))
    refine oj_split 27 rfl (fun h=>?_) (fun h=>?_)
    · refine oj_run TT rfl ?_
      (repeat (first | refine cj_seq ?_ | refine cjr TT rfl ?_ | refine oj_then ?_ | refine cj_if_t rfl ?_ | refine cj_ret ?_ | refine nj_then_ret ?_ | refine nj_block_ret ?_))
      refine nj_ret TT rfl fun β w' _ _=>?_
      show Value.bool false=_
      congr 1
      have:ex < -800:=by simpa using h
      rw [decSane_mk _ _ _ hl0,show decide (-800<=ex)=false by simp;omega]
      simp
    have hex1:-800<=ex:=by simpa using h
    refine oj_run TT rfl ?_
    (repeat refine oj_then ?_)
    refine cj_if rfl (fun h=>?_) (fun h=>?_)
    · (repeat (first | refine cj_seq ?_ | refine cjr TT rfl ?_ | refine oj_then ?_ | refine cj_ret ?_ | refine nj_then_ret ?_ | refine nj_block_ret ?_))
      refine nj_ret TT rfl fun β w' _ _=>?_
      show Value.bool false=_
      congr 1
      have:800<ex:=by simpa using h
      rw [decSane_mk _ _ _ hl0,show decide (ex<=800)=false by simp;omega]
      simp
    have hex2:ex<=800:=by simpa using h
    (repeat (first | refine cj_seq ?_ | refine cjr TT rfl ?_ | refine cj_skip ?_ | refine nj_then ?_ | refine nj_block ?_))
    refine oj_callP rfl rfl rfl rfl rfl Tryz.call245 (by (repeat' (first | exact trivial | exact decCells_lt _ _ | constructor))) (height_c σ ⟨ng,mkB l,ex⟩ (by show (mkB l).size<=1000;omega) (by show -1000<=ex;omega) (by show ex<=1000;omega)) fun v hv=>⟨.a (.v (.int .i64 ((mkB l).size+ex))),trivial,hv.symm,?_⟩
    refine oj_run TT rfl ?_
    (repeat (first | refine cj_seq ?_ | refine cjr TT rfl ?_ | refine oj_then ?_))
    have hfin:decSane ⟨ng,mkB l,ex⟩=(decide (-400<=l.length+ex)&&decide (l.length+ex<=400)&&l.head? != some 48&&l.getLast? != some 48):=by
      rw [decSane_mk _ _ _ hl0,hall,show decide (l.length<=40)=true by simp;omega,show decide (-800<=ex)=true by simp;omega,show decide (ex<=800)=true by simp;omega]
      simp
    have hx:(((mkB l).size:Nat):Int)=l.length:=by rw [hsz]
    refine oj_split 36 rfl (fun h=>?_) (fun h=>?_)
    rotate_left
    · refine oj_run TT rfl ?_
      (repeat (first | refine oj_then ?_ | refine cj_ret ?_))
      refine nj_ret TT rfl fun β w' _ _=>?_
      show Value.bool false=_
      congr 1
      rw [hfin,show decide (-400<=(l.length:Int)+ex)=false by rw [<-hx];exact h]
      simp
    have e1:decide (-400<=(l.length:Int)+ex)=true:=by rw [<-hx];exact h
    refine oj_run TT rfl ?_
    refine oj_split 40 rfl (fun h=>?_) (fun h=>?_)
    rotate_left
    · refine oj_run TT rfl ?_
      (repeat (first | refine oj_then ?_ | refine cj_ret ?_))
      refine nj_ret TT rfl fun β w' _ _=>?_
      show Value.bool false=_
      congr 1
      rw [hfin,show decide ((l.length:Int)+ex<=400)=false by rw [<-hx];exact h]
      simp
    have e2:decide ((l.length:Int)+ex<=400)=true:=by rw [<-hx];exact h
    refine oj_run TT rfl ?_
    have hlt:0<l.length:=by omega
    refine oj_index_str (u:=l[0]) TT rfl rfl rfl rfl rfl rfl rfl rfl (by omega) (by simp [hlt]) (oj_run TT rfl ?_)
    have e3:(l.head? != some 48)=!decide ((l[0].toNat:Int)=48):=by
      rw [List.head?_eq_getElem?,List.getElem?_eq_getElem hlt,Bool.eq_iff_iff]
      simp [<-UInt8.toNat_inj]
      omega
    refine oj_split 46 rfl (fun h=>?_) (fun h=>?_)
    rotate_left
    · refine oj_run TT rfl ?_
      (repeat (first | refine oj_then ?_ | refine cj_ret ?_))
      refine nj_ret TT rfl fun β w' _ _=>?_
      show Value.bool false=_
      congr 1
      rw [hfin,e3,h]
      simp
    refine oj_run TT rfl ?_
    refine oj_minus rfl rfl rfl rfl rfl rfl (by show -9223372036854775808<=((mkB l).size:Int) - 1/\((mkB l).size:Int) - 1<=9223372036854775807;omega) (oj_run TT rfl ?_)
    refine oj_index_str (u:=l[l.length - 1]) TT rfl rfl rfl rfl rfl rfl rfl rfl (by show 0<=((mkB l).size:Int) - 1;omega) (by
      show l[(((mkB l).size:Int) - 1).toNat]?=_
      rw [show (((mkB l).size:Int) - 1).toNat=l.length - 1 by omega,List.getElem?_eq_getElem (by omega)]) (oj_run TT rfl ?_)
    have e4:(l.getLast? != some 48)=!decide ((l[l.length - 1].toNat:Int)=48):=by
      rw [List.getLast?_eq_getElem?,List.getElem?_eq_getElem (by omega),Bool.eq_iff_iff]
      simp [<-UInt8.toNat_inj]
      omega
    (repeat (first | refine oj_then ?_ | refine cj_ret ?_))
    refine nj_ret TT rfl fun β w' _ _=>?_
    show Value.bool _=_
    congr 1
    rw [hfin,e1,e2,e3,e4,h]
    simp
end Go.Sy
