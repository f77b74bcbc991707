/- Parts of the proof of CKeysCode: SyO, SyP, Tab, F1, F2, F3, Ka, SyQ, SyT, SyW, SyS. No conditions. -/
import Derived.Test.YtlonlnagmfdlbaaDoorM3
import Derived.RangeFuncRecord
import Derived.Test.YtlonlnagmfdlbaaDoorProg
import Derived.KernelRfl
import Derived.Laws.MakeOwn
/- Rounds: loops over functions. No program in sight. -/
namespace Go.Sy
def Snap.leB (l:Nat) (σ σ':Snap):Prop:=(σ.set l none).le σ'
theorem Snap.leB.cle {l:Nat} {σ σ':Snap} {r:Loop} (h:σ.leB l σ') (hl:σ l=some (.loop r)):σ.cle σ':=by
  intro a v hv
  refine Snap.le.cell h ?_
  rw [Snap.cell_set (fun o e=>by rw [hl] at e;injection e with e;subst e;rfl) (fun _ e=>by cases e)]
  exact hv
theorem Snap.leB.at_ {l:Nat} {σ σ':Snap} (h:σ.leB l σ') {b:Nat} {o:Obj} (hb:b≠l) (ho:σ b=some o):σ' b=some o:=h b o (by rw [Snap.set_ne hb];exact ho)
abbrev cfL (P:Program) (w:World) (σ:Snap) (A:List AE) (l:Nat) (N:Nat) (rd:Option Nat):Cf:=⟨P,w,σ.set l none,fun b=>blks A b\/b=l,N,[],rd⟩
def postI (P:Program) (w:World) (σ:Snap) (A:List AE) (l:Nat) (Φ:Value->Snap->List AE->Prop):Ending->World->Prop :=
  fun e w'=>∃ v σ' A',e=.returned v/\StW (cfL P w σ A l 0 none) σ' [] A' β0 w'/\Φ v σ' A'
def RoundC (P:Program) (l:Nat) (r:Loop) (args:Array Value) (σ:Snap) (A:List AE) (Φ:Value->Snap->List AE->Prop):Prop :=
  ∀ w,StW (cfL P w σ A l 0 none) σ [] A β0 w->RoundIn (FR none) 0 P l r.fn ((r.params.zip args).foldl (fun tmps (t,a)=>tmps.setIfInBounds t a) r.tmps) r.assign r.body w (postI P w σ A l Φ)
def IterC (P:Program) (f:FuncId) (args:Array Value) (l:Nat) (σ:Snap) (A:List AE) (Φ:Value->Snap->List AE->Prop):Prop :=
  ∀ w,StW (cfL P w σ A l 0 none) σ [] A β0 w->Calls P f args w (postI P w σ A l Φ)
section
variable {cf:Cf} {σ:Snap} {hp:HP} {A:List AE} {β:Nat->Addr} {w:World}
theorem StW.bareM {P:Program} {w0 w:World} {σ0 σ:Snap} {M:Nat->Prop} {N:Nat} {ds:List Deferred} {rd:Option Nat} {hp:HP} {A:List AE} {β:Nat->Addr} (h:StW ⟨P,w0,σ0,M,N,ds,rd⟩ σ hp A β w) (N':Nat) (ds':List Deferred) (rd':Option Nat) (β':Nat->Addr) :
    StW ⟨P,w0,σ0,M,N',ds',rd'⟩ σ [] A β' w where
  os:=h.os
  tape:=h.tape
  output:=h.output
  size:=h.size
  fr:=h.fr
  sealed:=h.sealed
  le:=h.le
  grow:=h.grow
  loc:=fun _ _ _ h=>by cases h
  ro:=fun _ _ h=>by cases h
  inj:=fun _ _ _ _ _ _ h=>by cases h
  arr:=fun i E hE=>h.arr i E hE
  arrd:=h.arrd
  arrh:=fun _ _ _ _ _ _ h=>by cases h
theorem StW.re {P:Program} {w0 w:World} {σ0 σ:Snap} {M:Nat->Prop} {N:Nat} {ds:List Deferred} {rd:Option Nat} {hp:HP} {A:List AE} {β:Nat->Addr} (h:StW ⟨P,w0,σ0,M,N,ds,rd⟩ σ hp A β w) (N':Nat) (ds':List Deferred) (rd':Option Nat) :
    StW ⟨P,w0,σ0,M,N',ds',rd'⟩ σ hp A β w :=
  ⟨h.os,h.tape,h.output,h.size,h.fr,h.sealed,h.le,h.grow,h.loc,h.ro,h.inj,h.arr,h.arrd,h.arrh⟩
theorem StW.handInL {l:Nat} {A0 Ar:List AE} (h:StW cf σ hp (A0++Ar) β w):StW (cfL cf.P w σ A0 l 0 none) σ [] A0 β0 w where
  os:=rfl
  tape:=rfl
  output:=rfl
  size:=Nat.le_refl _
  fr:=fun _ _ _=>rfl
  sealed:=h.sealed
  le:=fun b o (hb:σ.set l none b=some o)=>by
    by_cases hbl:b=l
    · subst hbl;rw [Snap.set_self] at hb;cases hb
    · rw [Snap.set_ne hbl] at hb;exact hb
  grow:=fun b hb=>by
    by_cases hbl:b=l
    · exact .inr (.inr (.inr hbl))
    · left;show σ.set l none b≠none;rw [Snap.set_ne hbl];exact hb
  loc:=fun _ _ _ h=>by cases h
  ro:=fun _ _ h=>by cases h
  inj:=fun _ _ _ _ _ _ h=>by cases h
  arr:=fun i E hE=>by
    have hlt:=(List.getElem?_eq_some_iff.1 hE).1
    obtain ⟨h1,h2⟩:=h.arr i E (by rw [List.getElem?_append_left hlt];exact hE)
    refine ⟨h1,h2.imp id ?_⟩
    rintro ⟨g,cur,h3,h4,h5,h6,h7,h8,h9,h10⟩
    exact ⟨g,cur,h3,h4,h5,h6,h7,h8,h9,.inr (.inl ⟨E,List.mem_of_getElem? hE,by simp [AE.blk,h3]⟩)⟩
  arrd:=fun i j E F hE hF hij=>by
    have hi:=(List.getElem?_eq_some_iff.1 hE).1
    have hj:=(List.getElem?_eq_some_iff.1 hF).1
    exact h.arrd i j E F (by rw [List.getElem?_append_left hi];exact hE) (by rw [List.getElem?_append_left hj];exact hF) hij
  arrh:=fun _ _ _ _ _ _ h=>by cases h
theorem StW.throughL {w':World} {σ':Snap} {l:Nat} {o:Obj} {A0 Ar A1:List AE} (h:StW cf σ hp (A0++Ar) β w) (hl:σ l=some o) (ho:nocell o=true) (h0:cf.σ0 l=none)
    (h':StW (cfL cf.P w σ A0 l 0 none) σ' [] A1 β0 w'):StW cf σ' hp (A1++Ar) β w':=by
  have hlw:=h.sealed _ _ hl
  have hlo:=h.own_of hl h0
  have hcells:∀ {c:Nat} {cs:Array Value} {e:TypeId} {f:Nat×Nat},w.heap[c]?=some (.cells cs e f)->c≠l:=fun hc e=>by subst e;rw [hlw] at hc;injection hc with hc;subst hc;cases ho
  have hin0:∀ {E},E∈A0->∃ i,(A0++Ar)[i]?=some E/\i<A0.length:=by
    intro E hE
    obtain ⟨i,hi⟩:=List.getElem?_of_mem hE
    have hlt:=(List.getElem?_eq_some_iff.1 hi).1
    exact ⟨i,by rw [List.getElem?_append_left hlt];exact hi,hlt⟩
  have hblk:∀ {b},blks A0 b->∃ i E,(A0++Ar)[i]?=some E/\E.blk=some b/\i<A0.length:=by
    rintro b ⟨E,hE,hb⟩
    obtain ⟨i,hi,hlt⟩:=hin0 hE
    exact ⟨i,E,hi,hb,hlt⟩
  have hown:∀ {b},(blks A0 b\/b=l)->Own cf b:=by
    rintro b (hb | hb)
    · obtain ⟨i,E,hi,hE,_⟩:=hblk hb
      exact ((h.arr i E hi).lt hE).2.2
    · subst hb;exact hlo
  have hold:∀ b,b<w.heap.size->¬ (blks A0 b\/b=l)->w'.heap[b]?=w.heap[b]?:=h'.fr
  have hσ:∀ b,b<w.heap.size->¬ (blks A0 b\/b=l)->σ b=none->σ' b=none:=by
    intro b hb hnb hn
    cases hb':σ' b with
    | none=>rfl
    | some o =>
      rcases h'.grow b (by rw [hb'];simp) with h1 | h1 | h1
      · have h1:σ.set l none b≠none:=h1
        exact absurd hn (by rw [Snap.set_ne (fun e=>hnb (.inr e))] at h1;exact h1)
      · have:w.heap.size<=b:=h1
        omega
      · exact absurd h1 hnb
  have hold':∀ {b},Own (cfL cf.P w σ A0 l 0 none) b->Own cf b:=by
    rintro b (h1 | h1)
    · exact .inl (Nat.le_trans h.size h1)
    · exact hown h1
  have hget:∀ {j:Nat} {E:AE},(A1++Ar)[j]?=some E->(j<A1.length/\A1[j]?=some E)\/(A1.length<=j/\(A0++Ar)[A0.length+(j - A1.length)]?=some E):=by
    intro j E hj
    by_cases hlt:j<A1.length
    · rw [List.getElem?_append_left hlt] at hj;exact .inl ⟨hlt,hj⟩
    · rw [List.getElem?_append_right (by omega)] at hj
      refine .inr ⟨by omega,?_⟩
      rw [List.getElem?_append_right (by omega),Nat.add_sub_cancel_left];exact hj
  have hnew:∀ {E:AE} {j:Nat} {b:Nat},A1[j]?=some E->E.blk=some b->w.heap.size<=b\/(blks A0 b\/b=l):=by
    intro E j b hE hb
    rcases ((h'.arr j E hE).lt hb).2.2 with h1 | h1
    · exact .inl h1
    · exact .inr h1
  have hkept:∀ {F:AE} {k:Nat} {b:Nat},A0.length<=k->(A0++Ar)[k]?=some F->F.blk=some b->b<w.heap.size/\¬ (blks A0 b\/b=l):=by
    intro F k b hk hF hb
    refine ⟨((h.arr k F hF).lt hb).1,?_⟩
    rintro (hc | hc)
    · obtain ⟨i,E,hi,hE,hlt⟩:=hblk hc
      exact h.arrd i k E F hi hF (by omega) b hE hb
    · subst hc
      obtain ⟨_,h2⟩:=h.arr k F hF
      rcases h2 with ⟨h3,_⟩ | ⟨g,cur,h3,h4,_⟩
      · simp [AE.blk,h3] at hb
      · simp only [AE.blk,h3,Option.map_some,Option.some.injEq] at hb
        subst hb
        exact hcells h4 rfl
  have hcle:σ.cle σ':=by
    intro a v hv
    refine Snap.le.cell h'.le ?_
    rw [Snap.cell_set (h.nocell_of hlw ho) (fun _ e=>by cases e)]
    exact hv
  refine ⟨h'.os.trans h.os,h'.tape.trans h.tape,h'.output.trans h.output,Nat.le_trans h.size h'.size,fun b hb hm=>?_,h'.sealed,fun b o hb=>h'.le b o ?_,fun b hb=>?_,fun i e cs hi=>?_,fun i cs hi j c hc=>hcle _ _ (h.ro i cs hi j c hc),h.inj,fun i E hE=>?_,
    fun i j E F hE hF hij=>?_,fun i j E e cs hE hj=>?_⟩
  · have hnb:¬ (blks A0 b\/b=l):=fun hc=>by
      rcases hown hc with h1 | h1
      · omega
      · exact hm h1
    rw [hold b (Nat.lt_of_lt_of_le hb h.size) hnb];exact h.fr b hb hm
  · have hbl:b≠l:=fun e=>by subst e;rw [h0] at hb;cases hb
    show (σ.set l none) b=some o
    rw [Snap.set_ne hbl];exact h.le b o hb
  · rcases h'.grow b hb with h1 | h1
    · refine h.grow b fun hn=>h1 ?_
      show (σ.set l none) b=none
      by_cases hbl:b=l
      · subst hbl;exact Snap.set_self ..
      · rw [Snap.set_ne hbl];exact hn
    · exact .inr (hold' h1)
  · obtain ⟨h1,h2,h3,h4⟩:=h.loc i e cs hi
    have hlt:=(Array.getElem?_eq_some_iff.1 h2).1
    have hnb:¬ (blks A0 (β i).block\/(β i).block=l):=by
      rintro (hc | hc)
      · obtain ⟨k,E,hk,hE,_⟩:=hblk hc
        exact h.arrh k i E e cs hk hi hE
      · exact hcells h2 hc
    exact ⟨h1,by rw [hold _ hlt hnb];exact h2,hσ _ hlt hnb h3,h4⟩
  · rcases hget hE with ⟨_,hE'⟩ | ⟨hle,hE'⟩
    · obtain ⟨h1,h2⟩:=h'.arr i E hE'
      refine ⟨h1,h2.imp id ?_⟩
      rintro ⟨g,cur,h3,h4,h5,h6,h7,h8,h9,h10⟩
      exact ⟨g,cur,h3,h4,h5,h6,h7,h8,h9,hold' h10⟩
    · obtain ⟨h1,h2⟩:=h.arr _ E hE'
      refine ⟨h1,h2.imp id ?_⟩
      rintro ⟨g,cur,h3,h4,h5,h6,h7,h8,h9,h10⟩
      obtain ⟨hlt,hnb⟩:=hkept (by omega) hE' (b:=g) (by simp [AE.blk,h3])
      exact ⟨g,cur,h3,by rw [hold g hlt hnb];exact h4,h5,h6,h7,h8,hσ g hlt hnb h9,h10⟩
  · intro b hEb hFb
    rcases hget hE with ⟨hi,hE'⟩ | ⟨hi,hE'⟩<;>rcases hget hF with ⟨hj,hF'⟩ | ⟨hj,hF'⟩
    · exact h'.arrd i j E F hE' hF' hij b hEb hFb
    · obtain ⟨hlt,hnb⟩:=hkept (by omega) hF' hFb
      rcases hnew hE' hEb with h1 | h1
      · omega
      · exact hnb h1
    · obtain ⟨hlt,hnb⟩:=hkept (by omega) hE' hEb
      rcases hnew hF' hFb with h1 | h1
      · omega
      · exact hnb h1
    · exact h.arrd _ _ E F hE' hF' (by omega) b hEb hFb
  · intro hb
    obtain ⟨h1,h2,h3,h4⟩:=h.loc j e cs hj
    have hlt:=(Array.getElem?_eq_some_iff.1 h2).1
    rcases hget hE with ⟨_,hE'⟩ | ⟨_,hE'⟩
    · rcases hnew hE' hb with h5 | h5 | h5
      · omega
      · obtain ⟨k,G,hk,hG,_⟩:=hblk h5
        exact h.arrh k j G e cs hk hj hG
      · exact hcells h2 h5
    · exact h.arrh _ j E e cs hE' hj hb
end
theorem enter_raw {P:Program} {f:FuncId} {fn:Func} {c:Code} {args:Array Value} {w:World} {M:Nat->Prop} {σ0 σ:Snap} {R:Ending->World->Prop}
    (hf:P.funcs[f]?=some fn) (hb:fn.body=some c) (svs:List SV) (A:List AE) (hargs:args=(svs.map (SV.den β0)).toArray) (hN:Nat.ble svs.length fn.ntmps=true)
    (hlt:LtAll svs) (hw:StW ⟨P,w,σ0,M,fn.ntmps,[],none⟩ σ [] A β0 w)
    (h:CJ ⟨P,w,σ0,M,fn.ntmps,[],none⟩ c (bodyPost P fn R) σ (argEnv 0 svs) [] A 0):Calls P f args w R:=by
  have hN:=Nat.le_of_ble_eq_true hN
  have hlt:=hlt.of
  refine calls_of_wp hf hb (wpR_none (h.run ⟨fun i x hx=>?_,fun _ _ _ h=>by cases h⟩ _ β0 w ⟨?_,rfl,fun i x hx=>?_⟩ hw))
  · obtain ⟨_,h2⟩:=argEnv_get svs 0 i x hx
    exact hlt x (List.mem_of_getElem? h2)
  · subst hargs
    simp only [Array.size_append,List.size_toArray,List.length_map,Array.size_replicate]
    omega
  · obtain ⟨_,h2⟩:=argEnv_get svs 0 i x hx
    simp only [Nat.sub_zero] at h2
    subst hargs
    rw [Array.getElem?_append_left (by simp;exact (List.getElem?_eq_some_iff.1 h2).1)]
    simp [h2]
theorem enter_it {P:Program} {f:FuncId} {fn:Func} {c:Code} {svs:List SV} {l:Nat} {σ:Snap} {A:List AE} {Φ:Value->Snap->List AE->Prop}
    (hf:P.funcs[f]?=some fn) (hb:fn.body=some c) (hN:Nat.ble svs.length fn.ntmps=true) (hlt:LtAll svs)
    (h:∀ w,CJ (cfL P w σ A l fn.ntmps none) c (bodyPost P fn (postI P w σ A l Φ)) σ (argEnv 0 svs) [] A 0):IterC P f (svs.map (SV.den β0)).toArray l σ A Φ :=
  fun w hw=>enter_raw hf hb svs A rfl hN hlt (hw.re _ _ _) (h w)
theorem nj_iret {P:Program} {w0:World} {σ0:Snap} {A0:List AE} {l N:Nat} {T:List (Nat×TI)} (hT:TTok P T) {fn:Func} {Φ:Value->Snap->List AE->Prop} {σ:Snap} {env:Env} {hp:HP} {A:List AE} {nh:Nat}
    {xs:List S1} (hr:resL T env hp fn.results.toList=some xs) (h:∀ β,Φ ((resSV xs).den β) σ A) :
    NJ (cfL P w0 σ0 A0 l N none) .ret (bodyPost P fn (postI P w0 σ0 A0 l Φ)) σ env hp A nh:=⟨fun hb _ β _ ha hw =>
  ⟨ha.defers,_,results_ok (cf:=cfL P w0 σ0 A0 l N none) hT ha hb hw hr,_,σ,A,rfl,hw.bareM _ _ _ _,h β⟩⟩
theorem nj_iend {P:Program} {w0:World} {σ0:Snap} {A0:List AE} {l N:Nat} {T:List (Nat×TI)} (hT:TTok P T) {fn:Func} {Φ:Value->Snap->List AE->Prop} {σ:Snap} {env:Env} {hp:HP} {A:List AE} {nh:Nat}
    {xs:List S1} (hr:resL T env hp fn.results.toList=some xs) (h:∀ β,Φ ((resSV xs).den β) σ A) :
    NJ (cfL P w0 σ0 A0 l N none) .normal (bodyPost P fn (postI P w0 σ0 A0 l Φ)) σ env hp A nh:=⟨fun hb _ β _ ha hw =>
  ⟨ha.defers,_,results_ok (cf:=cfL P w0 σ0 A0 l N none) hT ha hb hw hr,_,σ,A,rfl,hw.bareM _ _ _ _,h β⟩⟩
section
variable {cf:Cf} {Q:Exit->Act->World->Prop} {σ:Snap} {env:Env} {hp:HP} {A:List AE} {nh:Nat} {it:Item} {rest:List Item}
def yieldee (env:Env) (op:Op):Option (Nat×List SV) :=
  match op with
  | .call c =>
    match c.callee with
    | .value f =>
      match evalO env f,evalL env c.args.toList with
      | some (.a (.fn (.yield l) [])),some ys=>some (l,ys)
      | _,_=>none
    | _=>none
  | _=>none
theorem yieldee_ok {β:Nat->Addr} {a:Act} {w:World} (ha:StA cf env β a) {o:Oper} {l:Nat} {ys:List SV} {r:Loop} (h:yieldee env o.op=some (l,ys)) (hl:w.heap[l]?=some (.loop r)) (hs:Nat.beq ys.length r.params.size=true) :
    (execOp a.eval o).run cf.P w=.ok (.round l r.fn ((r.params.zip (ys.map (SV.den β)).toArray).foldl (fun tmps (t,a)=>tmps.setIfInBounds t a) r.tmps) r.assign r.body) w:=by
  unfold yieldee at h
  split at h
  · rename_i c hop
    split at h
    · rename_i fo hcal
      split at h
      · rename_i g zs hf hz
        injection h with h
        simp only [Prod.mk.injEq] at h
        obtain ⟨rfl,rfl⟩:=h
        have h1:a.eval fo=.func (.yield g) #[] #[]:=evalO_eval ha hf
        have h2:c.args.map a.eval=(zs.map (SV.den β)).toArray:=by
          have:=evalL_ok ha _ _ hz
          rw [<-this,<-Array.toList_map]
        simp only [execOp,hop,resolve,hcal,h1,h2,Deferred.ofValue,Sem.run_bind,Sem.run_pure,Result.andThen_ok,invoke,Array.empty_append]
        exact run_yield hl (by simpa using hs)
      · cases h
    · cases h
  · cases h
theorem oj_yield {d l:Nat} {r:Loop} {ys:List SV} {Φ:Value->Snap->List AE->Prop} (is:List Nat) {A0 Ar:List AE} (hl:σ l=some (.loop r)) (h0:cf.σ0 l=none) (hA:reA is A=A0++Ar) (hn:nodupB is=true)
    (hc:yieldee env it.o.op=some (l,ys)) (hs:Nat.beq ys.length r.params.size=true) (hd:it.o.dst=some d) (hg:guardVal it.guard env=some true)
    (hN:Nat.blt d cf.N=true) (htag:canSink it.tag=true) (hlt:LtAll ys)
    (hC:RoundC cf.P l r (ys.map (SV.den β0)).toArray σ A0 Φ)
    (k:∀ v σ' A',σ.leB l σ'->Φ v σ' A'->∃ y:SV,y.lt 0/\y.den β0=v/\OJ cf rest Q σ' ((d,y)::env) hp (A'++Ar) nh):OJ cf (it::rest) Q σ env hp A nh:=by
  refine ⟨fun hb a β ha hex=>?_⟩
  have hN':d<cf.N:=by simpa [Nat.blt_eq] using hN
  have den0:∀ {y:SV},y.lt 0->y.den β=y.den β0:=fun hy=>SV.den_congr (n:=0) (fun i hi=>by omega) hy
  have hargs:(ys.map (SV.den β)).toArray=(ys.map (SV.den β0)).toArray:=by
    rw [List.map_congr_left fun y hy=>den0 (hlt.of y hy)]
  have key:∀ w,StW cf σ hp A β w->∀ Q',it.o.wq cf.P a w (fun a' w'=>∃ E' S':World->Prop,S' w'/\(∀ x,S' x->E' x)/\RunT cf.P Q rest E' S' a') Q':=by
    intro w hw Q'
    have hw2:StW cf σ hp (A0++Ar) β w:=by rw [<-hA];exact hw.reA hn
    unfold Oper.wq
    rw [yieldee_ok ha hc (hw.sealed _ _ hl) hs]
    simp only [Oper.uponIn]
    rw [hargs]
    refine ⟨fun h=>(by cases h),RoundIn.mono (round_FR (hC w hw2.handInL)) fun e w' ⟨v,σ',A',he,h4,h5⟩=>?_⟩
    subst he
    obtain ⟨y,hy,hyv,hk⟩:=k v σ' A' h4.le h5
    have hw':=hw2.throughL hl rfl h0 h4
    refine ⟨_,_,hw',fun _ h=>h,?_⟩
    have:=hk.run (hb.put (SV.lt_mono (Nat.zero_le _) hy) d) (a.put (some d) (y.den β)) β (ha.put hN' y) ⟨_,hw'⟩
    rw [hd,<-hyv,<-den0 hy]
    exact this
  simp only [RunT]
  rw [if_pos (guardVal_ok ha hg)]
  cases htag':it.tag with
  | pure=>rw [htag'] at htag;cases htag
  | quiet=>rw [htag'] at htag;cases htag
  | keep=>rw [htag'] at htag;cases htag
  | sink=>exact fun w hw=>key w hw _
  | free=>exact fun w hw=>key w hw _
end
def parEnv:List Nat->List SV->Env->Env
  | p::ps,y::ys,env=>parEnv ps ys ((p,y)::env)
  | _,_,env=>env
def allBlt (N:Nat):List Nat->Bool
  | []=>true
  | p::ps=>Nat.blt p N&&allBlt N ps
theorem StA.params {cf:Cf}:∀ (ps:List Nat) (ys:List SV) (env:Env) (a:Act),ps.length=ys.length->allBlt cf.N ps=true->StA cf env β0 a ->
    StA cf (parEnv ps ys env) β0 { a with tmps:=(ps.zip (ys.map (SV.den β0))).foldl (fun tmps x=>tmps.setIfInBounds x.1 x.2) a.tmps }
  | [],[],env,a,_,_,ha=>ha
  | [],_::_,env,a,h,_,_=>by simp at h
  | _::_,[],env,a,h,_,_=>by simp at h
  | p::ps,y::ys,env,a,h,hN,ha=>by
    simp only [allBlt,Bool.and_eq_true,Nat.blt_eq] at hN
    have:=StA.params ps ys ((p,y)::env) (a.put (some p) (y.den β0)) (by simpa using h) hN.2 (ha.put hN.1 y)
    exact this
theorem parEnv_lt {n:Nat}:∀ (ps:List Nat) (ys:List SV) (env:Env),LtAll ys->EnvLt n env->EnvLt n (parEnv ps ys env)
  | [],[],_,_,h=>h
  | [],_::_,_,_,h=>h
  | _::_,[],_,_,h=>h
  | _::ps,_::ys,_,hy,h=>parEnv_lt ps ys _ hy.2 ⟨SV.lt_mono (Nat.zero_le _) hy.1,h⟩
def beginQ (P:Program) (l:Nat) (body:Code) (R:Ending->World->Prop):Exit->Act->World->Prop :=
  Exit.then (fun a w=>∃ w',(Instr.beginRound l).run P w=.ok () w'/\body.wpIn (FR (some l)) 0 P (roundPost P l R) a w') (fun _ _ _=>False)
theorem roundC_of {P:Program} {l:Nat} {r:Loop} {ys:List SV} {σ:Snap} {A:List AE} {Φ:Value->Snap->List AE->Prop} {N:Nat} {env:Env} (hsz:r.tmps.size=N) (henv:∀ i x,env.get i=some x->r.tmps[i]?=some (x.den β0))
    (ps:List Nat) (hps:r.params=ps.toArray) (hlen:Nat.beq ps.length ys.length=true) (hpN:allBlt N ps=true) (hlt:LtAll ys) (he:EnvLt 0 env)
    (h:∀ w,CJ (cfL P w σ A l N (some l)) r.assign (beginQ P l r.body (postI P w σ A l Φ)) σ (parEnv ps ys env) [] A 0):RoundC P l r (ys.map (SV.den β0)).toArray σ A Φ:=by
  intro w hw
  refine round_FR (rd:=none) (n:=0) (roundIn_of_wpIn (F:=FR none) trivial ?_)
  have ha:StA (cfL P w σ A l N (some l)) env β0 ⟨r.tmps,[]⟩:=⟨hsz,rfl,henv⟩
  have ha':=ha.params ps ys env ⟨r.tmps,[]⟩ (Nat.eq_of_beq_eq_true hlen) hpN
  have hz:(r.params.zip (ys.map (SV.den β0)).toArray).foldl (fun tmps (x:Nat×Value)=>tmps.setIfInBounds x.1 x.2) r.tmps=(ps.zip (ys.map (SV.den β0))).foldl (fun tmps x=>tmps.setIfInBounds x.1 x.2) r.tmps:=by
    rw [hps,<-Array.foldl_toList]
    simp
  have hrun:=(h w).run (Bd.of (parEnv_lt ps ys env hlt he) trivial) _ β0 w ha' (hw.re _ _ _)
  rw [<-hz] at hrun
  exact hrun
section
variable {P:Program} {w0:World} {σ0:Snap} {A0:List AE} {l N:Nat} {σ:Snap} {env:Env} {hp:HP} {A:List AE} {nh:Nat} {r:Loop}
theorem nj_begin {body:Code} {R:Ending->World->Prop} (hl:σ l=some (.loop r)) (hr:r.state=.ready) (h0:σ0.set l none l=none)
    (h:CJ (cfL P w0 σ0 A0 l N (some l)) body (roundPost P l R) (σ.set l (some (.loop { r with state:=.busy }))) env hp A nh):NJ (cfL P w0 σ0 A0 l N (some l)) .normal (beginQ P l body R) σ env hp A nh:=by
  refine ⟨fun hb a β w ha hw=>⟨_,run_beginRound (hw.sealed _ _ hl) hr,h.run hb a β _ ha ?_⟩⟩
  exact hw.turn hl rfl rfl h0
theorem nj_rndN {Φ:Value->Snap->List AE->Prop} (hl:σ l=some (.loop r)) (h:Φ (.bool true) (σ.set l (some (.loop { r with state:=.ready,pending:=none }))) A) :
    NJ (cfL P w0 σ0 A0 l N (some l)) .normal (roundPost P l (postI P w0 σ0 A0 l Φ)) σ env hp A nh :=
  ⟨fun _ _ _ _ _ hw=>⟨_,_,run_endRound none (hw.sealed _ _ hl),_,_,A,rfl,(hw.turn hl rfl rfl (Snap.set_self ..)).bareM _ _ _ _,h⟩⟩
theorem nj_rndR {Φ:Value->Snap->List AE->Prop} (hl:σ l=some (.loop r)) (h:Φ (.bool false) (σ.set l (some (.loop { r with state:=.done,pending:=some .ret }))) A) :
    NJ (cfL P w0 σ0 A0 l N (some l)) .ret (roundPost P l (postI P w0 σ0 A0 l Φ)) σ env hp A nh :=
  ⟨fun _ _ _ _ _ hw=>⟨_,_,run_endRound (some .ret) (hw.sealed _ _ hl),_,_,A,rfl,(hw.turn hl rfl rfl (Snap.set_self ..)).bareM _ _ _ _,h⟩⟩
end
abbrev markD (D:Nat):Deferred:={ target:=.collected D,args:=#[] }
theorem cj_rangeFunc {P:Program} {w0:World} {σ0:Snap} {M:Nat->Prop} {N:Nat} {ds:List Deferred} {Q:Exit->Act->World->Prop} {σ:Snap} {env:Env} {hp:HP} {A:List AE} {nh:Nat}
    {g:Operand} {ps:Array Tmp} {assign body:Code} {gf:FuncId} {caps:List PT} (is:List Nat) {A0 Ar:List AE} (hA:reA is A=A0++Ar) (hn:nodupB is=true)
    (hg:evalO env g=some (.a (.fn (.func gf) caps))) (hcap:LtAll (caps.map ptSV)) (hlt:EnvLt 0 env) (hcall:∀ args w,(callFunc gf args).run P w=.ok (.enter gf args) w)
    (Φ:Nat->Nat->Loop->Value->Snap->List AE->Prop)
    (hit:∀ (fid D l:Nat) (tmps:Array Value),tmps.size=N->(∀ i x,env.get i=some x->tmps[i]?=some (x.den β0))->D≠l->σ D=none->σ l=none->σ0 l=none ->
      IterC P gf (((.a (.fn (.yield l) [])::caps.map ptSV).map (SV.den β0)).toArray) l ((σ.set D (some (.deferred (some [])))).set l (some (.loop ⟨.ready,none,fid,tmps,ps,assign,body,D⟩))) A0 (Φ D l ⟨.ready,none,fid,tmps,ps,assign,body,D⟩))
    (k:∀ (D l:Nat) (r:Loop) (v:Value) (σ':Snap) (A':List AE),Φ D l r v σ' A'->σ0 D=none->σ0 l=none->σ' D=some (.deferred (some []))->σ.cle σ'->(∀ b o,b≠D->b≠l->σ b=some o->σ' b=some o) ->
      ∃ r',σ' l=some (.loop r')/\r'.state≠.busy/\(match r'.pending with
        | none=>NJ ⟨P,w0,σ0,M,N,markD D::ds,none⟩ .normal Q (σ'.set l none) env hp (A'++Ar) nh
        | some c=>CJ ⟨P,w0,σ0,M,N,markD D::ds,none⟩ c Q (σ'.set l none) env hp (A'++Ar) nh)) :
    CJ ⟨P,w0,σ0,M,N,ds,none⟩ (.rangeFunc g ps assign body) Q σ env hp A nh:=by
  refine ⟨fun hb a β w ha hw=>?_⟩
  have hw2:StW ⟨P,w0,σ0,M,N,ds,none⟩ σ hp (A0++Ar) β w:=by rw [<-hA];exact hw.reA hn
  refine wpIn_rangeFunc fun fid _=>?_
  have hev:a.eval g=.func (.func gf) #[] (caps.map (PT.den β)).toArray:=evalO_eval ha hg
  have hcd:caps.map (PT.den β)=(caps.map ptSV).map (SV.den β0):=by
    rw [List.map_map]
    refine List.map_congr_left fun p hp=>?_
    show p.den β=(ptSV p).den β0
    rw [<-ptSV_den β p]
    exact SV.den_congr (n:=0) (fun i hi=>by omega) (hcap.of _ (List.mem_map.2 ⟨p,hp,rfl⟩))
  obtain ⟨hD,hwD⟩:=hw2.lay (o:=.deferred (some [])) rfl
  obtain ⟨hl,hwl⟩:=hwD.lay (o:=.loop ⟨.ready,none,fid,a.tmps,ps,assign,body,w.heap.size⟩) rfl
  have hsz1:(w.alloc (.deferred (some []))).heap.size=w.heap.size+1:=Array.size_push ..
  have hne:w.heap.size≠(w.alloc (.deferred (some []))).heap.size:=by omega
  have hl':σ (w.alloc (.deferred (some []))).heap.size=none:=by rw [<-hl,Snap.set_ne (Ne.symm hne)]
  have h0D:σ0 w.heap.size=none:=Snap.none_of_le hw2.le hD
  have h0l:σ0 (w.alloc (.deferred (some []))).heap.size=none:=Snap.none_of_le hw2.le hl'
  let w1:=(w.alloc (.deferred (some []))).alloc (.loop ⟨.ready,none,fid,a.tmps,ps,assign,body,w.heap.size⟩)
  refine ⟨(w.alloc (.deferred (some []))).heap.size,[markD w.heap.size],w1,⟨.fn (.func gf) (caps.map (PT.den β)).toArray,#[.func (.yield (w.alloc (.deferred (some []))).heap.size) #[] #[]]⟩,w1,gf,
    #[.func (.yield (w.alloc (.deferred (some []))).heap.size) #[] #[]]++(caps.map (PT.den β)).toArray,w1,?_,?_,fun _ _=>trivial,?_,fun h=>(by cases h),?_⟩
  · rw [hsz1];exact run_enterLoop_outer fid a.tmps ps assign body
  · show (resolve a.eval (rangeCall g _) 0).run P _=_
    simp only [resolve,hev,Deferred.ofValue,Sem.run_pure,Array.empty_append]
    simp [Act.eval]
  · show (invoke (.fn (.func gf) _) _).run P _=_
    simp only [invoke]
    exact hcall _ _
  · have henv:∀ i x,env.get i=some x->a.tmps[i]?=some (x.den β0):=fun i x hx=>by
      rw [ha.env i x hx]
      congr 1
      exact SV.den_congr (n:=0) (fun i hi=>by omega) ((Bd.of (hp:=[]) hlt trivial).env i x hx)
    have hI:=hit fid w.heap.size (w.alloc (.deferred (some []))).heap.size a.tmps ha.size henv hne hD hl' h0l
    have hargs:(#[.func (.yield (w.alloc (.deferred (some []))).heap.size) #[] #[]]++(caps.map (PT.den β)).toArray:Array Value)=(((.a (.fn (.yield (w.alloc (.deferred (some []))).heap.size) [])::caps.map ptSV).map (SV.den β0)).toArray):=by
      rw [hcd]
      simp [SV.den,AT.den]
    rw [hargs]
    refine callsIn_FR.2 (Calls.mono (hI _ hwl.handInL) ?_)
    rintro e w' ⟨v,σ',A',rfl,h4,h5⟩
    have hσl:((σ.set w.heap.size (some (.deferred (some [])))).set (w.alloc (.deferred (some []))).heap.size (some (.loop ⟨.ready,none,fid,a.tmps,ps,assign,body,w.heap.size⟩))) (w.alloc (.deferred (some []))).heap.size=some (.loop ⟨.ready,none,fid,a.tmps,ps,assign,body,w.heap.size⟩):=Snap.set_self ..
    have hw':=hwl.throughL hσl rfl h0l h4
    have hle:∀ b o,b≠w.heap.size->b≠(w.alloc (.deferred (some []))).heap.size->σ b=some o->σ' b=some o:=fun b o h1 h2 h3=>h4.le b o (by
      show Snap.set _ _ none b=some o
      rw [Snap.set_ne h2,Snap.set_ne h2,Snap.set_ne h1];exact h3)
    have hσD:σ' w.heap.size=some (.deferred (some [])):=h4.le _ _ (by
      show Snap.set _ _ none _=_
      rw [Snap.set_ne hne,Snap.set_ne hne,Snap.set_self])
    have hcle:σ.cle σ':=by
      intro ad x hx
      refine Snap.le.cell h4.le ?_
      show Snap.cell (Snap.set _ _ none) ad=_
      rw [Snap.cell_set (fun o e=>by rw [Snap.set_self] at e;injection e with e;subst e;rfl) (fun _ e=>by cases e),Snap.cell_set (fun o e=>by rw [Snap.set_ne (Ne.symm hne),hl'] at e;cases e) (fun o e=>by injection e with e;subst e;rfl),
        Snap.cell_set (fun o e=>by rw [hD] at e;cases e) (fun o e=>by injection e with e;subst e;rfl)]
      exact hx
    obtain ⟨r',hr1,hr2,hk⟩:=k _ _ _ v σ' A' h5 h0D h0l hσD hcle hle
    have hfin:=hw'.swap (w':=w'.putObj (w.alloc (.deferred (some []))).heap.size (.loop { r' with state:=.exhausted })) none (hw'.sealed _ _ hr1) rfl h0l (hw'.own_of hr1 h0l) rfl rfl rfl (by simp) (fun c hc=>World.putObj_heap_other hc) fun _ e=>(by cases e)
    refine ⟨r'.pending,_,run_endLoop (hw'.sealed _ _ hr1) hr2,?_⟩
    generalize w'.putObj (w.alloc (.deferred (some []))).heap.size (.loop { r' with state:=.exhausted })=wf at hfin
    have ha2:StA ⟨P,w0,σ0,M,N,markD w.heap.size::ds,none⟩ env β { a with defers:=[markD w.heap.size]++a.defers }:=⟨ha.size,by show _++a.defers=_;rw [ha.defers];rfl,ha.env⟩
    cases hp':r'.pending with
    | none =>
      rw [hp'] at hk
      exact hk.run hb _ β _ ha2 (hfin.re _ _ _)
    | some c =>
      rw [hp'] at hk
      exact hk.run hb _ β _ ha2 (hfin.re _ _ _)
theorem enter_m {P:Program} {f:FuncId} {fn:Func} {c:Code} {args:Array Value} {w:World} {M:Nat->Prop} {σ0 σ:Snap} {R:Ending->World->Prop}
    (hf:P.funcs[f]?=some fn) (hb:fn.body=some c) (svs:List SV) (A:List AE) (hargs:args=(svs.map (SV.den β0)).toArray) (hN:Nat.ble svs.length fn.ntmps=true)
    (hlt:LtAll svs) (hw:StW ⟨P,w,σ0,M,fn.ntmps,[],none⟩ σ [] A β0 w)
    (h:CJ ⟨P,w,σ0,M,fn.ntmps,[],none⟩ c (bodyPostM (FR none) 0 P fn R) σ (argEnv 0 svs) [] A 0):Calls P f args w R:=by
  have hN:=Nat.le_of_ble_eq_true hN
  have hlt:=hlt.of
  refine callsIn_FR.1 (callsIn_of_wp_marks (F:=FR none) (n:=0) hf hb trivial (h.run ⟨fun i x hx=>?_,fun _ _ _ h=>by cases h⟩ _ β0 w ⟨?_,rfl,fun i x hx=>?_⟩ hw))
  · obtain ⟨_,h2⟩:=argEnv_get svs 0 i x hx
    exact hlt x (List.mem_of_getElem? h2)
  · subst hargs
    simp only [Array.size_append,List.size_toArray,List.length_map,Array.size_replicate]
    omega
  · obtain ⟨_,h2⟩:=argEnv_get svs 0 i x hx
    simp only [Nat.sub_zero] at h2
    subst hargs
    rw [Array.getElem?_append_left (by simp;exact (List.getElem?_eq_some_iff.1 h2).1)]
    simp [h2]
section
variable {P:Program} {w0:World} {σ0:Snap} {M:Nat->Prop} {N:Nat} {T:List (Nat×TI)} {fn:Func} {Post:Value->World->Snap->Prop} {σ:Snap} {env:Env} {hp:HP} {A:List AE} {nh:Nat} {xs:List S1}
end
def AllS1 (n:Nat):List S1->Prop
  | []=>True
  | x::l=>x.lt n/\AllS1 n l
theorem SV.lt_tup {n:Nat}:∀ {l:List S1},AllS1 n l->(SV.tup l).lt n
  | [],_=>fun _ h=>(by cases h)
  | y::l,h=>fun x hx=>by
    cases hx with
    | head=>exact h.1
    | tail _ hx=>exact SV.lt_tup h.2 x hx
end Go.Sy
/- More rules: values in other words; regions whose stores may come among their reads. No program in sight. -/
namespace Go.Sy
section
variable {cf:Cf} {Q:Exit->Act->World->Prop} {σ:Snap} {env:Env} {hp:HP} {A:List AE} {nh:Nat} {it:Item} {rest:List Item}
theorem StA.set {β:Nat->Addr} {a:Act} (t:Nat) {x y:SV} (h:env.get t=some x) (hxy:x.den β=y.den β) (ha:StA cf env β a):StA cf ((t,y)::env) β a:=by
  refine ⟨ha.size,ha.defers,fun i z hz=>?_⟩
  rw [Env.get_cons] at hz
  by_cases hi:t=i
  · rw [if_pos hi] at hz
    injection hz with hz
    subst hz;subst hi
    rw [<-hxy];exact ha.env t _ h
  · rw [if_neg hi] at hz;exact ha.env i z hz
theorem nj_set {e:Exit} (t:Nat) {x:SV} (y:SV) (h:env.get t=some x) (hy:y.lt nh) (hxy:∀ β,x.den β=y.den β) (k:NJ cf e Q σ ((t,y)::env) hp A nh):NJ cf e Q σ env hp A nh :=
  ⟨fun hb a β w ha hw=>k.run (hb.put hy t) a β w (ha.set t h (hxy β)) hw⟩
variable {W:(Nat->Addr)->World->Prop}
def noQuiet:List Item->Bool
  | []=>true
  | it::l=>(match it.tag with | .quiet=>false | _=>true)&&noQuiet l
theorem run_wider {P:Program} {E E':World->Prop} (hE:∀ w,E w->E' w):∀ (l:List Item) (S:World->Prop) (a:Act),noQuiet l=true->RunT P Q l E S a->RunT P Q l E' S a
  | [],_,_,_,h=>h
  | it::l,S,a,hq,h=>by
    simp only [noQuiet,Bool.and_eq_true] at hq
    simp only [RunT] at h ⊢
    split
    · rename_i hw
      rw [if_pos hw] at h
      cases htag:it.tag with
      | quiet=>rw [htag] at hq;cases hq.1
      | pure =>
        rw [htag] at h
        obtain ⟨v,h1,h2⟩:=h
        exact ⟨v,h1,run_wider hE l S _ hq.2 h2⟩
      | keep =>
        rw [htag] at h
        exact fun w hS=>wq_mono (fun a' w' ⟨E1,S1,h1,h2,h3,h4⟩=>⟨E1,S1,h1,h2,fun x hx=>hE x (h3 x hx),h4⟩) (h w hS)
      | sink=>rw [htag] at h;exact h
      | free=>rw [htag] at h;exact h
    · rename_i hw
      rw [if_neg hw] at h
      exact run_wider hE l S _ hq.2 h
end
theorem SV.lt_fn0 {n:Nat} {f:Fn}:(SV.a (.fn f [])).lt n:=fun _ h=>(by cases h)
end Go.Sy
namespace Go.Sy
open Go.Proofs
def tt:List (Nat×TI):=[
  (1,⟨1,false,[.v .nilFunc],[],.func,8⟩),
  (2,⟨1,false,[.v (.int .i64 0)],[],.int .i64,8⟩),
  (3,⟨1,false,[.v (.int .i64 0)],[],.int .i64,8⟩),
  (4,⟨1,false,[.ff],[],.bool,1⟩),
  (5,⟨1,false,[.v (.int .u8 0)],[],.int .u8,1⟩),
  (6,⟨1,false,[.v (.int .u8 0)],[],.int .u8,1⟩),
  (7,⟨4,true,[.v (.int .i64 0),.v (.int .i64 0),.ff,.v (.int .u8 0)],[(0,1,some false),(1,1,some false),(2,1,some false),(3,1,some false)],.struct,24⟩),
  (8,⟨4,true,[.v (.int .i64 0),.v (.int .i64 0),.ff,.v (.int .u8 0)],[(0,1,some false),(1,1,some false),(2,1,some false),(3,1,some false)],.struct,24⟩),
  (9,⟨1,false,[.v (.string ⟨#[]⟩)],[],.str,16⟩),
  (10,⟨1,false,[.v (.string ⟨#[]⟩)],[],.str,16⟩),
  (11,⟨1,false,[.v (.string ⟨#[]⟩)],[],.str,16⟩),
  (12,⟨1,false,[.v (.int .u64 0)],[],.int .u64,8⟩),
  (13,⟨2,true,[.v (.string ⟨#[]⟩),.v (.int .u64 0)],[(0,1,some false),(1,1,some false)],.struct,24⟩),
  (14,⟨2,true,[.v (.string ⟨#[]⟩),.v (.int .u64 0)],[(0,1,some false),(1,1,some false)],.struct,24⟩),
  (15,⟨1,false,[.v (.pointer none)],[],.ptr 126,8⟩),
  (16,⟨1,false,[.v (.pointer none)],[],.ptr 129,8⟩),
  (17,⟨1,false,[.v (.pointer none)],[],.ptr 137,8⟩),
  (18,⟨1,true,[.v (.pointer none)],[(0,1,some false)],.struct,8⟩),
  (19,⟨1,true,[.v (.pointer none)],[(0,1,some false)],.struct,8⟩),
  (20,⟨1,false,[.v .nilIface],[],.iface,16⟩),
  (21,⟨1,false,[.v (.int .i32 0)],[],.int .i32,4⟩),
  (22,⟨1,false,[.v (.slice none 0 0)],[],.slice 5,24⟩),
  (27,⟨1,false,[.v (.slice none 0 0)],[],.slice 52,24⟩),
  (29,⟨1,false,[.v (.int .i64 0)],[],.int .i64,8⟩),
  (32,⟨1,false,[.v (.slice none 0 0)],[],.slice 49,24⟩),
  (40,⟨3,true,[.ff,.v (.string ⟨#[]⟩),.v (.int .i64 0)],[(0,1,some false),(1,1,some false),(2,1,some false)],.struct,32⟩),
  (44,⟨8,true,[.v (.int .i64 0),.ff,.ff,.v (.string ⟨#[]⟩),.v (.int .i64 0),.v (.string ⟨#[]⟩),.v (.slice none 0 0),.v (.slice none 0 0)],[(0,1,some false),(1,1,some false),(2,3,some true),(5,1,some false),(6,1,some false),(7,1,some false)],.struct,112⟩),
  (49,⟨7,true,[.v (.int .i64 0),.ff,.ff,.v (.string ⟨#[]⟩),.v (.int .i64 0),.v (.string ⟨#[]⟩),.v (.int .i64 0)],[(0,1,some false),(1,1,some false),(2,3,some true),(5,1,some false),(6,1,some false)],.struct,72⟩),
  (52,⟨7,true,[.v (.int .i64 0),.ff,.ff,.v (.string ⟨#[]⟩),.v (.int .i64 0),.v (.string ⟨#[]⟩),.v (.int .i64 0)],[(0,1,some false),(1,1,some false),(2,3,some true),(5,1,some false),(6,1,some false)],.struct,72⟩),
  (61,⟨1,false,[.v .nilFunc],[],.func,8⟩),
  (68,⟨1,false,[.v .nilFunc],[],.func,8⟩),
  (73,⟨1,false,[.v (.int .u64 0)],[],.int .u64,8⟩),
  (74,⟨1,false,[.v .nilFunc],[],.func,8⟩),
  (90,⟨256,true,List.replicate 256 .ff,[],.array 256 4,256⟩),
  (94,⟨1,false,[.v (.pointer none)],[],.ptr 90,8⟩),
  (95,⟨1,false,[.v (.pointer none)],[],.ptr 97,8⟩),
  (97,⟨2,true,[.v (.pointer none),.v (.slice none 0 0)],[(0,1,some false),(1,1,some false)],.struct,32⟩),
  (100,⟨1,false,[.v .nilIface],[],.iface,16⟩),
  (111,⟨1,false,[.v (.pointer none)],[],.ptr 5,8⟩),
  (113,⟨1,false,[.v (.pointer none)],[],.other,8⟩),
  (119,⟨2,true,[.v (.int .u8 0),.v (.int .u8 0)],[(0,1,some false),(1,1,some false)],.struct,2⟩),
  (120,⟨32,true,[.v (.int .u8 0),.v (.int .u8 0),.v (.int .u8 0),.v (.int .u8 0),.v (.int .u8 0),.v (.int .u8 0),.v (.int .u8 0),.v (.int .u8 0),.v (.int .u8 0),.v (.int .u8 0),.v (.int .u8 0),.v (.int .u8 0),.v (.int .u8 0),.v (.int .u8 0),.v (.int .u8 0),.v (.int .u8 0),.v (.int .u8 0),.v (.int .u8 0),.v (.int .u8 0),.v (.int .u8 0),.v (.int .u8 0),.v (.int .u8 0),.v (.int .u8 0),.v (.int .u8 0),.v (.int .u8 0),.v (.int .u8 0),.v (.int .u8 0),.v (.int .u8 0),.v (.int .u8 0),.v (.int .u8 0),.v (.int .u8 0),.v (.int .u8 0)],[],.array 16 119,32⟩),
  (122,⟨1,false,[.v (.int .u32 0)],[],.int .u32,4⟩)
]
theorem tt1:tiOf Tryd.prog 1=some ⟨1,false,[.v .nilFunc],[],.func,8⟩:=by kernel_rfl
theorem tt2:tiOf Tryd.prog 2=some ⟨1,false,[.v (.int .i64 0)],[],.int .i64,8⟩:=by kernel_rfl
theorem tt3:tiOf Tryd.prog 3=some ⟨1,false,[.v (.int .i64 0)],[],.int .i64,8⟩:=by kernel_rfl
theorem tt4:tiOf Tryd.prog 4=some ⟨1,false,[.ff],[],.bool,1⟩:=by kernel_rfl
theorem tt5:tiOf Tryd.prog 5=some ⟨1,false,[.v (.int .u8 0)],[],.int .u8,1⟩:=by kernel_rfl
theorem tt6:tiOf Tryd.prog 6=some ⟨1,false,[.v (.int .u8 0)],[],.int .u8,1⟩:=by kernel_rfl
theorem tt7:tiOf Tryd.prog 7=some ⟨4,true,[.v (.int .i64 0),.v (.int .i64 0),.ff,.v (.int .u8 0)],[(0,1,some false),(1,1,some false),(2,1,some false),(3,1,some false)],.struct,24⟩:=by kernel_rfl
theorem tt8:tiOf Tryd.prog 8=some ⟨4,true,[.v (.int .i64 0),.v (.int .i64 0),.ff,.v (.int .u8 0)],[(0,1,some false),(1,1,some false),(2,1,some false),(3,1,some false)],.struct,24⟩:=by kernel_rfl
theorem tt9:tiOf Tryd.prog 9=some ⟨1,false,[.v (.string ⟨#[]⟩)],[],.str,16⟩:=by kernel_rfl
theorem tt10:tiOf Tryd.prog 10=some ⟨1,false,[.v (.string ⟨#[]⟩)],[],.str,16⟩:=by kernel_rfl
theorem tt11:tiOf Tryd.prog 11=some ⟨1,false,[.v (.string ⟨#[]⟩)],[],.str,16⟩:=by kernel_rfl
theorem tt12:tiOf Tryd.prog 12=some ⟨1,false,[.v (.int .u64 0)],[],.int .u64,8⟩:=by kernel_rfl
theorem tt13:tiOf Tryd.prog 13=some ⟨2,true,[.v (.string ⟨#[]⟩),.v (.int .u64 0)],[(0,1,some false),(1,1,some false)],.struct,24⟩:=by kernel_rfl
theorem tt14:tiOf Tryd.prog 14=some ⟨2,true,[.v (.string ⟨#[]⟩),.v (.int .u64 0)],[(0,1,some false),(1,1,some false)],.struct,24⟩:=by kernel_rfl
theorem tt15:tiOf Tryd.prog 15=some ⟨1,false,[.v (.pointer none)],[],.ptr 126,8⟩:=by kernel_rfl
theorem tt16:tiOf Tryd.prog 16=some ⟨1,false,[.v (.pointer none)],[],.ptr 129,8⟩:=by kernel_rfl
theorem tt17:tiOf Tryd.prog 17=some ⟨1,false,[.v (.pointer none)],[],.ptr 137,8⟩:=by kernel_rfl
theorem tt18:tiOf Tryd.prog 18=some ⟨1,true,[.v (.pointer none)],[(0,1,some false)],.struct,8⟩:=by kernel_rfl
theorem tt19:tiOf Tryd.prog 19=some ⟨1,true,[.v (.pointer none)],[(0,1,some false)],.struct,8⟩:=by kernel_rfl
theorem tt20:tiOf Tryd.prog 20=some ⟨1,false,[.v .nilIface],[],.iface,16⟩:=by kernel_rfl
theorem tt21:tiOf Tryd.prog 21=some ⟨1,false,[.v (.int .i32 0)],[],.int .i32,4⟩:=by kernel_rfl
theorem tt22:tiOf Tryd.prog 22=some ⟨1,false,[.v (.slice none 0 0)],[],.slice 5,24⟩:=by kernel_rfl
theorem tt27:tiOf Tryd.prog 27=some ⟨1,false,[.v (.slice none 0 0)],[],.slice 52,24⟩:=by kernel_rfl
theorem tt29:tiOf Tryd.prog 29=some ⟨1,false,[.v (.int .i64 0)],[],.int .i64,8⟩:=by kernel_rfl
theorem tt32:tiOf Tryd.prog 32=some ⟨1,false,[.v (.slice none 0 0)],[],.slice 49,24⟩:=by kernel_rfl
theorem tt40:tiOf Tryd.prog 40=some ⟨3,true,[.ff,.v (.string ⟨#[]⟩),.v (.int .i64 0)],[(0,1,some false),(1,1,some false),(2,1,some false)],.struct,32⟩:=by kernel_rfl
theorem tt44:tiOf Tryd.prog 44=some ⟨8,true,[.v (.int .i64 0),.ff,.ff,.v (.string ⟨#[]⟩),.v (.int .i64 0),.v (.string ⟨#[]⟩),.v (.slice none 0 0),.v (.slice none 0 0)],[(0,1,some false),(1,1,some false),(2,3,some true),(5,1,some false),(6,1,some false),(7,1,some false)],.struct,112⟩:=by kernel_rfl
theorem tt49:tiOf Tryd.prog 49=some ⟨7,true,[.v (.int .i64 0),.ff,.ff,.v (.string ⟨#[]⟩),.v (.int .i64 0),.v (.string ⟨#[]⟩),.v (.int .i64 0)],[(0,1,some false),(1,1,some false),(2,3,some true),(5,1,some false),(6,1,some false)],.struct,72⟩:=by kernel_rfl
theorem tt52:tiOf Tryd.prog 52=some ⟨7,true,[.v (.int .i64 0),.ff,.ff,.v (.string ⟨#[]⟩),.v (.int .i64 0),.v (.string ⟨#[]⟩),.v (.int .i64 0)],[(0,1,some false),(1,1,some false),(2,3,some true),(5,1,some false),(6,1,some false)],.struct,72⟩:=by kernel_rfl
theorem tt61:tiOf Tryd.prog 61=some ⟨1,false,[.v .nilFunc],[],.func,8⟩:=by kernel_rfl
theorem tt68:tiOf Tryd.prog 68=some ⟨1,false,[.v .nilFunc],[],.func,8⟩:=by kernel_rfl
theorem tt73:tiOf Tryd.prog 73=some ⟨1,false,[.v (.int .u64 0)],[],.int .u64,8⟩:=by kernel_rfl
theorem tt74:tiOf Tryd.prog 74=some ⟨1,false,[.v .nilFunc],[],.func,8⟩:=by kernel_rfl
theorem tt90:tiOf Tryd.prog 90=some ⟨256,true,List.replicate 256 .ff,[],.array 256 4,256⟩:=by kernel_rfl
theorem tt94:tiOf Tryd.prog 94=some ⟨1,false,[.v (.pointer none)],[],.ptr 90,8⟩:=by kernel_rfl
theorem tt95:tiOf Tryd.prog 95=some ⟨1,false,[.v (.pointer none)],[],.ptr 97,8⟩:=by kernel_rfl
theorem tt97:tiOf Tryd.prog 97=some ⟨2,true,[.v (.pointer none),.v (.slice none 0 0)],[(0,1,some false),(1,1,some false)],.struct,32⟩:=by kernel_rfl
theorem tt100:tiOf Tryd.prog 100=some ⟨1,false,[.v .nilIface],[],.iface,16⟩:=by kernel_rfl
theorem tt111:tiOf Tryd.prog 111=some ⟨1,false,[.v (.pointer none)],[],.ptr 5,8⟩:=by kernel_rfl
theorem tt113:tiOf Tryd.prog 113=some ⟨1,false,[.v (.pointer none)],[],.other,8⟩:=by kernel_rfl
theorem tt119:tiOf Tryd.prog 119=some ⟨2,true,[.v (.int .u8 0),.v (.int .u8 0)],[(0,1,some false),(1,1,some false)],.struct,2⟩:=by kernel_rfl
theorem tt120:tiOf Tryd.prog 120=some ⟨32,true,[.v (.int .u8 0),.v (.int .u8 0),.v (.int .u8 0),.v (.int .u8 0),.v (.int .u8 0),.v (.int .u8 0),.v (.int .u8 0),.v (.int .u8 0),.v (.int .u8 0),.v (.int .u8 0),.v (.int .u8 0),.v (.int .u8 0),.v (.int .u8 0),.v (.int .u8 0),.v (.int .u8 0),.v (.int .u8 0),.v (.int .u8 0),.v (.int .u8 0),.v (.int .u8 0),.v (.int .u8 0),.v (.int .u8 0),.v (.int .u8 0),.v (.int .u8 0),.v (.int .u8 0),.v (.int .u8 0),.v (.int .u8 0),.v (.int .u8 0),.v (.int .u8 0),.v (.int .u8 0),.v (.int .u8 0),.v (.int .u8 0),.v (.int .u8 0)],[],.array 16 119,32⟩:=by kernel_rfl
theorem tt122:tiOf Tryd.prog 122=some ⟨1,false,[.v (.int .u32 0)],[],.int .u32,4⟩:=by kernel_rfl
set_option maxRecDepth 100000 in
theorem TT:TTok Tryd.prog tt:=TTok.cons tt1 (TTok.cons tt2 (TTok.cons tt3 (TTok.cons tt4 (TTok.cons tt5 (TTok.cons tt6 (TTok.cons tt7 (TTok.cons tt8 (TTok.cons tt9 (TTok.cons tt10 (TTok.cons tt11 (TTok.cons tt12 (TTok.cons tt13 (TTok.cons tt14 (TTok.cons tt15 (TTok.cons tt16 (TTok.cons tt17 (TTok.cons tt18 (TTok.cons tt19 (TTok.cons tt20 (TTok.cons tt21 (TTok.cons tt22 (TTok.cons tt27 (TTok.cons tt29 (TTok.cons tt32 (TTok.cons tt40 (TTok.cons tt44 (TTok.cons tt49 (TTok.cons tt52 (TTok.cons tt61 (TTok.cons tt68 (TTok.cons tt73 (TTok.cons tt74 (TTok.cons tt90 (TTok.cons tt94 (TTok.cons tt95 (TTok.cons tt97 (TTok.cons tt100 (TTok.cons tt111 (TTok.cons tt113 (TTok.cons tt119 (TTok.cons tt120 (TTok.cons tt122 (TTok.nil _)))))))))))))))))))))))))))))))))))))))))))
end Go.Sy
namespace Go.Sy
open Go.Proofs
theorem mixed:Tryd.prog.follows .mixedOrders=true:=by kernel_rfl
end Go.Sy
namespace Go.Sy
open Go.Proofs
theorem und214:Tryd.prog.underlying 90=some (.array 256 4):=by kernel_rfl
theorem und4:Tryd.prog.underlying 4=some .bool:=by kernel_rfl
theorem cells4:Tryd.prog.cellsOf 4=1:=by kernel_rfl
set_option maxRecDepth 100000 in
set_option maxHeartbeats 1000000 in
theorem contains_c (σ:Snap) (p:UInt8->Bool) (g:Nat) (h:∀ u:UInt8,σ.cell ⟨g,u.toNat,none⟩=some (.bool (p u))) (u:UInt8) :
    PlainS Tryd.prog 72 [.a (.v (.pointer (some ⟨g,0,none⟩))),.a (.v (.int .u8 u.toNat))] σ (fun v=>v=.bool (p u)):=by
  refine enter_p Tryd.func72 rfl rfl (by (repeat' (first | exact trivial | constructor))) fun w=>?_
  have hu:u.toNat<256:=u.toNat_lt
  (repeat (first | refine cj_seq ?_ | refine cjr TT rfl ?_ | refine oj_then ?_))
  refine oj_idx_ptr 4 256 und214 und4 rfl rfl rfl rfl rfl rfl (by omega) (by omega) ⟨g,u.toNat,none⟩ (by rw [show Tryd.prog.cellsOf 4=1 from cells4,add0,Nat.mul_one];rfl) (oj_run TT rfl ?_)
  refine oj_ldS (c:=.b (p u)) TT rfl rfl rfl rfl rfl rfl rfl rfl (h u) trivial (oj_run TT rfl ?_)
  (repeat (first | refine oj_then ?_ | refine cj_ret ?_))
  refine nj_ret TT rfl fun β w' _ _=>?_
  rfl
set_option maxRecDepth 100000 in
set_option maxHeartbeats 1000000 in
theorem trimLeftASCII_c (σ:Snap) (p:UInt8->Bool) (g:Nat) (h:∀ u:UInt8,σ.cell ⟨g,u.toNat,none⟩=some (.bool (p u))) (l:List UInt8) :
    PlainS Tryd.prog 59 [.a (.v (.string (mkB l))),.a (.v (.pointer (some ⟨g,0,none⟩)))] σ (fun v=>v=.string (mkB (l.dropWhile p))):=by
  refine enter_p Tryd.func59 rfl rfl (by (repeat' (first | exact trivial | constructor))) fun w=>?_
  (repeat (first | refine cj_seq ?_ | refine cjr TT rfl ?_ | refine oj_then ?_ | refine cj_block ?_))
  refine cj_loop (fun _=>σ) (fun (k:List UInt8)=>[(0,.a (.v (.string (mkB k)))),(1,.a (.v (.pointer (some ⟨g,0,none⟩))))]) (fun _=>[]) (fun _=>[]) 0
    (fun k=>k.dropWhile p=l.dropWhile p) (fun k=>k.length) l rfl rfl (by (repeat first | exact trivial | refine ⟨rfl,?_⟩)) (by (repeat first | exact trivial | refine ⟨rfl,?_⟩)) rfl (by (repeat' (first | exact trivial | constructor))) (by (repeat' exact trivial)) fun k hk=>?_
  (repeat (first | refine cj_seq ?_ | refine cjr TT rfl ?_ | refine oj_then ?_))
  refine cj_if rfl (fun hc=>?_) (fun hc=>?_)
  · cases k with
    | nil=>simp at hc
    | cons u k =>
      (repeat (first | refine cj_seq ?_ | refine cjr TT rfl ?_ | refine cj_skip ?_ | refine cj_block ?_ | refine nj_then ?_))
      refine oj_index_str (u:=u) TT rfl rfl rfl rfl rfl rfl rfl rfl (by omega) (by rfl) (oj_run TT rfl ?_)
      skip
      refine oj_callP rfl rfl rfl rfl rfl Tryd.call72 (by (repeat' (first | exact trivial | constructor))) (contains_c σ p g h u) fun v hv=>⟨.a (.b (p u)),trivial,hv.symm,?_⟩
      refine oj_run TT rfl ?_
      (repeat refine oj_then ?_)
      refine cj_if rfl (fun hp=>?_) (fun hp=>?_)
      · (repeat (first | refine cj_seq ?_ | refine cjr TT rfl ?_ | refine oj_then ?_ | refine cj_exit ?_ | refine cj_ret ?_ | refine nj_then ?_ | refine nj_then_exit ?_ | refine nj_block_out ?_ | refine nj_block_on rfl ?_))
        refine nj_ret TT rfl fun β w' _ _=>?_
        have:p u=false:=by simpa using hp
        rw [<-hk,List.dropWhile_cons_of_neg (by simp [this])]
        rfl
      · have hp':p u=true:=by simpa using hp
        (repeat (first | refine cjr TT rfl ?_ | refine cj_skip ?_ | refine nj_then ?_))
        refine oj_slice_str (vl:=some (.int .i64 1)) (vh:=none) TT 1 (k.length+1) rfl rfl rfl rfl rfl rfl rfl rfl rfl (.inr ⟨_,_,rfl,rfl⟩) (.inl ⟨rfl,by simp⟩) (by omega) (by simp) (oj_run TT rfl ?_)
        (repeat (first | refine oj_nil ?_ | refine nj_block ?_))
        rw [mkB_extract,show List.drop 1 (List.take (k.length+1) (u::k))=k by simp]
        refine nj_again k ?_ (by simp) rfl (by (repeat first | exact trivial | refine ⟨rfl,?_⟩)) (by (repeat first | exact trivial | refine ⟨rfl,?_⟩)) rfl (by (repeat' (first | exact trivial | constructor))) (by (repeat' exact trivial))
        rw [<-hk,List.dropWhile_cons_of_pos hp']
  · (repeat (first | refine cj_seq ?_ | refine cjr TT rfl ?_ | refine oj_then ?_ | refine cj_exit ?_ | refine cj_ret ?_ | refine nj_then ?_ | refine nj_then_exit ?_ | refine nj_block_out ?_))
    refine nj_ret TT rfl fun β w' _ _=>?_
    have:k=[]:=by cases k with
      | nil=>rfl
      | cons u k=>simp at hc
    subst this
    rw [<-hk]
    rfl
def trimR (p:UInt8->Bool) (l:List UInt8):List UInt8:=(l.reverse.dropWhile p).reverse
theorem trimR_snoc (p:UInt8->Bool) (l:List UInt8) (u:UInt8):trimR p (l++[u])=if p u then trimR p l else l++[u]:=by
  unfold trimR
  rw [List.reverse_append,List.reverse_singleton,List.singleton_append,List.dropWhile_cons]
  split<;>simp
set_option maxRecDepth 100000 in
set_option maxHeartbeats 1000000 in
theorem trimRightASCII_c (σ:Snap) (p:UInt8->Bool) (g:Nat) (h:∀ u:UInt8,σ.cell ⟨g,u.toNat,none⟩=some (.bool (p u))) (l:List UInt8) (hl:l.length<=mostLen) :
    PlainS Tryd.prog 60 [.a (.v (.string (mkB l))),.a (.v (.pointer (some ⟨g,0,none⟩)))] σ (fun v=>v=.string (mkB (trimR p l))):=by
  simp only [mostLen] at hl
  refine enter_p Tryd.func60 rfl rfl (by (repeat' (first | exact trivial | constructor))) fun w=>?_
  (repeat (first | refine cj_seq ?_ | refine cjr TT rfl ?_ | refine oj_then ?_ | refine cj_block ?_))
  refine cj_loop (fun _=>σ) (fun (k:List UInt8)=>[(0,.a (.v (.string (mkB k)))),(1,.a (.v (.pointer (some ⟨g,0,none⟩))))]) (fun _=>[]) (fun _=>[]) 0
    (fun k=>k.length<=l.length/\trimR p k=trimR p l) (fun k=>k.length) l ⟨Nat.le_refl _,rfl⟩ rfl (by (repeat first | exact trivial | refine ⟨rfl,?_⟩)) (by (repeat first | exact trivial | refine ⟨rfl,?_⟩)) rfl (by (repeat' (first | exact trivial | constructor))) (by (repeat' exact trivial)) fun k ⟨hkl,hk⟩=>?_
  have hsz:=mkB_size k
  (repeat (first | refine cj_seq ?_ | refine cjr TT rfl ?_ | refine oj_then ?_))
  refine cj_if rfl (fun hc=>?_) (fun hc=>?_)
  · obtain ⟨k,u,rfl⟩:∃ k' u,k=k'++[u]:=by
      rcases List.eq_nil_or_concat k with rfl | ⟨k',u,rfl⟩
      · simp at hc
      · exact ⟨k',u,by simp⟩
    have hsz:(mkB (k++[u])).size=k.length+1:=by simp
    rw [List.length_append,List.length_singleton] at hkl
    (repeat (first | refine cj_seq ?_ | refine cjr TT rfl ?_ | refine cj_skip ?_ | refine cj_block ?_ | refine nj_then ?_ | (refine oj_minus rfl rfl rfl rfl rfl rfl (by omega) ?_;refine oj_run TT rfl ?_)))
    refine oj_index_str (u:=u) TT rfl rfl rfl rfl rfl rfl rfl rfl (by rw [hsz];omega) (by rw [hsz];simp) (oj_run TT rfl ?_)
    skip
    refine oj_callP rfl rfl rfl rfl rfl Tryd.call72 (by (repeat' (first | exact trivial | constructor))) (contains_c σ p g h u) fun v hv=>⟨.a (.b (p u)),trivial,hv.symm,?_⟩
    refine oj_run TT rfl ?_
    (repeat refine oj_then ?_)
    refine cj_if rfl (fun hp=>?_) (fun hp=>?_)
    · (repeat (first | refine cj_seq ?_ | refine cjr TT rfl ?_ | refine oj_then ?_ | refine cj_exit ?_ | refine cj_ret ?_ | refine nj_then ?_ | refine nj_then_exit ?_ | refine nj_block_out ?_ | refine nj_block_on rfl ?_))
      refine nj_ret TT rfl fun β w' _ _=>?_
      have:p u=false:=by simpa using hp
      rw [<-hk,trimR_snoc,this]
      rfl
    · have hp':p u=true:=by simpa using hp
      (repeat (first | refine cjr TT rfl ?_ | refine cj_skip ?_ | refine nj_then ?_ | (refine oj_minus rfl rfl rfl rfl rfl rfl (by omega) ?_;refine oj_run TT rfl ?_)))
      refine oj_slice_str (vl:=none) (vh:=some (.int .i64 ((mkB (k++[u])).size - 1))) TT 0 k.length rfl rfl rfl rfl rfl rfl rfl rfl rfl (.inl ⟨rfl,rfl⟩) (.inr ⟨_,_,rfl,by rw [hsz];omega⟩) (by omega) (by rw [hsz];omega) (oj_run TT rfl ?_)
      (repeat (first | refine oj_nil ?_ | refine nj_block ?_))
      rw [mkB_extract,show List.drop 0 (List.take k.length (k++[u]))=k by simp]
      refine nj_again k ⟨by omega,?_⟩ (by simp) rfl (by (repeat first | exact trivial | refine ⟨rfl,?_⟩)) (by (repeat first | exact trivial | refine ⟨rfl,?_⟩)) rfl (by (repeat' (first | exact trivial | constructor))) (by (repeat' exact trivial))
      rw [<-hk,trimR_snoc,hp']
      rfl
  · (repeat (first | refine cj_seq ?_ | refine cjr TT rfl ?_ | refine oj_then ?_ | refine cj_exit ?_ | refine cj_ret ?_ | refine nj_then ?_ | refine nj_then_exit ?_ | refine nj_block_out ?_))
    refine nj_ret TT rfl fun β w' _ _=>?_
    have:k=[]:=by cases k with
      | nil=>rfl
      | cons u k=>simp at hc
    subst this
    rw [<-hk]
    rfl
end Go.Sy
namespace Go.Sy
open Go.Proofs
def asciiCells (p:UInt8->Bool):List AT:=(List.range 256).map fun i=>.b (p (UInt8.ofNat i))
theorem asciiCells_len (p:UInt8->Bool):(asciiCells p).length=256:=by simp [asciiCells]
theorem asciiCells_lt (p:UInt8->Bool) (n:Nat):∀ c∈asciiCells p,c.lt n:=by
  intro c hc
  obtain ⟨i,_,rfl⟩:=List.mem_map.1 hc
  trivial
theorem asciiCells_get (p:UInt8->Bool) (u:UInt8):(asciiCells p)[u.toNat]?=some (.b (p u)):=by
  have:=u.toNat_lt
  simp [asciiCells,this]
theorem asciiCells_set (p:UInt8->Bool) (u:UInt8) (β:Nat->Addr):((asciiCells p).set u.toNat .tt).map (AT.den β)=(asciiCells fun x=>p x||x == u).map (AT.den β):=by
  apply List.ext_getElem?
  intro j
  simp only [List.getElem?_map,List.getElem?_set,asciiCells,List.length_map,List.length_range]
  by_cases hj:j<256
  · by_cases huj:u.toNat=j
    · subst huj
      rw [if_pos rfl,if_pos hj]
      simp [hj,AT.den]
    · rw [if_neg huj]
      have hne:UInt8.ofNat j≠u:=fun e=>huj (by rw [<-e];simp;omega)
      simp [hj,AT.den,hne]
  · have:=u.toNat_lt
    rw [if_neg (by omega)]
    simp [hj]
set_option maxRecDepth 100000 in
set_option maxHeartbeats 1000000 in
theorem makeASCIISet_c (σ:Snap) (l:List UInt8) (hl:l.length<=1000) (h128:∀ u∈l,u.toNat<128) :
    PlainS Tryd.prog 58 [.a (.v (.string (mkB l)))] σ (fun v=>v=(SV.tup [.agg (asciiCells l.contains),.a .tt]).den β0):=by
  refine enter_p Tryd.func58 rfl rfl (by (repeat' (first | exact trivial | constructor))) fun w=>?_
  have hsz:=mkB_size l
  (repeat (first | refine cj_seq ?_ | refine cjr TT rfl ?_ | refine oj_then ?_ | refine cj_block ?_))
  refine cj_rowset 0 (asciiCells fun _=>false) rfl (fun β=>?_) (asciiCells_lt _ _) ?_
  · show (List.replicate 256 AT.ff).map _=_
    rw [List.map_replicate,asciiCells,List.map_map]
    exact ((List.map_const' (l:=List.range 256) (b:=Value.bool false)).trans (by rw [List.length_range];rfl)).symm
  refine cj_loop (fun _=>σ) (fun (k:Nat)=>[(0,.a (.v (.string (mkB l)))),(2,.a (.p 0 0)),(4,.a (.v (.int .i64 k)))]) (fun k=>[(0,.loc 90,asciiCells (l.take k).contains)]) (fun _=>[]) 1
    (fun k=>k<=l.length) (fun k=>l.length - k) 0 (Nat.zero_le _) rfl (by (repeat first | exact trivial | refine ⟨rfl,?_⟩)) (by (repeat first | exact trivial | refine ⟨rfl,?_⟩)) rfl (by (repeat' (first | exact trivial | exact Nat.le_of_ble_eq_true rfl | constructor))) ⟨⟨Nat.zero_lt_one,asciiCells_lt _ _⟩,trivial⟩ fun k hk=>?_
  (repeat (first | refine cj_seq ?_ | refine cjr TT rfl ?_ | refine oj_then ?_))
  refine cj_if rfl (fun hc=>?_) (fun hc=>?_)
  · have hlt:k<l.length:=by rw [hsz] at hc;simpa using hc
    have hu:=h128 _ (List.getElem_mem hlt)
    (repeat (first | refine cj_seq ?_ | refine cjr TT rfl ?_ | refine cj_skip ?_ | refine cj_block ?_ | refine nj_then ?_))
    refine oj_index_str (u:=l[k]) TT rfl rfl rfl rfl rfl rfl rfl rfl (by omega) (by simp [hlt]) (oj_run TT rfl ?_)
    (repeat (first | refine cj_seq ?_ | refine cjr TT rfl ?_ | refine oj_then ?_))
    refine cj_if rfl (fun hp=>?_) (fun hp=>?_)
    · simp at hp;omega
    (repeat (first | refine cjr TT rfl ?_ | refine cj_skip ?_ | refine nj_then ?_))
    refine oj_idx_row 4 256 und214 und4 rfl rfl rfl rfl rfl rfl (by omega) (by omega) l[k].toNat (by rw [show Tryd.prog.cellsOf 4=1 from cells4];simp) ?_
    refine oj_store1 (c:=.tt) TT rfl rfl rfl rfl rfl rfl rfl rfl rfl rfl (by rw [asciiCells_len];omega) ?_
    (repeat (first | refine cjr TT rfl ?_ | refine oj_nil ?_ | refine nj_then ?_ | refine nj_block ?_ | (refine oj_add rfl rfl rfl rfl rfl rfl (by omega) ?_;refine oj_run TT rfl ?_)))
    refine nj_rowset 0 (asciiCells (l.take (k+1)).contains) rfl (fun β=>?_) (asciiCells_lt _ _) ?_
    · rw [asciiCells_set]
      congr 2
      funext x
      rw [Bool.eq_iff_iff]
      simp only [Bool.or_eq_true,beq_iff_eq,List.contains_iff_mem]
      rw [List.take_succ_eq_append_getElem hlt,List.mem_append,List.mem_singleton]
    refine nj_again (k+1) hlt (by omega) rfl (by (repeat first | exact trivial | refine ⟨rfl,?_⟩)) (by (repeat first | exact trivial | refine ⟨rfl,?_⟩)) rfl (by (repeat' (first | exact trivial | exact Nat.le_of_ble_eq_true rfl | constructor))) ⟨⟨Nat.zero_lt_one,asciiCells_lt _ _⟩,trivial⟩
  · have hk0:k=l.length:=by rw [hsz] at hc;simp at hc;omega
    subst hk0
    rw [List.take_length]
    (repeat (first | refine cj_seq ?_ | refine cjr TT rfl ?_ | refine oj_then ?_ | refine cj_exit ?_ | refine cj_ret ?_ | refine nj_then ?_ | refine nj_then_exit ?_ | refine nj_block_out ?_))
    refine nj_ret TT rfl fun β w' _ _=>?_
    rfl
def digitB (u:UInt8):Bool:=[48,49,50,51,52,53,54,55,56,57].contains u
def digitsS:ByteArray:=⟨#[48,49,50,51,52,53,54,55,56,57]⟩
set_option maxRecDepth 100000 in
set_option maxHeartbeats 1000000 in
theorem Trim_c (σ:Snap) (l:List UInt8) (hl:l.length<=mostLen) :
    PlainS Tryd.prog 47 [.a (.v (.string (mkB l))),.a (.v (.string digitsS))] σ (fun v=>v=.string (mkB ((trimR digitB l).dropWhile digitB))):=by
  have hsz:=mkB_size l
  refine enter_p Tryd.func47 rfl rfl (by (repeat' (first | exact trivial | constructor))) fun w=>?_
  (repeat (first | refine cj_seq ?_ | refine cjr TT rfl ?_ | refine oj_then ?_))
  refine oj_split 9 rfl (fun h=>?_) (fun h=>?_)
  · have h0:l=[]:=mkB_inj (of_decide_eq_true h)
    subst h0
    refine oj_run TT rfl ?_
    (repeat (first | refine cj_seq ?_ | refine cjr TT rfl ?_ | refine oj_then ?_ | refine cj_if_t rfl ?_ | refine cj_ret ?_ | refine nj_then_ret ?_))
    refine nj_ret TT rfl fun β w' _ _=>?_
    rfl
  refine oj_run TT rfl ?_
  (repeat refine oj_then ?_)
  refine cj_if rfl (fun h=>?_) (fun h=>?_)
  · exact absurd h (by decide)
  (repeat (first | refine cj_seq ?_ | refine cjr TT rfl ?_ | refine cj_skip ?_ | refine nj_then ?_))
  refine oj_split 17 rfl (fun h=>?_) (fun h=>?_)
  · exact absurd h (by decide)
  refine oj_run TT rfl ?_
  (repeat (first | refine cj_seq ?_ | refine cjr TT rfl ?_ | refine oj_then ?_ | refine cj_if_f rfl ?_ | refine cj_skip ?_ | refine nj_then ?_))
  refine oj_callP rfl rfl rfl rfl rfl Tryd.call58 (by (repeat' (first | exact trivial | constructor))) (makeASCIISet_c σ [48,49,50,51,52,53,54,55,56,57] (by decide) (by decide)) fun v hv=>⟨_,?_,hv.symm,?_⟩
  · intro x hx
    simp only [List.mem_cons,List.not_mem_nil,or_false] at hx
    rcases hx with rfl | rfl
    · exact asciiCells_lt _ _
    · trivial
  refine oj_run TT rfl ?_
  (repeat (first | refine cj_seq ?_ | refine cjr TT rfl ?_ | refine oj_then ?_ | refine cj_if_t rfl ?_))
  refine oj_own 0 1 256 rfl (by exact asciiCells_lt digitB 0) rfl (by decide) fun g=>?_
  refine oj_seal 0 rfl rfl rfl fun σ' hle hS=>?_
  have hcell:∀ u:UInt8,σ'.cell ⟨g,u.toNat,none⟩=some (.bool (digitB u)):=by
    intro u
    rcases hS with ⟨h1,_⟩ | ⟨g',h1,h2⟩
    · cases h1
    · injection h1 with h1
      simp only [Addr.mk.injEq,and_true] at h1
      subst h1
      refine h2 u.toNat _ ?_
      show ((asciiCells digitB).map AT.val)[u.toNat]?=_
      rw [List.getElem?_map,asciiCells_get]
      rfl
  refine oj_callP rfl rfl rfl rfl rfl Tryd.call60 (by (repeat' (first | exact trivial | constructor))) (trimRightASCII_c σ' digitB g hcell l hl) fun v hv=>⟨.a (.v (.string (mkB (trimR digitB l)))),trivial,hv.symm,?_⟩
  refine oj_callP rfl rfl rfl rfl rfl Tryd.call59 (by (repeat' (first | exact trivial | constructor))) (trimLeftASCII_c σ' digitB g hcell (trimR digitB l)) fun v hv=>⟨.a (.v (.string (mkB ((trimR digitB l).dropWhile digitB)))),trivial,hv.symm,?_⟩
  refine oj_run TT rfl ?_
  (repeat (first | refine oj_then ?_ | refine cj_ret ?_ | refine nj_then_ret ?_))
  refine nj_ret TT rfl fun β w' _ _=>?_
  rfl
theorem dropWhile_nil (p:UInt8->Bool):∀ (l:List UInt8),l.dropWhile p=[]↔∀ u∈l,p u=true
  | []=>by simp
  | x::l=>by
    rw [List.dropWhile_cons]
    split
    · rename_i h
      rw [dropWhile_nil p l]
      simp [h]
    · rename_i h
      simp [h]
theorem trim_digits (l:List UInt8):(trimR digitB l).dropWhile digitB=[]↔∀ u∈l,digitB u=true:=by
  have hR:trimR digitB l=[]↔∀ u∈l,digitB u=true:=by
    unfold trimR
    rw [List.reverse_eq_nil_iff,dropWhile_nil]
    simp
  constructor
  · intro h
    rw [dropWhile_nil] at h
    by_cases h0:trimR digitB l=[]
    · exact hR.1 h0
    · exfalso
      have hlast:∀ u,(trimR digitB l).getLast?=some u->digitB u=false:=by
        intro u hu
        unfold trimR at hu
        rw [List.getLast?_reverse] at hu
        have:=List.head?_dropWhile_not digitB l.reverse
        rw [hu] at this
        simpa using this
      cases hg:(trimR digitB l).getLast? with
      | none=>rw [List.getLast?_eq_none_iff] at hg;exact h0 hg
      | some u =>
        have h1:=hlast u hg
        have h2:=h u (List.mem_of_getLast? hg)
        rw [h1] at h2;cases h2
  · intro h
    rw [hR.2 h]
    rfl
def decSane (d:GDec):Bool :=
  let l:=d.dg.data.toList
  if l.length=0 then !d.neg&&decide (d.ex=0)
  else decide (l.length<=40)&&l.all digitB&&decide (-800<=d.ex)&&decide (d.ex<=800)&&decide (-400<=l.length+d.ex)&&decide (l.length+d.ex<=400)&&l.head? != some 48&&l.getLast? != some 48
set_option maxRecDepth 100000 in
set_option maxHeartbeats 1000000 in
theorem height_c (σ:Snap) (d:GDec) (h1:d.dg.size<=1000) (h2:-1000<=d.ex) (h3:d.ex<=1000):PlainS Tryd.prog 48 [.agg (decCells d)] σ (fun v=>v=.int .i64 (d.dg.size+d.ex)):=by
  refine enter_p Tryd.func48 rfl rfl (by (repeat' (first | exact trivial | exact decCells_lt _ _ | constructor))) fun w=>?_
  (repeat (first | refine cj_seq ?_ | refine cjr TT rfl ?_ | refine oj_then ?_ | refine cj_ret ?_ | (refine oj_add rfl rfl rfl rfl rfl rfl (by omega) ?_;refine oj_run TT rfl ?_)))
  refine nj_ret TT rfl fun β w' _ _=>?_
  rfl
theorem und23:Tryd.prog.underlying 40=some (.struct (Tryd.prog.fieldsOf 40)):=by kernel_rfl
def fieldsAre:List Field->List (Nat×Nat)->Bool
  | [],[]=>true
  | f :: fs, (t, o) :: l => f.name != "_" && Nat.beq f.type t && Nat.beq f.offset o && fieldsAre fs l
  | _,_=>false
theorem fieldsAre_cons {l : List Field} {t o : Nat} {r : List (Nat × Nat)} (h : fieldsAre l ((t, o) :: r) = true) : ∃ f fs, l = f :: fs ∧ f.name ≠ "_" ∧ f.type = t ∧ f.offset = o ∧ fieldsAre fs r = true := by
  cases l with
  | nil=>cases h
  | cons f fs =>
    simp only [fieldsAre,Bool.and_eq_true,bne_iff_ne,ne_eq] at h
    exact ⟨f,fs,rfl,h.1.1.1,Nat.eq_of_beq_eq_true h.1.1.2,Nat.eq_of_beq_eq_true h.1.2,h.2⟩
theorem eqFields_cons {P : Program} {w : World} {d : Nat} {xs ys : Array Value} {f : Field} {fs : List Field} {a b : Value} {r : Bool} (hn : f.name ≠ "_") (ha : (part f.type xs f.offset).run P w = .ok a w) (hb : (part f.type ys f.offset).run P w = .ok b w)
    (he:(Op.equalIn d f.type a b).run P w=.ok r w):(Op.eqFields d xs ys (f::fs)).run P w=if r then (Op.eqFields d xs ys fs).run P w else .ok false w:=by
  simp only [Op.eqFields,if_pos hn,Sem.run_bind,ha,hb,he,Result.andThen_ok]
  cases r<;>simp
theorem run_part1 {P:Program} {w:World} {t:TypeId} {xs:Array Value} {o:Nat} {d:TypeDesc} {v:Value} (hu:P.underlying t=some d) (hd:aggD d=false) (hv:xs[o]?=some v):(part t xs o).run P w=.ok v w:=by
  simp only [part,Sem.run_bind,run_isAgg hu,hd,Result.andThen_ok,Bool.false_eq_true,if_false,hv,Sem.run_pure]
theorem und9:Tryd.prog.underlying 9=some .string:=by kernel_rfl
theorem und3:Tryd.prog.underlying 3=some (.int .i64):=by kernel_rfl
theorem run_eqStr {P:Program} {w:World} (d:Nat) (t:TypeId) (a b:ByteArray) (h:P.underlying t=some .string):(Op.equalIn (d+1) t (.string a) (.string b)).run P w=.ok (decide (a=b)) w:=by
  simp only [Op.equalIn,Sem.run_bind,run_underlying h,Result.andThen_ok,Sem.run_pure]
  congr 1
  rw [beq_toListBytes,ByteArray.toList_eq,ByteArray.toList_eq,Bool.eq_iff_iff]
  simp only [beq_iff_eq,decide_eq_true_eq]
  exact ⟨fun h=>ByteArray.ext (Array.ext' h),fun h=>by rw [h]⟩
theorem eqDec_ok (m:Nat) (a b:GDec) (w:World):(Op.equalIn (m+1+1) 40 (.agg #[.bool a.neg,.string a.dg,.int .i64 a.ex]) (.agg #[.bool b.neg,.string b.dg,.int .i64 b.ex])).run Tryd.prog w=.ok (decide (a=b)) w:=by
  rw [run_equalIn_agg w (m+1) 40 _ _ und23 (by kernel_rfl)]
  have h:fieldsAre (Tryd.prog.fieldsOf 40).toList [(4,0),(9,1),(3,2)]=true:=by kernel_rfl
  generalize (Tryd.prog.fieldsOf 40).toList=fl at h
  obtain ⟨f0,fl,rfl,n0,t0,o0,h⟩:=fieldsAre_cons h
  obtain ⟨f1,fl,rfl,n1,t1,o1,h⟩:=fieldsAre_cons h
  obtain ⟨f2,fl,rfl,n2,t2,o2,h⟩:=fieldsAre_cons h
  cases fl with
  | cons _ _=>cases h
  | nil =>
    rw [eqFields_cons (r:=a.neg == b.neg) n0 (run_part1 (v:=.bool a.neg) (by rw [t0];exact und4) rfl (by rw [o0];rfl)) (run_part1 (v:=.bool b.neg) (by rw [t0];exact und4) rfl (by rw [o0];rfl)) (run_equalIn_bool' w m f0.type a.neg b.neg (by rw [t0];exact und4))]
    rw [eqFields_cons (r:=decide (a.dg=b.dg)) n1 (run_part1 (v:=.string a.dg) (by rw [t1];exact und9) rfl (by rw [o1];rfl)) (run_part1 (v:=.string b.dg) (by rw [t1];exact und9) rfl (by rw [o1];rfl)) (run_eqStr m f1.type a.dg b.dg (by rw [t1];exact und9))]
    rw [eqFields_cons (r:=a.ex == b.ex) n2 (run_part1 (v:=.int .i64 a.ex) (by rw [t2];exact und3) rfl (by rw [o2];rfl)) (run_part1 (v:=.int .i64 b.ex) (by rw [t2];exact und3) rfl (by rw [o2];rfl)) (run_equalIn_int w m f2.type .i64 .i64 a.ex b.ex (by rw [t2];exact und3))]
    simp only [Op.eqFields,Sem.run_pure]
    have:(decide (a=b))=(a.neg == b.neg&&(decide (a.dg=b.dg)&&a.ex == b.ex)):=by
      rw [Bool.eq_iff_iff]
      cases a;cases b
      simp
    rw [this]
    cases (a.neg == b.neg)<;>cases decide (a.dg=b.dg)<;>cases (a.ex == b.ex)<;>rfl
theorem oj_eqDec {cf:Cf} {Q:Exit->Act->World->Prop} {σ:Snap} {env:Env} {hp:HP} {A:List AE} {nh:Nat} {it:Item} {rest:List Item} {d:Nat} {x y:Operand} {yt:TypeId} {ca cb:List AT} (a b:GDec) (hP:cf.P=Tryd.prog)
    (hop:it.o.op=.binOp .eql 40 x y yt) (hd:it.o.dst=some d) (hg:guardVal it.guard env=some true) (hN:Nat.blt d cf.N=true) (hx:evalO env x=some (.agg ca)) (hy:evalO env y=some (.agg cb)) (hca:∀ β,ca.map (AT.den β)=(decCells a).map (AT.den β)) (hcb:∀ β,cb.map (AT.den β)=(decCells b).map (AT.den β))
    (hk:OJ cf rest Q σ ((d,.a (.b (decide (a=b))))::env) hp A nh):OJ cf (it::rest) Q σ env hp A nh:=by
  refine oj_val (.a (.b (decide (a=b)))) hd hg hN trivial (fun _ ac β ha w=>?_) hk
  have h1:ac.eval x=.agg #[.bool a.neg,.string a.dg,.int .i64 a.ex]:=(evalO_eval ha hx).trans (by simp only [SV.den,hca];rfl)
  have h2:ac.eval y=.agg #[.bool b.neg,.string b.dg,.int .i64 b.ex]:=(evalO_eval ha hy).trans (by simp only [SV.den,hcb];rfl)
  rw [hP]
  have hG:(eqGuard .eql 40 x y (.agg #[.bool a.neg,.string a.dg,.int .i64 a.ex]) (.agg #[.bool b.neg,.string b.dg,.int .i64 b.ex])).run Tryd.prog w=.ok () w:=run_eqGuard_agg w _ _ _ _ _ _ (by kernel_rfl)
  have hE:(Op.equalIn 10000 40 (.agg #[.bool a.neg,.string a.dg,.int .i64 a.ex]) (.agg #[.bool b.neg,.string b.dg,.int .i64 b.ex])).run Tryd.prog w=.ok (decide (a=b)) w:=eqDec_ok 9998 a b w
  have hB:(binOp .eql 40 (.agg #[.bool a.neg,.string a.dg,.int .i64 a.ex]) (.agg #[.bool b.neg,.string b.dg,.int .i64 b.ex])).run Tryd.prog w=.ok (.bool (decide (a=b))) w:=by
    rw [run_eql_struct,hE]
    rfl
  simp only [execOp,hop,h1,h2,Sem.run_bind,hG,hB,Result.andThen_ok,Sem.run_pure]
  rfl
theorem decSane_mk (ng:Bool) (l:List UInt8) (ex:Int) (h0:l.length≠0):decSane ⟨ng,mkB l,ex⟩=(decide (l.length<=40)&&l.all digitB&&decide (-800<=ex)&&decide (ex<=800)&&decide (-400<=l.length+ex)&&decide (l.length+ex<=400)&&l.head? != some 48&&l.getLast? != some 48):=by
  unfold decSane
  exact if_neg h0
def dec0:GDec:=⟨false,⟨#[]⟩,0⟩
set_option maxRecDepth 100000 in
set_option maxHeartbeats 1000000 in
theorem decSane_c (σ:Snap) (d:GDec) (hd:d.dg.size<=mostLen):PlainS Tryd.prog 34 [.agg (decCells d)] σ (fun v=>v=.bool (decSane d)):=by
  obtain ⟨ng,dg,ex⟩:=d
  obtain ⟨l,rfl⟩:=mkB_ex dg
  have hsz:=mkB_size l
  simp only at hd
  rw [hsz] at hd
  have hd':=hd
  simp only [mostLen] at hd'
  refine enter_p Tryd.func34 rfl rfl (by (repeat' (first | exact trivial | exact decCells_lt _ _ | constructor))) fun w=>?_
  (repeat (first | refine cj_seq ?_ | refine cjr TT rfl ?_ | refine oj_then ?_ | refine cj_block ?_))
  refine cj_if rfl (fun h=>?_) (fun h=>?_)
  · have h0:l=[]:=by simpa using h
    subst h0
    (repeat (first | refine cj_seq ?_ | refine cjr TT rfl ?_))
    refine oj_eqDec ⟨ng,mkB [],ex⟩ dec0 rfl rfl rfl rfl rfl rfl rfl (fun _=>rfl) (fun _=>rfl) (oj_run TT rfl ?_)
    (repeat (first | refine oj_then ?_ | refine cj_ret ?_ | refine nj_then_ret ?_ | refine nj_block_ret ?_))
    refine nj_ret TT rfl fun β w' _ _=>?_
    show Value.bool _=_
    congr 1
    simp only [decSane,mkB_list,List.length_nil,if_true,dec0,GDec.mk.injEq]
    rw [Bool.eq_iff_iff]
    cases ng<;>simp [mkB]
  · have h0:l≠[]:=by simpa using h
    have hl0:l.length≠0:=by simpa using h0
    have hlb:(mkB l).size=l.length:=hsz
    (repeat (first | refine cj_seq ?_ | refine cjr TT rfl ?_))
    refine oj_split 17 rfl (fun h=>?_) (fun h=>?_)
    · have h40:40<l.length:=by simp at h;omega
      refine oj_run TT rfl ?_
      (repeat (first | refine cj_seq ?_ | refine cjr TT rfl ?_ | refine oj_then ?_ | refine cj_if_t rfl ?_ | refine cj_ret ?_ | refine nj_then_ret ?_ | refine nj_block_ret ?_))
      refine nj_ret TT rfl fun β w' _ _=>?_
      show Value.bool false=_
      congr 1
      rw [decSane_mk _ _ _ hl0,show decide (l.length<=40)=false by simp;omega]
      simp
    have h40:l.length<=40:=by simp at h;omega
    refine oj_run TT rfl ?_
    refine oj_callP rfl rfl rfl rfl rfl Tryd.call47 (by (repeat' (first | exact trivial | constructor))) (Trim_c σ l hd) fun v hv=>⟨.a (.v (.string (mkB ((trimR digitB l).dropWhile digitB)))),trivial,hv.symm,?_⟩
    refine oj_run TT rfl ?_
    (repeat refine oj_then ?_)
    have htr:(decide (mkB ((trimR digitB l).dropWhile digitB)=⟨#[]⟩))=l.all digitB:=by
      rw [Bool.eq_iff_iff,decide_eq_true_eq,List.all_eq_true,<-trim_digits]
      exact ⟨fun h=>mkB_inj h,fun h=>by rw [h];rfl⟩
    refine cj_if rfl (fun h=>?_) (fun h=>?_)
    · rw [htr] at h
      (repeat (first | refine cj_seq ?_ | refine cjr TT rfl ?_ | refine oj_then ?_ | refine cj_ret ?_ | refine nj_then_ret ?_ | refine nj_block_ret ?_))
      refine nj_ret TT rfl fun β w' _ _=>?_
      show Value.bool false=_
      congr 1
      rw [decSane_mk _ _ _ hl0,show l.all digitB=false by simpa using h]
      simp
    rw [htr] at h
    have hall:l.all digitB=true:=by simpa using h
    (repeat (first | refine cj_seq ?_ | refine cjr TT rfl ?_))
    refine oj_split 27 rfl (fun h=>?_) (fun h=>?_)
    · refine oj_run TT rfl ?_
      (repeat (first | refine cj_seq ?_ | refine cjr TT rfl ?_ | refine oj_then ?_ | refine cj_if_t rfl ?_ | refine cj_ret ?_ | refine nj_then_ret ?_ | refine nj_block_ret ?_))
      refine nj_ret TT rfl fun β w' _ _=>?_
      show Value.bool false=_
      congr 1
      have:ex < -800:=by simpa using h
      rw [decSane_mk _ _ _ hl0,show decide (-800<=ex)=false by simp;omega]
      simp
    have hex1:-800<=ex:=by simpa using h
    refine oj_run TT rfl ?_
    (repeat refine oj_then ?_)
    refine cj_if rfl (fun h=>?_) (fun h=>?_)
    · (repeat (first | refine cj_seq ?_ | refine cjr TT rfl ?_ | refine oj_then ?_ | refine cj_ret ?_ | refine nj_then_ret ?_ | refine nj_block_ret ?_))
      refine nj_ret TT rfl fun β w' _ _=>?_
      show Value.bool false=_
      congr 1
      have:800<ex:=by simpa using h
      rw [decSane_mk _ _ _ hl0,show decide (ex<=800)=false by simp;omega]
      simp
    have hex2:ex<=800:=by simpa using h
    (repeat (first | refine cj_seq ?_ | refine cjr TT rfl ?_ | refine cj_skip ?_ | refine nj_then ?_ | refine nj_block ?_))
    refine oj_callP rfl rfl rfl rfl rfl Tryd.call48 (by (repeat' (first | exact trivial | exact decCells_lt _ _ | constructor))) (height_c σ ⟨ng,mkB l,ex⟩ (by show (mkB l).size<=1000;omega) (by show -1000<=ex;omega) (by show ex<=1000;omega)) fun v hv=>⟨.a (.v (.int .i64 ((mkB l).size+ex))),trivial,hv.symm,?_⟩
    refine oj_run TT rfl ?_
    (repeat (first | refine cj_seq ?_ | refine cjr TT rfl ?_ | refine oj_then ?_))
    have hfin:decSane ⟨ng,mkB l,ex⟩=(decide (-400<=l.length+ex)&&decide (l.length+ex<=400)&&l.head? != some 48&&l.getLast? != some 48):=by
      rw [decSane_mk _ _ _ hl0,hall,show decide (l.length<=40)=true by simp;omega,show decide (-800<=ex)=true by simp;omega,show decide (ex<=800)=true by simp;omega]
      simp
    have hx:(((mkB l).size:Nat):Int)=l.length:=by rw [hsz]
    refine oj_split 36 rfl (fun h=>?_) (fun h=>?_)
    rotate_left
    · refine oj_run TT rfl ?_
      (repeat (first | refine oj_then ?_ | refine cj_ret ?_))
      refine nj_ret TT rfl fun β w' _ _=>?_
      show Value.bool false=_
      congr 1
      rw [hfin,show decide (-400<=(l.length:Int)+ex)=false by rw [<-hx];exact h]
      simp
    have e1:decide (-400<=(l.length:Int)+ex)=true:=by rw [<-hx];exact h
    refine oj_run TT rfl ?_
    refine oj_split 40 rfl (fun h=>?_) (fun h=>?_)
    rotate_left
    · refine oj_run TT rfl ?_
      (repeat (first | refine oj_then ?_ | refine cj_ret ?_))
      refine nj_ret TT rfl fun β w' _ _=>?_
      show Value.bool false=_
      congr 1
      rw [hfin,show decide ((l.length:Int)+ex<=400)=false by rw [<-hx];exact h]
      simp
    have e2:decide ((l.length:Int)+ex<=400)=true:=by rw [<-hx];exact h
    refine oj_run TT rfl ?_
    have hlt:0<l.length:=by omega
    refine oj_index_str (u:=l[0]) TT rfl rfl rfl rfl rfl rfl rfl rfl (by omega) (by simp [hlt]) (oj_run TT rfl ?_)
    have e3:(l.head? != some 48)=!decide ((l[0].toNat:Int)=48):=by
      rw [List.head?_eq_getElem?,List.getElem?_eq_getElem hlt,Bool.eq_iff_iff]
      simp [<-UInt8.toNat_inj]
      omega
    refine oj_split 46 rfl (fun h=>?_) (fun h=>?_)
    rotate_left
    · refine oj_run TT rfl ?_
      (repeat (first | refine oj_then ?_ | refine cj_ret ?_))
      refine nj_ret TT rfl fun β w' _ _=>?_
      show Value.bool false=_
      congr 1
      rw [hfin,e3,h]
      simp
    refine oj_run TT rfl ?_
    refine oj_minus rfl rfl rfl rfl rfl rfl (by show -9223372036854775808<=((mkB l).size:Int) - 1/\((mkB l).size:Int) - 1<=9223372036854775807;omega) (oj_run TT rfl ?_)
    refine oj_index_str (u:=l[l.length - 1]) TT rfl rfl rfl rfl rfl rfl rfl rfl (by show 0<=((mkB l).size:Int) - 1;omega) (by
      show l[(((mkB l).size:Int) - 1).toNat]?=_
      rw [show (((mkB l).size:Int) - 1).toNat=l.length - 1 by omega,List.getElem?_eq_getElem (by omega)]) (oj_run TT rfl ?_)
    have e4:(l.getLast? != some 48)=!decide ((l[l.length - 1].toNat:Int)=48):=by
      rw [List.getLast?_eq_getElem?,List.getElem?_eq_getElem (by omega),Bool.eq_iff_iff]
      simp [<-UInt8.toNat_inj]
      omega
    (repeat (first | refine oj_then ?_ | refine cj_ret ?_))
    refine nj_ret TT rfl fun β w' _ _=>?_
    show Value.bool _=_
    congr 1
    rw [hfin,e1,e2,e3,e4,h]
    simp
end Go.Sy
/- Plain law: parts as bytes, and bytes as parts. No program in sight. -/
namespace Go.Sy
structure GPart where
  kd:Int
  b:Bool
  n:GDec
  s:ByteArray
  i:Int
deriving DecidableEq
def emptyB:ByteArray:=⟨#[]⟩
def part0:GPart:=⟨0,false,dec0,emptyB,0⟩
def rightG (p:GPart):Bool :=
  if p.kd=0 then decide (p=part0)
  else if p.kd=1 then decide ((⟨0,false,p.n,p.s,p.i⟩:GPart)=part0)
  else if p.kd=2 then decide ((⟨0,p.b,dec0,p.s,p.i⟩:GPart)=part0)&&decSane p.n
  else if p.kd=3 then decide ((⟨0,p.b,p.n,emptyB,p.i⟩:GPart)=part0)
  else if p.kd=9 then decide ((⟨0,p.b,p.n,p.s,0⟩:GPart)=part0)&&decide (0<=p.i)&&decide (p.i<=4294967295)
  else false
inductive Rt:GPart->Prop
  | null:Rt part0
  | bool (b:Bool):Rt ⟨1,b,dec0,emptyB,0⟩
  | num (n:GDec) (h:decSane n=true):Rt ⟨2,false,n,emptyB,0⟩
  | str (s:ByteArray):Rt ⟨3,false,dec0,s,0⟩
  | whole (i:Int) (h1:0<=i) (h2:i<=4294967295):Rt ⟨9,false,dec0,emptyB,i⟩
theorem right_iff (p:GPart):rightG p=true↔Rt p:=by
  obtain ⟨kd,b,n,s,i⟩:=p
  constructor
  · intro h
    unfold rightG at h
    dsimp only at h
    split at h
    · rename_i h0
      rw [decide_eq_true_eq] at h
      rw [h]
      exact Rt.null
    split at h
    · rename_i h0 h1
      simp only [decide_eq_true_eq,part0,GPart.mk.injEq,true_and] at h
      obtain ⟨rfl,rfl,rfl⟩:=h
      subst h1
      exact Rt.bool b
    split at h
    · rename_i h0 h1 h2
      simp only [Bool.and_eq_true,decide_eq_true_eq,part0,GPart.mk.injEq,true_and] at h
      obtain ⟨⟨rfl,rfl,rfl⟩,hs⟩:=h
      subst h2
      exact Rt.num n hs
    split at h
    · rename_i h0 h1 h2 h3
      simp only [decide_eq_true_eq,part0,GPart.mk.injEq,true_and] at h
      obtain ⟨rfl,rfl,rfl⟩:=h
      subst h3
      exact Rt.str s
    split at h
    · rename_i h0 h1 h2 h3 h9
      simp only [Bool.and_eq_true,decide_eq_true_eq,part0,GPart.mk.injEq,true_and,and_true] at h
      obtain ⟨⟨⟨rfl,rfl,rfl⟩,ha⟩,hb⟩:=h
      subst h9
      exact Rt.whole i ha hb
    · cases h
  · intro h
    cases h with
    | null=>rfl
    | bool b=>simp [rightG,part0]
    | num n h=>simp [rightG,part0,h]
    | str s=>simp [rightG,part0]
    | whole i h1 h2=>simp [rightG,part0,h1,h2]
def byteOf (x:Int):UInt8:=UInt8.ofNat (x % 256).toNat
theorem byteOf_nat (x:Int):((byteOf x).toNat:Int)=x % 256:=by
  unfold byteOf
  rw [UInt8.toNat_ofNat']
  omega
theorem all8 {p:UInt8->Prop} (h:∀ n:Fin 256,p (UInt8.ofNat n.val)) (c:UInt8):p c:=by
  have:=h ⟨c.toNat,c.toNat_lt⟩
  simpa using this
theorem turn_turn:∀ c:UInt8,255 - (255 - c)=c:=all8 (by decide +kernel)
theorem fig_back:∀ c:UInt8,48+(c - 48+1) - 1=c:=all8 (by decide +kernel)
theorem fig_there:∀ c:UInt8,(48+c - 1) - 48+1=c:=all8 (by decide +kernel)
theorem fig_iff':∀ c:UInt8,digitB c=true->c - 48+1≠0/\c - 48+1<=10:=all8 (by decide +kernel)
def sizeG (d:GDec):List UInt8 :=
  byteOf ((d.dg.size+d.ex+1000) / 256)::byteOf (d.dg.size+d.ex+1000)::(d.dg.data.toList.map (fun c=>c - 48+1)++[0])
def turnG (l:List UInt8):List UInt8:=l.map fun c=>255 - c
theorem turnG_turn (l:List UInt8):turnG (turnG l)=l:=by
  unfold turnG
  rw [List.map_map]
  conv=>rhs;rw [<-List.map_id l]
  exact List.map_congr_left fun c _=>turn_turn c
def escG:List UInt8->List UInt8
  | []=>[]
  | c::l=>if c=0 then 0::255::escG l else c::escG l
def putG (p:GPart):List UInt8 :=
  if p.kd=0 then [16]
  else if p.kd=1 then [if p.b then 33 else 32]
  else if p.kd=2 then (if p.n.dg.size=0 then [49] else if p.n.neg then 48::turnG (sizeG p.n) else 50::sizeG p.n)
  else if p.kd=3 then 64::(escG p.s.data.toList++[0,0])
  else [80,byteOf (p.i / 16777216),byteOf (p.i / 65536),byteOf (p.i / 256),byteOf p.i]
def encG (l:List GPart):List UInt8×Int :=
  if 16<l.length then ([],4) else if l.all rightG then (l.flatMap putG,0) else ([],1)
def zsplit:List UInt8->Option (List UInt8×List UInt8)
  | []=>none
  | c::l=>if c=0 then some ([],l) else (zsplit l).map fun p=>(c::p.1,p.2)
theorem zsplit_some:∀ {l a r:List UInt8},zsplit l=some (a,r)->l=a++0::r/\∀ c∈a,c≠0
  | [],_,_,h=>by cases h
  | c::l,a,r,h=>by
    unfold zsplit at h
    split at h
    · rename_i h0
      injection h with h
      injection h with h1 h2
      subst h1 h2 h0
      exact ⟨rfl,fun c hc=>by cases hc⟩
    · rename_i h0
      cases hz:zsplit l with
      | none=>rw [hz] at h;cases h
      | some p =>
        rw [hz] at h
        injection h with h
        injection h with h1 h2
        obtain ⟨e1,e2⟩:=zsplit_some (l:=l) (a:=p.1) (r:=p.2) hz
        subst h1 h2
        refine ⟨by rw [List.cons_append,<-e1],fun x hx=>?_⟩
        rcases List.mem_cons.1 hx with rfl | hx
        · exact h0
        · exact e2 x hx
theorem zsplit_of:∀ (a r:List UInt8),(∀ c∈a,c≠0)->zsplit (a++0::r)=some (a,r)
  | [],r,_=>by simp [zsplit]
  | c::a,r,h=>by
    rw [List.cons_append,zsplit,if_neg (h c List.mem_cons_self),zsplit_of a r fun x hx=>h x (List.mem_cons_of_mem c hx)]
    rfl
theorem zsplit_none:∀ {l:List UInt8},zsplit l=none↔∀ c∈l,c≠0
  | []=>by simp [zsplit]
  | c::l=>by
    unfold zsplit
    split
    · rename_i h0
      simp [h0]
    · rename_i h0
      rw [Option.map_eq_none_iff,zsplit_none]
      simp [h0]
def decOf (neg:Bool) (x y:UInt8) (ds:List UInt8):GDec:=⟨neg,mkB (ds.map fun c=>48+c - 1),x.toNat*256+y.toNat - 1000 - ds.length⟩
def numberG (b:List UInt8) (neg:Bool):Option (GDec×List UInt8) :=
  match (if neg then turnG b else b) with
  | x::y::s =>
    match zsplit s with
    | some (ds,_)=>if ds=[]\/(ds.any fun c=>decide (10<c))=true\/decSane (decOf neg x y ds)=false then none else some (decOf neg x y ds,b.drop (3+ds.length))
    | none=>none
  | _=>none
def textG:List UInt8->Option (List UInt8×List UInt8)
  | []=>none
  | [_]=>none
  | c::d::r =>
    if c≠0 then (textG (d::r)).map fun p=>(c::p.1,p.2)
    else if d=0 then some ([],r) else if d=255 then (textG r).map fun p=>(0::p.1,p.2) else none
def firstG (b:List UInt8):Option (GPart×List UInt8) :=
  match b with
  | []=>none
  | t::r =>
    if t=16 then some (part0,r)
    else if t=32\/t=33 then some (⟨1,decide (t=33),dec0,emptyB,0⟩,r)
    else if t=49 then some (⟨2,false,dec0,emptyB,0⟩,r)
    else if t=48\/t=50 then (numberG r (decide (t=48))).map fun p=>(⟨2,false,p.1,emptyB,0⟩,p.2)
    else if t=64 then (textG r).map fun p=>(⟨3,false,dec0,mkB p.1,0⟩,p.2)
    else if t=80 then
      match r with
      | a::b::c::d::r=>some (⟨9,false,dec0,emptyB,(a.toNat:Int)*16777216+b.toNat*65536+c.toNat*256+d.toNat⟩,r)
      | _=>none
    else none
def decF:Nat->Nat->List UInt8->Except Int (List GPart)
  | 0,_,_=>.ok []
  | _+1,_,[]=>.ok []
  | n+1,k,c::b =>
    match firstG (c::b) with
    | none=>.error 2
    | some (p,r)=>if k=16 then .error 4 else
      match decF n (k+1) r with
      | .ok l=>.ok (p::l)
      | .error e=>.error e
def decG (b:List UInt8):List GPart×Int :=
  match decF b.length 0 b with
  | .ok l=>(l,0)
  | .error e=>([],e)
theorem esc_text:∀ (s u:List UInt8),textG (escG s++0::0::u)=some (s,u)
  | [],u=>by simp [escG,textG]
  | c::s,u=>by
    have ih:=esc_text s u
    unfold escG
    split
    · rename_i h0
      subst h0
      rw [List.cons_append,List.cons_append,textG,ih]
      simp
    · rename_i h0
      have:∃ d r,escG s++0::0::u=d::r:=by
        cases h:escG s++0::0::u with
        | nil=>simp at h
        | cons d r=>exact ⟨d,r,rfl⟩
      obtain ⟨d,r,e⟩:=this
      rw [List.cons_append,e,textG,if_pos h0,<-e,ih]
      rfl
theorem text_esc:∀ (b:List UInt8) {s r:List UInt8},textG b=some (s,r)->b=escG s++0::0::r
  | [],_,_,h=>by cases h
  | [_],_,_,h=>by cases h
  | c::d::b,s,r,h=>by
    unfold textG at h
    split at h
    · rename_i h0
      cases hz:textG (d::b) with
      | none=>rw [hz] at h;cases h
      | some p =>
        rw [hz] at h
        injection h with h
        injection h with h1 h2
        have:=text_esc (d::b) (s:=p.1) (r:=p.2) hz
        subst h1 h2
        rw [this,escG,if_neg h0]
        rfl
    · rename_i h0
      have h0:c=0:=by simpa using h0
      split at h
      · rename_i hd
        injection h with h
        injection h with h1 h2
        subst h1 h2 h0 hd
        rfl
      · split at h
        · rename_i hd0 hd
          cases hz:textG b with
          | none=>rw [hz] at h;cases h
          | some p =>
            rw [hz] at h
            injection h with h
            injection h with h1 h2
            have:=text_esc b (s:=p.1) (r:=p.2) hz
            subst h1 h2 h0 hd
            rw [this,escG,if_pos rfl]
            rfl
        · cases h
theorem sane_size {d:GDec} (h:decSane d=true) (h0:d.dg.size≠0):(∀ c∈d.dg.data.toList,digitB c=true) /\ -400<=d.dg.size+d.ex/\d.dg.size+d.ex<=400:=by
  obtain ⟨ng,dg,ex⟩:=d
  obtain ⟨l,rfl⟩:=mkB_ex dg
  simp only [mkB_size] at h0 ⊢
  rw [decSane_mk _ _ _ h0] at h
  simp only [Bool.and_eq_true,decide_eq_true_eq,List.all_eq_true] at h
  obtain ⟨⟨⟨⟨⟨⟨⟨-,h1⟩,-⟩,-⟩,h2⟩,h3⟩,-⟩,-⟩:=h
  exact ⟨h1,h2,h3⟩
theorem sane_zero {d:GDec} (h:decSane d=true) (h0:d.dg.size=0):d=dec0:=by
  obtain ⟨ng,dg,ex⟩:=d
  obtain ⟨l,rfl⟩:=mkB_ex dg
  have h0:l.length=0:=by simpa using h0
  have hl:l=[]:=List.eq_nil_of_length_eq_zero h0
  subst hl
  simp only [decSane,mkB_list,List.length_nil,if_true,Bool.and_eq_true,Bool.not_eq_true',decide_eq_true_eq] at h
  obtain ⟨rfl,rfl⟩:=h
  rfl
theorem any_false_of {l:List UInt8} (h:∀ c∈l,c<=10):(l.any fun c=>decide (10<c))=false:=by
  rw [List.any_eq_false]
  intro c hc
  have:=h c hc
  rw [decide_eq_true_eq,UInt8.not_lt]
  exact this
theorem dec_of_size {d:GDec} (h:decSane d=true) (h0:d.dg.size≠0):decOf d.neg (byteOf ((d.dg.size+d.ex+1000) / 256)) (byteOf (d.dg.size+d.ex+1000)) (d.dg.data.toList.map fun c=>c - 48+1)=d:=by
  obtain ⟨-,h1,h2⟩:=sane_size h h0
  obtain ⟨ng,dg,ex⟩:=d
  obtain ⟨l,rfl⟩:=mkB_ex dg
  simp only [mkB_size] at h1 h2 ⊢
  unfold decOf
  rw [mkB_list,List.map_map,List.length_map,byteOf_nat,byteOf_nat]
  congr 1
  · congr 1
    conv=>rhs;rw [<-List.map_id l]
    exact List.map_congr_left fun c _=>fig_back c
  · omega
theorem size_len (d:GDec):(sizeG d).length=3+d.dg.size:=by
  unfold sizeG
  rw [List.length_cons,List.length_cons,List.length_append,List.length_map,List.length_singleton,Array.length_toList]
  show d.dg.data.size+1+1+1=3+d.dg.data.size
  omega
theorem size_number {d:GDec} (h:decSane d=true) (h0:d.dg.size≠0) (u:List UInt8):numberG ((if d.neg then turnG (sizeG d) else sizeG d)++u) d.neg=some (d,u):=by
  obtain ⟨hd,-,-⟩:=sane_size h h0
  have hs:(if d.neg then turnG ((if d.neg then turnG (sizeG d) else sizeG d)++u) else ((if d.neg then turnG (sizeG d) else sizeG d)++u))=sizeG d++(if d.neg then turnG u else u):=by
    cases d.neg
    · rfl
    · show turnG (turnG (sizeG d)++u)=sizeG d++turnG u
      have:turnG (turnG (sizeG d)++u)=turnG (turnG (sizeG d))++turnG u:=List.map_append
      rw [this,turnG_turn]
  unfold numberG
  rw [hs]
  unfold sizeG
  rw [List.cons_append,List.cons_append,List.append_assoc]
  dsimp only
  rw [show ([0]++(if d.neg then turnG u else u))=0::(if d.neg then turnG u else u) from rfl,zsplit_of _ _ (fun c hc=>by
    obtain ⟨x,hx,rfl⟩:=List.mem_map.1 hc
    exact (fig_iff' x (hd x hx)).1)]
  dsimp only
  rw [dec_of_size h h0,if_neg,List.length_map]
  · congr 2
    have hl:(if d.neg then turnG (sizeG d) else sizeG d).length=3+d.dg.data.toList.length:=by
      have:=size_len d
      split
      · unfold turnG;rw [List.length_map,this];rfl
      · rw [this];rfl
    show List.drop (3+d.dg.data.toList.length) _=u
    rw [<-hl]
    exact List.drop_left
  · rintro (h1 | h1 | h1)
    · rw [List.map_eq_nil_iff] at h1
      exact h0 (by show d.dg.data.size=0;rw [<-Array.length_toList,h1];rfl)
    · rw [any_false_of fun c hc=>by
        obtain ⟨x,hx,rfl⟩:=List.mem_map.1 hc
        exact (fig_iff' x (hd x hx)).2] at h1
      cases h1
    · rw [h] at h1;cases h1
theorem first_put {p:GPart} (h:Rt p) (u:List UInt8):firstG (putG p++u)=some (p,u):=by
  cases h with
  | null=>rfl
  | bool b=>cases b<;>rfl
  | num n h =>
    unfold putG
    dsimp only
    rw [if_neg (by decide),if_neg (by decide),if_pos rfl]
    by_cases h0:n.dg.size=0
    · rw [if_pos h0,sane_zero h h0]
      rfl
    rw [if_neg h0]
    have hn:=size_number h h0 u
    cases hneg:n.neg with
    | true =>
      rw [hneg] at hn
      simp only [if_true] at hn ⊢
      rw [List.cons_append]
      unfold firstG
      dsimp only
      rw [if_neg (by decide),if_neg (by decide),if_neg (by decide),if_pos (.inl rfl),decide_eq_true rfl,hn]
      rfl
    | false =>
      rw [hneg] at hn
      simp only [Bool.false_eq_true,if_false] at hn ⊢
      rw [List.cons_append]
      unfold firstG
      dsimp only
      rw [if_neg (by decide),if_neg (by decide),if_neg (by decide),if_pos (.inr rfl),show decide ((50:UInt8)=48)=false from rfl,hn]
      rfl
  | str s =>
    unfold putG
    dsimp only
    rw [if_neg (by decide),if_neg (by decide),if_neg (by decide),if_pos rfl,List.cons_append,List.append_assoc]
    unfold firstG
    dsimp only
    rw [if_neg (by decide),if_neg (by decide),if_neg (by decide),if_neg (by decide),if_pos rfl,show [0,0]++u=0::0::u from rfl,esc_text]
    rfl
  | whole i h1 h2 =>
    show firstG (80::byteOf (i / 16777216)::byteOf (i / 65536)::byteOf (i / 256)::byteOf i::u)=_
    unfold firstG
    dsimp only
    rw [if_neg (by decide),if_neg (by decide),if_neg (by decide),if_neg (by decide),if_neg (by decide),if_pos rfl]
    rw [byteOf_nat,byteOf_nat,byteOf_nat,byteOf_nat]
    congr 3
    omega
theorem byteOf_of {x:Int} {a:UInt8} (h:x % 256=a.toNat):byteOf x=a:=by
  apply UInt8.toNat_inj.1
  have:=byteOf_nat x
  omega
theorem number_size {b r:List UInt8} {neg:Bool} {d:GDec} (h:numberG b neg=some (d,r)):d.neg=neg/\decSane d=true/\d.dg.size≠0/\b=(if neg then turnG (sizeG d) else sizeG d)++r:=by
  unfold numberG at h
  split at h
  · rename_i x y s hb
    cases hz:zsplit s with
    | none=>rw [hz] at h;cases h
    | some q =>
      obtain ⟨ds,t⟩:=q
      obtain ⟨e1,e2⟩:=zsplit_some hz
      rw [hz] at h
      dsimp only at h
      split at h
      · cases h
      · rename_i hc
        injection h with h
        injection h with h1 h2
        have hc1:ds≠[]:=fun h=>hc (.inl h)
        have hc2:(ds.any fun c=>decide (10<c))=false:=by simpa using fun h=>hc (.inr (.inl h))
        have hc3:decSane (decOf neg x y ds)=true:=by simpa using fun h=>hc (.inr (.inr h))
        have hsz:(decOf neg x y ds).dg.size=ds.length:=by simp [decOf]
        have hsize:sizeG (decOf neg x y ds)=x::y::(ds++[0]):=by
          unfold sizeG
          rw [hsz]
          have hx:=x.toNat_lt
          have hy:=y.toNat_lt
          show byteOf ((ds.length+(x.toNat*256+y.toNat - 1000 - ds.length)+1000) / 256)::byteOf (ds.length+(x.toNat*256+y.toNat - 1000 - ds.length)+1000)::(((mkB (ds.map fun c=>48+c - 1)).data.toList.map fun c=>c - 48+1)++[0])=_
          rw [byteOf_of (a:=x) (by omega),byteOf_of (a:=y) (by omega),mkB_list,List.map_map]
          congr 3
          conv=>rhs;rw [<-List.map_id ds]
          exact List.map_congr_left fun c _=>fig_there c
        subst h1
        refine ⟨rfl,hc3,by rw [hsz];exact fun h=>hc1 (List.eq_nil_of_length_eq_zero h),?_⟩
        rw [hsize]
        have hb':b=(if neg then turnG (x::y::s) else x::y::s):=by
          cases neg
          · exact hb
          · show b=turnG (x::y::s)
            rw [<-hb]
            exact (turnG_turn b).symm
        have hpre:(if neg then turnG (x::y::s) else x::y::s)=(if neg then turnG (x::y::(ds++[0])) else x::y::(ds++[0]))++(if neg then turnG t else t):=by
          rw [e1]
          cases neg
          · simp
          · simp [turnG]
        have hr:r=(if neg then turnG t else t):=by
          rw [<-h2,hb',hpre]
          have hl:(if neg then turnG (x::y::(ds++[0])) else x::y::(ds++[0])).length=3+ds.length:=by
            cases neg<;>simp [turnG]<;>omega
          rw [<-hl]
          exact List.drop_left
        rw [hb',hpre,hr]
  · cases h
theorem put_first {b r:List UInt8} {p:GPart} (h:firstG b=some (p,r)):Rt p/\b=putG p++r:=by
  unfold firstG at h
  split at h
  · cases h
  rename_i t l
  split at h
  · rename_i h0
    injection h with h
    injection h with h1 h2
    subst h0 h1 h2
    exact ⟨Rt.null,rfl⟩
  split at h
  · rename_i h0
    injection h with h
    injection h with h1 h2
    subst h1 h2
    refine ⟨Rt.bool _,?_⟩
    rcases h0 with rfl | rfl<;>rfl
  split at h
  · rename_i h0
    injection h with h
    injection h with h1 h2
    subst h0 h1 h2
    exact ⟨Rt.num dec0 rfl,rfl⟩
  split at h
  · rename_i h0
    cases hz:numberG l (decide (t=48)) with
    | none=>rw [hz] at h;cases h
    | some q =>
      obtain ⟨d,r'⟩:=q
      rw [hz] at h
      injection h with h
      injection h with h1 h2
      dsimp only at h1 h2
      obtain ⟨e1,e2,e3,e4⟩:=number_size hz
      subst h1 h2
      refine ⟨Rt.num d e2,?_⟩
      unfold putG
      dsimp only
      rw [if_neg (by decide),if_neg (by decide),if_pos rfl,if_neg e3,e1]
      rcases h0 with rfl | rfl
      · rw [e4];rfl
      · rw [e4];rfl
  split at h
  · rename_i h0
    cases hz:textG l with
    | none=>rw [hz] at h;cases h
    | some q =>
      obtain ⟨s,r'⟩:=q
      rw [hz] at h
      injection h with h
      injection h with h1 h2
      dsimp only at h1 h2
      subst h0 h1 h2
      refine ⟨Rt.str _,?_⟩
      rw [text_esc l hz]
      show _=(64::(escG (mkB s).data.toList++[0,0]))++r'
      simp
  split at h
  · rename_i h0
    split at h
    · rename_i x a b c d r'
      injection h with h
      injection h with h1 h2
      have ha:=a.toNat_lt
      have hb:=b.toNat_lt
      have hc:=c.toNat_lt
      have hd:=d.toNat_lt
      subst h0 h1 h2
      refine ⟨Rt.whole _ (by omega) (by omega),?_⟩
      show _=80::byteOf (((a.toNat:Int)*16777216+b.toNat*65536+c.toNat*256+d.toNat) / 16777216)::byteOf (((a.toNat:Int)*16777216+b.toNat*65536+c.toNat*256+d.toNat) / 65536)::byteOf (((a.toNat:Int)*16777216+b.toNat*65536+c.toNat*256+d.toNat) / 256)::byteOf ((a.toNat:Int)*16777216+b.toNat*65536+c.toNat*256+d.toNat)::r'
      rw [byteOf_of (a:=a) (by omega),byteOf_of (a:=b) (by omega),byteOf_of (a:=c) (by omega),byteOf_of (a:=d) (by omega)]
    · cases h
  · cases h
theorem put_ne {p:GPart} (h:Rt p):putG p≠[]:=by
  intro e
  have h1:=first_put h []
  rw [e] at h1
  cases h1
theorem all_rt {l:List GPart}:l.all rightG=true↔∀ p∈l,Rt p:=by
  rw [List.all_eq_true]
  exact ⟨fun h p hp=>(right_iff p).1 (h p hp),fun h p hp=>(right_iff p).2 (h p hp)⟩
theorem enc_dec:∀ (n k:Nat) (b:List UInt8) {l:List GPart},k<=16->b.length<=n->decF n k b=.ok l->(∀ p∈l,Rt p)/\k+l.length<=16/\l.flatMap putG=b
  | 0,k,b,l,hk,hb,h=>by
    injection h with h
    subst h
    exact ⟨fun p hp=>(by cases hp),by simpa using hk,(List.eq_nil_of_length_eq_zero (by omega)).symm⟩
  | n+1,k,[],l,hk,_,h=>by
    injection h with h
    subst h
    exact ⟨fun p hp=>(by cases hp),by simpa using hk,rfl⟩
  | n+1,k,c::b,l,hk,hb,h=>by
    rw [decF] at h
    cases hf:firstG (c::b) with
    | none=>rw [hf] at h;cases h
    | some q =>
      obtain ⟨p,r⟩:=q
      rw [hf] at h
      dsimp only at h
      split at h
      · cases h
      · rename_i h16
        obtain ⟨hp,e⟩:=put_first hf
        have hne:=put_ne hp
        have hl:0<(putG p).length:=List.length_pos_iff.2 hne
        have hlen:(c::b).length=(putG p).length+r.length:=by rw [e,List.length_append]
        cases hd:decF n (k+1) r with
        | error e=>rw [hd] at h;cases h
        | ok l' =>
          rw [hd] at h
          injection h with h
          obtain ⟨h1,h2,h3⟩:=enc_dec n (k+1) r (l:=l') (by omega) (by simp only [List.length_cons] at hlen hb;omega) hd
          subst h
          refine ⟨fun x hx=>?_,by rw [List.length_cons];omega,by rw [List.flatMap_cons,h3,e]⟩
          rcases List.mem_cons.1 hx with rfl | hx
          · exact hp
          · exact h1 x hx
def stripF:List UInt8->List UInt8
  | []=>[]
  | c::l=>if c=255 then stripF l else c::l
def afterG (b:List UInt8):List UInt8 :=
  match stripF b.reverse with
  | []=>[]
  | c::l=>(l.reverse)++[c+1]
def cmpU:List UInt8->List UInt8->Int
  | [],[]=>0
  | [],_::_ => -1
  | _::_,[]=>1
  | a::l,b::m=>if a<b then -1 else if b<a then 1 else cmpU l m
theorem cmp_front:∀ (p a b:List UInt8),cmpU (p++a) (p++b)=cmpU a b
  | [],a,b=>rfl
  | x::p,a,b=>by
    rw [List.cons_append,List.cons_append,cmpU,if_neg (UInt8.lt_irrefl x),if_neg (UInt8.lt_irrefl x),cmp_front p a b]
end Go.Sy
/- Arrays that are made; the less of two numbers. No program in sight. -/
namespace Go.Sy
section
variable {cf:Cf} {σ:Snap} {hp:HP} {A:List AE} {β:Nat->Addr} {w:World}
theorem StW.undrew {o:Obj} (h:StW cf σ hp A β (w.drew.alloc o)):StW cf σ hp A β (w.alloc o) :=
  ⟨h.os,h.tape,h.output,h.size,h.fr,h.sealed,h.le,h.grow,h.loc,h.ro,h.inj,h.arr,h.arrd,h.arrh⟩
end
section
variable {cf:Cf} {Q:Exit->Act->World->Prop} {σ:Snap} {env:Env} {hp:HP} {A:List AE} {nh:Nat} {it:Item} {rest:List Item}
end
end Go.Sy
/- Arrays that are made, of elements of several cells. No program in sight. -/
namespace Go.Sy
theorem madeCells_rep (z:List Value) (k:Nat):(madeCells z.toArray (k*z.length)).toList=(List.replicate k z).flatten:=by
  have hall:∀ r∈List.replicate k z,r.length=z.length:=fun r hr=>by rw [List.eq_of_mem_replicate hr]
  have hl:(List.replicate k z).flatten.length=k*z.length:=by rw [flat_len hall,List.length_replicate]
  have hl2:(madeCells z.toArray (k*z.length)).toList.length=k*z.length:=by rw [Array.length_toList,size_madeCells]
  apply List.ext_getElem?
  intro i
  by_cases hi:i<k*z.length
  · have hz:0<z.length:=by
      rcases Nat.eq_zero_or_pos z.length with h | h
      · rw [h,Nat.mul_zero] at hi;omega
      · exact h
    have hm:i / z.length<k:=Nat.div_lt_of_lt_mul (by rw [Nat.mul_comm];exact hi)
    have hj:i % z.length<z.length:=Nat.mod_lt _ hz
    have:=flat_get hall (m:=i / z.length) (j:=i % z.length) (r:=z) (c:=z[i % z.length]) (by rw [List.getElem?_replicate,if_pos hm]) (List.getElem?_eq_getElem hj)
    rw [Nat.mul_comm,Nat.div_add_mod] at this
    rw [this]
    unfold madeCells
    rw [Array.getElem?_toList,Array.getElem?_map,Array.getElem?_range,if_pos hi]
    simp [hj]
  · rw [List.getElem?_eq_none (by omega),List.getElem?_eq_none (by omega)]
section
variable {cf:Cf} {Q:Exit->Act->World->Prop} {σ:Snap} {env:Env} {hp:HP} {A:List AE} {nh:Nat} {it:Item} {rest:List Item}
theorem oj_makeSliceN {d:Nat} {t e n:Nat} {x y:Operand} {T:List (Nat×TI)} (hT:TTok cf.P T) {ti te:TI} (xs:List Value) (hop:it.o.op=.makeSlice t x y) (hd:it.o.dst=some d) (hg:guardVal it.guard env=some true) (hN:Nat.blt d cf.N=true)
    (htg:canSink it.tag=true) (hx:evalO env x=some (.a (.v (.int .i64 n)))) (hy:evalO env y=some (.a (.v (.int .i64 n)))) (ht:tget T t=some ti) (hkt:ti.kind=.slice e) (hte:tget T e=some te)
    (hby:n*te.bytes<=281474976710656) (hmax:n<=1000000000) (hxs:(madeCells (te.zero.map AT.val).toArray (n*te.size)).toList=xs)
    (hk:∀ g,OJ cf rest Q σ ((d,.a (.v (.slice (some ⟨g,0,none⟩) n n)))::env) hp (A++[⟨some ⟨g,0,none⟩,n,n,e,te.size,xs⟩]) nh):OJ cf (it::rest) Q σ env hp A nh:=by
  refine oj_step hd hg hN htg fun hb a β ha w hw=>?_
  obtain ⟨i1,d1,z1,hs1⟩:=tiOf_spec (hT _ _ ht)
  obtain ⟨i3,d3,z3,hs3⟩:=tiOf_spec (hT _ _ hte)
  have hut:cf.P.underlying t=some (.slice e):=by
    have h1:=hs1.kind
    rw [hkt] at h1
    have h2:=hs1.und
    cases d1<;>first
      | (simp only [kindD,TK.slice.injEq] at h1;subst h1;exact h2)
      | (simp only [kindD] at h1;cases h1)
  have hz3:z3.cells=(te.zero.map AT.val).toArray:=(zero_den hs3 β0).symm
  have hxl:xs.length=n*te.size:=by rw [<-hxs,Array.length_toList,size_madeCells]
  have hxe:a.eval x=.int .i64 n:=evalO_eval ha hx
  have hye:a.eval y=.int .i64 n:=evalO_eval ha hy
  have hrun:=run_make (P:=cf.P) w t e i3 z3 hut hs3.info hs3.zero .i64 .i64 n n (by omega) (Int.le_refl _) (by rw [hs3.bytes];rw [<-Int.natCast_mul,Nat.mul_comm];omega) (by omega)
  rw [hs3.size,Int.toNat_natCast,hz3] at hrun
  have hm:=((StW.nilArr e te.size).1 hw).moveArr (i:=A.length) (E:=⟨none,0,0,e,te.size,[]⟩) (E':=⟨some ⟨w.heap.size,0,none⟩,n,n,e,te.size,xs⟩) (cur':=madeCells (te.zero.map AT.val).toArray (n*te.size)) (by simp) rfl (Nat.le_refl _) (by simp only [maxLen];omega) (by dsimp only;exact hxl) (by rw [size_madeCells]) (by dsimp only;rw [hxs,<-hxl,List.take_length])
  have hset:(A++[(⟨none,0,0,e,te.size,[]⟩:AE)]).set A.length ⟨some ⟨w.heap.size,0,none⟩,n,n,e,te.size,xs⟩=A++[⟨some ⟨w.heap.size,0,none⟩,n,n,e,te.size,xs⟩]:=by
    rw [List.set_append_right _ _ (Nat.le_refl _),Nat.sub_self]
    rfl
  rw [hset] at hm
  refine ⟨.a (.v (.slice (some ⟨w.heap.size,0,none⟩) n n)),σ,hp,_,nh,_,β,?_,ha,hb.put (x:=.a (.v (.slice (some ⟨w.heap.size,0,none⟩) n n))) trivial d,hm.undrew,hk w.heap.size⟩
  simp only [execOp,hop,hxe,hye,Sem.run_bind,hrun,Result.andThen_ok,Sem.run_pure]
  rfl
end
section
variable {cf:Cf} {σ:Snap} {hp:HP} {A:List AE} {β:Nat->Addr} {w:World}
end
section
variable {cf:Cf} {Q:Exit->Act->World->Prop} {σ:Snap} {env:Env} {hp:HP} {A:List AE} {nh:Nat}
end
end Go.Sy
/- More rules: room made by 'append(nil, make(..)..)'; values read in a wider class. No program in sight. -/
namespace Go.Sy
section
variable {cf:Cf} {Q:Exit->Act->World->Prop} {σ:Snap} {env:Env} {hp:HP} {A:List AE} {nh:Nat} {it:Item} {rest:List Item}
theorem sealed_cell {σ:Snap} {w:World} (h:Sealed σ w) {a:Addr} {v:Value} (hv:σ.cell a=some v):w.cell? a=some v:=by
  unfold Snap.cell at hv
  unfold World.cell?
  split at hv
  · rename_i c e f hc
    rw [h _ _ hc]
    exact hv
  · cases hv
variable {W:(Nat->Addr)->World->Prop}
theorem oj_quo {d:Nat} {x y:Operand} {xt yt:TypeId} {m n:Int} (hop:it.o.op=.binOp .quo xt x y yt) (hd:it.o.dst=some d) (hg:guardVal it.guard env=some true) (hN:Nat.blt d cf.N=true)
    (hx:evalO env x=some (.a (.v (.int .i64 m)))) (hy:evalO env y=some (.a (.v (.int .i64 n)))) (hn:n≠0) (hb:-9223372036854775808<=m.tdiv n/\m.tdiv n<=9223372036854775807)
    (hk:OJ cf rest Q σ ((d,.a (.v (.int .i64 (m.tdiv n))))::env) hp A nh):OJ cf (it::rest) Q σ env hp A nh :=
  oj_arith _ hop hd hg hN hx hy (fun w P=>run_quo hn (IntWalk.i64_in _ (by omega)) w P) hk
theorem StW.dropA {β:Nat->Addr} {w:World} (h:StW cf σ hp A β w):StW cf σ hp [] β w :=
  { h with arr:=fun i E hi=>(by simp at hi),arrd:=fun i j E F hi=>(by simp at hi),arrh:=fun i j E e cs hi=>(by simp at hi) }
end
end Go.Sy
/- Calls that look at the call's own arrays, and leave them as they are. No program in sight. -/
namespace Go.Sy
section
variable {cf:Cf} {hp:HP} {β:Nat->Addr} {w w':World}
theorem ArrOk.weak {σ σ':Snap} {E:AE} (h:ArrOk cf σ' w E) (hn:∀ {b},σ' b=none->σ b=none):ArrOk cf σ w E:=by
  refine ⟨h.1,h.2.imp id ?_⟩
  rintro ⟨g,cur,h3,h4,h5,h6,h7,h8,h9,h10⟩
  exact ⟨g,cur,h3,h4,h5,h6,h7,h8,hn h9,h10⟩
end
section
variable {cf:Cf} {Q:Exit->Act->World->Prop} {σ:Snap} {env:Env} {hp:HP} {A:List AE} {nh:Nat} {it:Item} {rest:List Item}
theorem oj_strcat {d:Nat} {x y:Operand} {xt yt:TypeId} {s t:ByteArray} (hop:it.o.op=.binOp .add xt x y yt) (hd:it.o.dst=some d) (hg:guardVal it.guard env=some true) (hN:Nat.blt d cf.N=true)
    (hx:evalO env x=some (.a (.v (.string s)))) (hy:evalO env y=some (.a (.v (.string t)))) (hb:s.size+t.size<=9223372036854775807)
    (hk:OJ cf rest Q σ ((d,.a (.v (.string (s++t))))::env) hp A nh):OJ cf (it::rest) Q σ env hp A nh:=by
  refine oj_val (.a (.v (.string (s++t)))) hd hg hN trivial (fun _ a β ha w=>?_) hk
  have h1:a.eval x=.string s:=evalO_eval ha hx
  have h2:a.eval y=.string t:=evalO_eval ha hy
  have h3:¬ ((s.size+t.size:Nat):Int) > IntKind.i64.max:=by
    show ¬ ((s.size+t.size:Nat):Int) > 9223372036854775807
    omega
  simp only [execOp,hop,h1,h2]
  rw [Sem.run_bind]
  have:∀ P:Program,(do eqGuard .add xt x y (.string s) (.string t);binOp .add xt (.string s) (.string t):Sem Value).run P w=.ok (.string (s++t)) w:=by
    intro P
    simp only [eqGuard,binOp,Op.stringOp,if_neg h3,Sem.run_bind,Sem.run_pure]
    rfl
  rw [this]
  rfl
end
end Go.Sy
