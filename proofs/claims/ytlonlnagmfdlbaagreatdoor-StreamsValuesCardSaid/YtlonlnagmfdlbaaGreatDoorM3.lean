/- Parts of the proof of CStreamsValues: SyI, SyJ, SyK, SyL, SyM, Va, SyN. No conditions. -/
import Derived.Test.YtlonlnagmfdlbaaGreatDoorM2
import Derived.MapKept
/- Contracts with arrays handed in and out; local rows become arrays; elements of arrays. No program in sight. -/
namespace Go.Sy
def reA (is:List Nat) (A:List AE):List AE :=
  match is with
  | []=>[]
  | i::is=>match A[i]? with
    | some E=>E::reA is A
    | none=>reA is A
def nodupB:List Nat->Bool
  | []=>true
  | i::is=>!(is.any (Nat.beq i))&&nodupB is
theorem reA_get {A:List AE}:∀ {is:List Nat} {j:Nat} {E:AE},(reA is A)[j]?=some E->∃ i∈is,A[i]?=some E
  | [],j,E,h=>by simp [reA] at h
  | i::is,j,E,h=>by
    simp only [reA] at h
    split at h
    · rename_i F hF
      cases j with
      | zero=>simp at h;subst h;exact ⟨i,List.mem_cons_self ..,hF⟩
      | succ j =>
        obtain ⟨k,hk,hE⟩:=reA_get (is:=is) (by simpa using h)
        exact ⟨k,List.mem_cons_of_mem _ hk,hE⟩
    · obtain ⟨k,hk,hE⟩:=reA_get (is:=is) h
      exact ⟨k,List.mem_cons_of_mem _ hk,hE⟩
theorem nodupB_cons {i:Nat} {is:List Nat} (h:nodupB (i::is)=true):i∉is/\nodupB is=true:=by
  simp only [nodupB,Bool.and_eq_true,Bool.not_eq_true'] at h
  refine ⟨fun hi=>?_,h.2⟩
  have:is.any (Nat.beq i)=true:=List.any_eq_true.2 ⟨i,hi,Nat.beq_refl i⟩
  rw [h.1] at this;cases this
theorem reA_get2 {A:List AE}:∀ {is:List Nat} {j k:Nat} {E F:AE},nodupB is=true->j≠k->(reA is A)[j]?=some E->(reA is A)[k]?=some F->∃ p q:Nat,p≠q/\A[p]?=some E/\A[q]?=some F
  | [],j,k,E,F,_,_,h,_=>by simp [reA] at h
  | i::is,j,k,E,F,hn,hjk,h,h'=>by
    obtain ⟨hi,hn⟩:=nodupB_cons hn
    simp only [reA] at h h'
    split at h
    · rename_i G hG
      rw [hG] at h'
      simp only at h'
      cases j with
      | zero =>
        cases k with
        | zero=>exact absurd rfl hjk
        | succ k =>
          simp at h;subst h
          obtain ⟨q,hq,hF⟩:=reA_get (is:=is) (by simpa using h')
          exact ⟨i,q,fun e=>hi (e▸hq),hG,hF⟩
      | succ j =>
        cases k with
        | zero =>
          simp at h';subst h'
          obtain ⟨q,hq,hF⟩:=reA_get (is:=is) (by simpa using h)
          exact ⟨q,i,fun e=>hi (e▸hq),hF,hG⟩
        | succ k=>exact reA_get2 (j:=j) (k:=k) hn (by omega) (by simpa using h) (by simpa using h')
    · rename_i hG
      rw [hG] at h'
      exact reA_get2 hn hjk h h'
section
variable {cf:Cf} {σ:Snap} {hp:HP} {A:List AE} {β:Nat->Addr} {w:World}
theorem StW.reA (h:StW cf σ hp A β w) {is:List Nat} (hn:nodupB is=true):StW cf σ hp (reA is A) β w:=by
  refine ⟨h.os,h.tape,h.output,h.size,h.fr,h.sealed,h.le,h.grow,h.loc,h.ro,h.inj,fun i E hE=>?_,fun i j E F hE hF hij=>?_,fun i j E e cs hE=>?_⟩
  · obtain ⟨k,_,hk⟩:=reA_get hE;exact h.arr k E hk
  · obtain ⟨p,q,hpq,hp',hq'⟩:=reA_get2 hn hij hE hF;exact h.arrd p q E F hp' hq' hpq
  · obtain ⟨k,_,hk⟩:=reA_get hE;exact h.arrh k j E e cs hk
def AE.cut (E:AE) (k:Nat):AE:=⟨E.ao,k,E.cap,E.e,E.sz,E.xs.take (k*E.sz)⟩
theorem ArrOk.cut {E:AE} (h:ArrOk cf σ w E) {k:Nat} (hk:k<=E.n):ArrOk cf σ w (E.cut k):=by
  have hm:k*E.sz<=E.n*E.sz:=Nat.mul_le_mul_right _ hk
  refine ⟨by simp only [AE.cut,List.length_take,h.1];exact Nat.min_eq_left hm,?_⟩
  rcases h.2 with ⟨e1,e2,e3⟩ | ⟨g,cur,h3,h4,h5,h6,h7,h8,h9,h10⟩
  · exact .inl ⟨e1,by simp only [AE.cut];omega,e3⟩
  · refine .inr ⟨g,cur,h3,h4,by simp only [AE.cut];omega,h6,h7,?_,h9,h10⟩
    simp only [AE.cut]
    rw [<-h8,List.take_take,Nat.min_eq_left hm]
theorem StW.cutArr (h:StW cf σ hp A β w) {i:Nat} {E:AE} (hi:A[i]?=some E) {k:Nat} (hk:k<=E.n):StW cf σ hp (A.set i (E.cut k)) β w:=by
  refine ⟨h.os,h.tape,h.output,h.size,h.fr,h.sealed,h.le,h.grow,h.loc,h.ro,h.inj,fun j F hF=>?_,fun j l F G hF hG hjl=>?_,fun j l F e cs hF=>?_⟩
  · rcases set_get hF with ⟨rfl,rfl⟩ | ⟨hij,hF'⟩
    · exact (h.arr i E hi).cut hk
    · exact h.arr j F hF'
  · have key:∀ {j:Nat} {F:AE},(A.set i (E.cut k))[j]?=some F->∃ F',A[j]?=some F'/\F.blk=F'.blk:=by
      intro j F hF
      rcases set_get hF with ⟨rfl,rfl⟩ | ⟨_,hF'⟩
      · exact ⟨E,hi,rfl⟩
      · exact ⟨F,hF',rfl⟩
    obtain ⟨F',h1,h2⟩:=key hF
    obtain ⟨G',h3,h4⟩:=key hG
    rw [h2,h4]
    exact h.arrd j l F' G' h1 h3 hjl
  · rcases set_get hF with ⟨rfl,rfl⟩ | ⟨_,hF'⟩
    · exact h.arrh i l E e cs hi
    · exact h.arrh j l F e cs hF'
end
def blks (A:List AE) (b:Nat):Prop:=∃ E∈A,E.blk=some b
theorem StW.bare {P:Program} {w0 w:World} {σ0 σ:Snap} {M:Nat->Prop} {N:Nat} {ds:List Deferred} {hp:HP} {A:List AE} {β:Nat->Addr} (h:StW ⟨P,w0,σ0,M,N,ds,none⟩ σ hp A β w):StW ⟨P,w0,σ0,M,0,[],none⟩ σ [] A β0 w where
  os:=h.os
  tape:=h.tape
  output:=h.output
  size:=h.size
  fr:=h.fr
  sealed:=h.sealed
  le:=h.le
  grow:=h.grow
  loc:=fun _ _ _ h=>by cases h
  ro:=fun _ _ h=>by cases h
  inj:=fun _ _ _ _ _ _ h=>by cases h
  arr:=fun i E hE=>h.arr i E hE
  arrd:=h.arrd
  arrh:=fun _ _ _ _ _ _ h=>by cases h
theorem StW.clothe {P:Program} {w0 w:World} {σ0 σ:Snap} {M:Nat->Prop} {A:List AE} (h:StW ⟨P,w0,σ0,M,0,[],none⟩ σ [] A β0 w) (N:Nat) (β:Nat->Addr):StW ⟨P,w0,σ0,M,N,[],none⟩ σ [] A β w where
  os:=h.os
  tape:=h.tape
  output:=h.output
  size:=h.size
  fr:=h.fr
  sealed:=h.sealed
  le:=h.le
  grow:=h.grow
  loc:=fun _ _ _ h=>by cases h
  ro:=fun _ _ h=>by cases h
  inj:=fun _ _ _ _ _ _ h=>by cases h
  arr:=fun i E hE=>h.arr i E hE
  arrd:=h.arrd
  arrh:=fun _ _ _ _ _ _ h=>by cases h
def postF (P:Program) (w:World) (σ:Snap) (A:List AE) (Φ:Value->Snap->List AE->Prop):Value->World->Snap->Prop :=
  fun v w' σ'=>∃ A',Φ v σ' A'/\StW ⟨P,w,σ,blks A,0,[],none⟩ σ' [] A' β0 w'
def FnC (P:Program) (f:FuncId) (args:Array Value) (σ:Snap) (A:List AE) (Φ:Value->Snap->List AE->Prop):Prop :=
  ∀ w,StW ⟨P,w,σ,blks A,0,[],none⟩ σ [] A β0 w->CallC P f args w (blks A) σ (postF P w σ A Φ)
theorem blks_nil:blks []=fun _=>False:=by funext b;simp [blks]
theorem enter_fn {P:Program} {f:FuncId} {fn:Func} {c:Code} {args:Array Value} {σ:Snap} {A:List AE} {Φ:Value->Snap->List AE->Prop}
    (hf:P.funcs[f]?=some fn) (hb:fn.body=some c) (svs:List SV) (hargs:args=(svs.map (SV.den β0)).toArray) (hN:svs.length<=fn.ntmps) (hlt:∀ x∈svs,x.lt 0)
    (h:∀ w,CJ ⟨P,w,σ,blks A,fn.ntmps,[],none⟩ c (bodyPost P fn (postR w (blks A) σ (postF P w σ A Φ))) σ (argEnv 0 svs) [] A 0):FnC P f args σ A Φ :=
  fun w hw=>enter hf hb svs β0 [] A 0 hargs hN hlt (fun _ _ _ h=>by cases h) (hw.clothe _ _) (h w)
theorem nj_fret {P:Program} {w0:World} {σ0:Snap} {A0:List AE} {N:Nat} {T:List (Nat×TI)} (hT:TTok P T) {fn:Func} {Φ:Value->Snap->List AE->Prop} {σ:Snap} {env:Env} {hp:HP} {A:List AE} {nh:Nat}
    {xs:List S1} (hr:resL T env hp fn.results.toList=some xs) (h:∀ β w,Bd env hp nh->StW ⟨P,w0,σ0,blks A0,N,[],none⟩ σ hp A β w->Φ ((resSV xs).den β) σ A) :
    NJ ⟨P,w0,σ0,blks A0,N,[],none⟩ .ret (bodyPost P fn (postR w0 (blks A0) σ0 (postF P w0 σ0 A0 Φ))) σ env hp A nh :=
  nj_ret hT hr fun β w hb hw=>⟨A,h β w hb hw,hw.bare⟩
theorem nj_fend {P:Program} {w0:World} {σ0:Snap} {A0:List AE} {N:Nat} {T:List (Nat×TI)} (hT:TTok P T) {fn:Func} {Φ:Value->Snap->List AE->Prop} {σ:Snap} {env:Env} {hp:HP} {A:List AE} {nh:Nat}
    {xs:List S1} (hr:resL T env hp fn.results.toList=some xs) (h:∀ β w,Bd env hp nh->StW ⟨P,w0,σ0,blks A0,N,[],none⟩ σ hp A β w->Φ ((resSV xs).den β) σ A) :
    NJ ⟨P,w0,σ0,blks A0,N,[],none⟩ .normal (bodyPost P fn (postR w0 (blks A0) σ0 (postF P w0 σ0 A0 Φ))) σ env hp A nh :=
  nj_end hT hr fun β w hb hw=>⟨A,h β w hb hw,hw.bare⟩
section
variable {cf:Cf} {Q:Exit->Act->World->Prop} {σ:Snap} {env:Env} {hp:HP} {A:List AE} {nh:Nat} {it:Item} {rest:List Item}
theorem nj_re {e:Exit} (is:List Nat) {A':List AE} (hA:reA is A=A') (hn:nodupB is=true) (h:NJ cf e Q σ env hp A' nh):NJ cf e Q σ env hp A nh:=by
  subst hA
  exact ⟨fun hb a β w ha hw=>h.run hb a β w ha (hw.reA hn)⟩
theorem oj_cutArr {l:List Item} (i k:Nat) {E:AE} {A':List AE} (hf:allFree l=true) (hi:A[i]?=some E) (hk:k<=E.n) (hA:A.set i (E.cut k)=A') (h:OJ cf l Q σ env hp A' nh):OJ cf l Q σ env hp A nh:=by
  subst hA
  refine ⟨fun hb a β ha _=>run_by_world l _ _ a hf fun w hw=>?_⟩
  exact ⟨_,_,hw.cutArr hi hk,h.run hb a β ha ⟨w,hw.cutArr hi hk⟩⟩
theorem Snap.none_of_le {σ σ':Snap} (h:σ.le σ') {b:Nat} (hb:σ' b=none):σ b=none:=by
  cases hb':σ b with
  | none=>rfl
  | some o=>rw [h b o hb'] at hb;cases hb
theorem StW.through {β:Nat->Addr} {w w':World} {σ':Snap} {A0 Ar A1:List AE} (h:StW cf σ hp (A0++Ar) β w) (h':StW ⟨cf.P,w,σ,blks A0,0,[],none⟩ σ' [] A1 β0 w'):StW cf σ' hp (A1++Ar) β w':=by
  have hin0:∀ {E},E∈A0->∃ i,(A0++Ar)[i]?=some E/\i<A0.length:=by
    intro E hE
    obtain ⟨i,hi⟩:=List.getElem?_of_mem hE
    have hlt:=(List.getElem?_eq_some_iff.1 hi).1
    exact ⟨i,by rw [List.getElem?_append_left hlt];exact hi,hlt⟩
  have hblk:∀ {b},blks A0 b->∃ i E,(A0++Ar)[i]?=some E/\E.blk=some b/\i<A0.length:=by
    rintro b ⟨E,hE,hb⟩
    obtain ⟨i,hi,hlt⟩:=hin0 hE
    exact ⟨i,E,hi,hb,hlt⟩
  have hown:∀ {b},blks A0 b->Own cf b:=by
    intro b hb
    obtain ⟨i,E,hi,hE,_⟩:=hblk hb
    exact ((h.arr i E hi).lt hE).2.2
  have hlt0:∀ {b},blks A0 b->b<w.heap.size:=by
    intro b hb
    obtain ⟨i,E,hi,hE,_⟩:=hblk hb
    exact ((h.arr i E hi).lt hE).1
  have hold:∀ b,b<w.heap.size->¬ blks A0 b->w'.heap[b]?=w.heap[b]?:=h'.fr
  have hσ:∀ b,b<w.heap.size->¬ blks A0 b->σ b=none->σ' b=none:=by
    intro b hb hnb hn
    cases hb':σ' b with
    | none=>rfl
    | some o =>
      rcases h'.grow b (by rw [hb'];simp) with h1 | h1 | h1
      · exact absurd hn h1
      · have:w.heap.size<=b:=h1
        omega
      · exact absurd h1 hnb
  have hold':∀ {b},Own ⟨cf.P,w,σ,blks A0,0,[],none⟩ b->Own cf b:=by
    rintro b (h1 | h1)
    · exact .inl (Nat.le_trans h.size h1)
    · exact hown h1
  have hget:∀ {j:Nat} {E:AE},(A1++Ar)[j]?=some E->(j<A1.length/\A1[j]?=some E)\/(A1.length<=j/\(A0++Ar)[A0.length+(j - A1.length)]?=some E):=by
    intro j E hj
    by_cases hlt:j<A1.length
    · rw [List.getElem?_append_left hlt] at hj;exact .inl ⟨hlt,hj⟩
    · rw [List.getElem?_append_right (by omega)] at hj
      refine .inr ⟨by omega,?_⟩
      rw [List.getElem?_append_right (by omega),Nat.add_sub_cancel_left];exact hj
  have hnew:∀ {E:AE} {j:Nat} {b:Nat},A1[j]?=some E->E.blk=some b->w.heap.size<=b\/blks A0 b:=by
    intro E j b hE hb
    rcases ((h'.arr j E hE).lt hb).2.2 with h1 | h1
    · exact .inl h1
    · exact .inr h1
  have hkept:∀ {F:AE} {k:Nat} {b:Nat},A0.length<=k->(A0++Ar)[k]?=some F->F.blk=some b->b<w.heap.size/\¬ blks A0 b:=by
    intro F k b hk hF hb
    refine ⟨((h.arr k F hF).lt hb).1,fun hc=>?_⟩
    obtain ⟨i,E,hi,hE,hlt⟩:=hblk hc
    exact h.arrd i k E F hi hF (by omega) b hE hb
  refine ⟨h'.os.trans h.os,h'.tape.trans h.tape,h'.output.trans h.output,Nat.le_trans h.size h'.size,fun b hb hm=>?_,h'.sealed,fun b o hb=>h'.le b o (h.le b o hb),fun b hb=>?_,fun i e cs hi=>?_,fun i cs hi j c hc=>Snap.le.cell h'.le (h.ro i cs hi j c hc),h.inj,fun i E hE=>?_,
    fun i j E F hE hF hij=>?_,fun i j E e cs hE hj=>?_⟩
  · have hnb:¬ blks A0 b:=fun hc=>by
      rcases hown hc with h1 | h1
      · omega
      · exact hm h1
    rw [hold b (Nat.lt_of_lt_of_le hb h.size) hnb];exact h.fr b hb hm
  · rcases h'.grow b hb with h1 | h1
    · exact h.grow b h1
    · exact .inr (hold' h1)
  · obtain ⟨h1,h2,h3,h4⟩:=h.loc i e cs hi
    have hlt:=(Array.getElem?_eq_some_iff.1 h2).1
    have hnb:¬ blks A0 (β i).block:=fun hc=>by
      obtain ⟨k,E,hk,hE,_⟩:=hblk hc
      exact h.arrh k i E e cs hk hi hE
    exact ⟨h1,by rw [hold _ hlt hnb];exact h2,hσ _ hlt hnb h3,h4⟩
  · rcases hget hE with ⟨_,hE'⟩ | ⟨hle,hE'⟩
    · obtain ⟨h1,h2⟩:=h'.arr i E hE'
      refine ⟨h1,h2.imp id ?_⟩
      rintro ⟨g,cur,h3,h4,h5,h6,h7,h8,h9,h10⟩
      exact ⟨g,cur,h3,h4,h5,h6,h7,h8,h9,hold' h10⟩
    · obtain ⟨h1,h2⟩:=h.arr _ E hE'
      refine ⟨h1,h2.imp id ?_⟩
      rintro ⟨g,cur,h3,h4,h5,h6,h7,h8,h9,h10⟩
      obtain ⟨hlt,hnb⟩:=hkept (by omega) hE' (b:=g) (by simp [AE.blk,h3])
      exact ⟨g,cur,h3,by rw [hold g hlt hnb];exact h4,h5,h6,h7,h8,hσ g hlt hnb h9,h10⟩
  · intro b hEb hFb
    rcases hget hE with ⟨hi,hE'⟩ | ⟨hi,hE'⟩<;>rcases hget hF with ⟨hj,hF'⟩ | ⟨hj,hF'⟩
    · exact h'.arrd i j E F hE' hF' hij b hEb hFb
    · obtain ⟨hlt,hnb⟩:=hkept (by omega) hF' hFb
      rcases hnew hE' hEb with h1 | h1
      · omega
      · exact hnb h1
    · obtain ⟨hlt,hnb⟩:=hkept (by omega) hE' hEb
      rcases hnew hF' hFb with h1 | h1
      · omega
      · exact hnb h1
    · exact h.arrd _ _ E F hE' hF' (by omega) b hEb hFb
  · intro hb
    obtain ⟨h1,h2,h3,h4⟩:=h.loc j e cs hj
    have hlt:=(Array.getElem?_eq_some_iff.1 h2).1
    rcases hget hE with ⟨_,hE'⟩ | ⟨_,hE'⟩
    · rcases hnew hE' hb with h5 | h5
      · omega
      · obtain ⟨k,G,hk,hG,_⟩:=hblk h5
        exact h.arrh k j G e cs hk hj hG
    · exact h.arrh _ j E e cs hE' hj hb
theorem StW.handIn {β:Nat->Addr} {w:World} {A0 Ar:List AE} (h:StW cf σ hp (A0++Ar) β w):StW ⟨cf.P,w,σ,blks A0,0,[],none⟩ σ [] A0 β0 w where
  os:=rfl
  tape:=rfl
  output:=rfl
  size:=Nat.le_refl _
  fr:=fun _ _ _=>rfl
  sealed:=h.sealed
  le:=fun _ _ h=>h
  grow:=fun _ h=>.inl h
  loc:=fun _ _ _ h=>by cases h
  ro:=fun _ _ h=>by cases h
  inj:=fun _ _ _ _ _ _ h=>by cases h
  arr:=fun i E hE=>by
    have hlt:=(List.getElem?_eq_some_iff.1 hE).1
    obtain ⟨h1,h2⟩:=h.arr i E (by rw [List.getElem?_append_left hlt];exact hE)
    refine ⟨h1,h2.imp id ?_⟩
    rintro ⟨g,cur,h3,h4,h5,h6,h7,h8,h9,h10⟩
    exact ⟨g,cur,h3,h4,h5,h6,h7,h8,h9,.inr ⟨E,List.mem_of_getElem? hE,by simp [AE.blk,h3]⟩⟩
  arrd:=fun i j E F hE hF hij=>by
    have hi:=(List.getElem?_eq_some_iff.1 hE).1
    have hj:=(List.getElem?_eq_some_iff.1 hF).1
    exact h.arrd i j E F (by rw [List.getElem?_append_left hi];exact hE) (by rw [List.getElem?_append_left hj];exact hF) hij
  arrh:=fun _ _ _ _ _ _ h=>by cases h
theorem oj_call_fn {d:Nat} {f:FuncId} {ys:List SV} {Φ:Value->Snap->List AE->Prop} (is:List Nat) {A0 Ar:List AE} (hA:reA is A=A0++Ar) (hn:nodupB is=true)
    (hc:callee env it.o.op=some (f,ys)) (hd:it.o.dst=some d) (hg:guardVal it.guard env=some true)
    (hN:Nat.blt d cf.N=true) (htag:canSink it.tag=true) (hcall:∀ args w,(callFunc f args).run cf.P w=.ok (.enter f args) w) (hlt:∀ y∈ys,y.lt 0)
    (hC:FnC cf.P f (ys.map (SV.den β0)).toArray σ A0 Φ)
    (k:∀ v σ' A',σ.le σ'->Φ v σ' A'->∃ y:SV,y.lt 0/\y.den β0=v/\OJ cf rest Q σ' ((d,y)::env) hp (A'++Ar) nh):OJ cf (it::rest) Q σ env hp A nh:=by
  refine ⟨fun hb a β ha hex=>?_⟩
  have hN':d<cf.N:=by simpa [Nat.blt_eq] using hN
  have den0:∀ {y:SV},y.lt 0->y.den β=y.den β0:=fun hy=>SV.den_congr (n:=0) (fun i hi=>by omega) hy
  have hargs:(ys.map (SV.den β)).toArray=(ys.map (SV.den β0)).toArray:=by
    rw [List.map_congr_left fun y hy=>den0 (hlt y hy)]
  have key:∀ w,StW cf σ hp A β w->∀ Q',it.o.wq cf.P a w (fun a' w'=>∃ E' S':World->Prop,S' w'/\(∀ x,S' x->E' x)/\RunT cf.P Q rest E' S' a') Q':=by
    intro w hw Q'
    have hw2:StW cf σ hp (A0++Ar) β w:=by rw [<-hA];exact hw.reA hn
    unfold Oper.wq
    rw [callee_ok ha hc hcall]
    simp only [Oper.uponIn]
    rw [hargs]
    refine ⟨fun h=>(by cases h),CallsIn.mono (callsIn_FR.2 (hC w hw2.handIn)) fun e w' ⟨v,σ',he,h1,h2,h3,A',h4,h5⟩=>?_⟩
    subst he
    obtain ⟨y,hy,hyv,hk⟩:=k v σ' A' h2.le h4
    have hw':=hw2.through h5
    refine ⟨_,_,hw',fun _ h=>h,?_⟩
    have:=hk.run (hb.put (SV.lt_mono (Nat.zero_le _) hy) d) (a.put (some d) (y.den β)) β (ha.put hN' y) ⟨_,hw'⟩
    rw [hd,<-hyv,<-den0 hy]
    exact this
  simp only [RunT]
  rw [if_pos (guardVal_ok ha hg)]
  cases htag':it.tag with
  | pure=>rw [htag'] at htag;cases htag
  | quiet=>rw [htag'] at htag;cases htag
  | keep=>rw [htag'] at htag;cases htag
  | sink=>exact fun w hw=>key w hw _
  | free=>exact fun w hw=>key w hw _
end
end Go.Sy
/- A local row becomes an array of the call's own; loads and stores in arrays; pieces of slices and strings. No program in sight. -/
namespace Go.Sy
def concP (h g:Nat):PT->PT
  | .loc i o=>bif Nat.beq i h then .val (.pointer (some ⟨g,o,none⟩)) else .loc i o
  | .val x=>.val x
def conc (h g:Nat):AT->AT
  | .p i o=>bif Nat.beq i h then .v (.pointer (some ⟨g,o,none⟩)) else .p i o
  | .sl i n=>bif Nat.beq i h then .v (.slice (some ⟨g,0,none⟩) n n) else .sl i n
  | .fn f c=>.fn f (c.map (concP h g))
  | x=>x
def concS1 (h g:Nat):S1->S1
  | .a x=>.a (conc h g x)
  | .agg cs=>.agg (cs.map (conc h g))
def concS (h g:Nat):SV->SV
  | .a x=>.a (conc h g x)
  | .agg cs=>.agg (cs.map (conc h g))
  | .tup vs=>.tup (vs.map (concS1 h g))
def concE (h g:Nat):Env->Env
  | []=>[]
  | (i,x)::l=>(i,concS h g x)::concE h g l
def HP.del (h:Nat):HP->HP
  | []=>[]
  | (i,k,cs)::l=>bif Nat.beq i h then HP.del h l else (i,k,cs)::HP.del h l
section
variable {h g:Nat} {β:Nat->Addr}
theorem concP_den (hβ:β h=⟨g,0,none⟩) (x:PT):(concP h g x).den β=x.den β:=by
  cases x with
  | loc i o =>
    simp only [concP]
    cases hb:Nat.beq i h with
    | false=>rfl
    | true=>have:=Nat.eq_of_beq_eq_true hb;subst this;simp only [cond_true,PT.den,hβ,add0]
  | val x=>rfl
theorem conc_den (hβ:β h=⟨g,0,none⟩) (x:AT):(conc h g x).den β=x.den β:=by
  cases x with
  | p i o =>
    simp only [conc]
    cases hb:Nat.beq i h with
    | false=>rfl
    | true=>have:=Nat.eq_of_beq_eq_true hb;subst this;simp only [cond_true,AT.den,hβ,add0]
  | sl i n =>
    simp only [conc]
    cases hb:Nat.beq i h with
    | false=>rfl
    | true=>have:=Nat.eq_of_beq_eq_true hb;subst this;simp only [cond_true,AT.den,hβ]
  | fn f c =>
    simp only [conc,AT.den,List.map_map]
    have:(PT.den β ∘ concP h g)=PT.den β:=by funext x;exact concP_den hβ x
    rw [this]
  | _=>rfl
theorem concL_den (hβ:β h=⟨g,0,none⟩) (l:List AT):(l.map (conc h g)).map (AT.den β)=l.map (AT.den β):=by
  rw [List.map_map]
  have:(AT.den β ∘ conc h g)=AT.den β:=by funext x;exact conc_den hβ x
  rw [this]
theorem concS1_den (hβ:β h=⟨g,0,none⟩) (x:S1):(concS1 h g x).den β=x.den β:=by
  cases x with
  | a x=>exact conc_den hβ x
  | agg l=>simp only [concS1,S1.den,concL_den hβ]
theorem concS_den (hβ:β h=⟨g,0,none⟩) (x:SV):(concS h g x).den β=x.den β:=by
  cases x with
  | a x=>exact conc_den hβ x
  | agg l=>simp only [concS,SV.den,concL_den hβ]
  | tup vs =>
    simp only [concS,SV.den,List.map_map]
    have:(S1.den β ∘ concS1 h g)=S1.den β:=by funext x;exact concS1_den hβ x
    rw [this]
theorem concP_lt {n:Nat} {x:PT} (hx:x.lt n):(concP h g x).lt n:=by
  cases x with
  | loc i o=>simp only [concP];cases Nat.beq i h<;>first | exact hx | trivial
  | val x=>trivial
theorem conc_lt {n:Nat} {x:AT} (hx:x.lt n):(conc h g x).lt n:=by
  cases x with
  | p i o=>simp only [conc];cases Nat.beq i h<;>first | exact hx | trivial
  | sl i m=>simp only [conc];cases Nat.beq i h<;>first | exact hx | trivial
  | fn f c =>
    intro y hy
    obtain ⟨z,hz,rfl⟩:=List.mem_map.1 hy
    exact concP_lt (hx z hz)
  | _=>trivial
theorem concS1_lt {n:Nat} {x:S1} (hx:x.lt n):(concS1 h g x).lt n:=by
  cases x with
  | a x=>exact conc_lt (x:=x) hx
  | agg l =>
    intro y hy
    obtain ⟨z,hz,rfl⟩:=List.mem_map.1 hy
    exact conc_lt (hx z hz)
theorem concS_lt {n:Nat} {x:SV} (hx:x.lt n):(concS h g x).lt n:=by
  cases x with
  | a x=>exact conc_lt (x:=x) hx
  | agg l =>
    intro y hy
    obtain ⟨z,hz,rfl⟩:=List.mem_map.1 hy
    exact conc_lt (hx z hz)
  | tup vs =>
    intro y hy
    obtain ⟨z,hz,rfl⟩:=List.mem_map.1 hy
    exact concS1_lt (hx z hz)
theorem concE_get:∀ {env:Env} {i:Nat} {x:SV},(concE h g env).get i=some x->∃ y,env.get i=some y/\x=concS h g y
  | [],_,_,hx=>by cases hx
  | (j,y)::l,i,x,hx=>by
    simp only [concE] at hx
    rw [Env.get_cons] at hx ⊢
    by_cases hji:j=i
    · rw [if_pos hji] at hx ⊢;injection hx with hx;exact ⟨y,rfl,hx.symm⟩
    · rw [if_neg hji] at hx ⊢;exact concE_get hx
theorem HP.del_get {hp:HP} {i:Nat}:(HP.del h hp).get i=if i=h then none else hp.get i:=by
  induction hp with
  | nil=>simp [HP.del,HP.get]
  | cons e l ih =>
    obtain ⟨j,k,cs⟩:=e
    simp only [HP.del]
    cases hb:Nat.beq j h with
    | true =>
      have:=Nat.eq_of_beq_eq_true hb
      subst this
      simp only [cond_true]
      rw [ih,HP.get_cons]
      by_cases hij:i=j
      · rw [if_pos hij,if_pos hij]
      · rw [if_neg hij,if_neg hij,if_neg (fun e=>hij e.symm)]
    | false =>
      have hne:j≠h:=fun e=>by subst e;simp at hb
      simp only [cond_false]
      rw [HP.get_cons,HP.get_cons,ih]
      by_cases hij:j=i
      · rw [if_pos hij,if_neg (by omega),if_pos hij]
      · rw [if_neg hij,if_neg hij]
theorem HP.del_some {hp:HP} {i:Nat} {x:HK×List AT} (hx:(HP.del h hp).get i=some x):i≠h/\hp.get i=some x:=by
  rw [HP.del_get] at hx
  by_cases hih:i=h
  · rw [if_pos hih] at hx;cases hx
  · rw [if_neg hih] at hx;exact ⟨hih,hx⟩
end
section
variable {cf:Cf} {σ:Snap} {hp:HP} {A:List AE} {β:Nat->Addr} {w:World}
theorem append_get {A:List AE} {E F:AE} {i:Nat} (h:(A++[E])[i]?=some F):(i<A.length/\A[i]?=some F)\/(i=A.length/\F=E):=by
  by_cases hlt:i<A.length
  · rw [List.getElem?_append_left hlt] at h;exact .inl ⟨hlt,h⟩
  · rw [List.getElem?_append_right (by omega)] at h
    have h0:i - A.length=0:=by
      cases hq:i - A.length with
      | zero=>rfl
      | succ m=>rw [hq] at h;simp at h
    rw [h0] at h
    simp at h
    exact .inr ⟨by omega,h.symm⟩
theorem append_get_old {A:List AE} {E F:AE} {i:Nat} (h:A[i]?=some F):(A++[E])[i]?=some F:=by
  rw [List.getElem?_append_left (List.getElem?_eq_some_iff.1 h).1];exact h
theorem append_get_new {A:List AE} {E:AE}:(A++[E])[A.length]?=some E:=by
  rw [List.getElem?_append_right (Nat.le_refl _),Nat.sub_self];rfl
theorem StW.own {h:Nat} {e:TypeId} {cs:List AT} (hrow:hp.get h=some (.loc e,cs)) (hcs:∀ c∈cs,c.lt 0) {g:Nat} (hβ:β h=⟨g,0,none⟩) {n sz:Nat} (hlen:cs.length=n*sz) (hn:n<=maxLen) :
    StW cf σ hp A β w↔StW cf σ (HP.del h hp) (A++[⟨some ⟨g,0,none⟩,n,n,e,sz,cs.map AT.val⟩]) β w:=by
  have hval:cs.map AT.val=cs.map (AT.den β):=List.map_congr_left fun c hc=>(AT.den_val (hcs c hc) β).symm
  have hget':∀ {i:Nat} {x:HK×List AT},i≠h->hp.get i=some x->(HP.del h hp).get i=some x:=by
    intro i x hne hi
    rw [HP.del_get,if_neg hne];exact hi
  constructor
  · intro H
    obtain ⟨l1,l2,l3,l4⟩:=H.loc h e cs hrow
    have hgb:(β h).block=g:=by rw [hβ]
    refine ⟨H.os,H.tape,H.output,H.size,H.fr,H.sealed,H.le,H.grow,fun i e' l hi=>H.loc i e' l (HP.del_some hi).2,fun i l hi=>H.ro i l (HP.del_some hi).2,fun i j e1 e2 c1 c2 hi hj=>H.inj i j e1 e2 c1 c2 (HP.del_some hi).2 (HP.del_some hj).2,
      fun i E hE=>?_,fun i j E F hE hF hij b hb=>?_,fun i j E e' l hE hj=>?_⟩
    · rcases append_get hE with ⟨_,hE'⟩ | ⟨_,rfl⟩
      · exact H.arr i E hE'
      · refine ⟨by simp [hlen],.inr ⟨g,_,rfl,by rw [<-hgb];exact l2,Nat.le_refl _,hn,by simp [hlen],?_,by rw [<-hgb];exact l3,by rw [<-hgb];exact l4⟩⟩
        simp only [hval]
        rw [<-hlen]
        exact List.take_of_length_le (by simp)
    · rcases append_get hE with ⟨_,hE'⟩ | ⟨hi',rfl⟩<;>rcases append_get hF with ⟨_,hF'⟩ | ⟨hj',rfl⟩
      · exact H.arrd i j E F hE' hF' hij b hb
      · simp only [AE.blk,Option.map_some]
        have:=H.arrh i h E e cs hE' hrow
        rw [hgb] at this
        rw [hb] at this
        exact fun hc=>this hc.symm
      · simp only [AE.blk,Option.map_some,Option.some.injEq] at hb
        have:=H.arrh j h F e cs hF' hrow
        rw [hgb,hb] at this
        exact this
      · omega
    · obtain ⟨hjh,hj'⟩:=HP.del_some hj
      rcases append_get hE with ⟨_,hE'⟩ | ⟨_,rfl⟩
      · exact H.arrh i j E e' l hE' hj'
      · simp only [AE.blk,Option.map_some,ne_eq,Option.some.injEq]
        intro hc
        exact hjh (H.inj j h e' e l cs hj' hrow (by rw [hgb];exact hc.symm))
  · intro H
    have hnew:=H.arr A.length _ append_get_new
    have hrowW:w.heap[g]?=some (.cells (cs.map (AT.den β)).toArray e (0,0))/\σ g=none/\Own cf g:=by
      rcases hnew.2 with h1 | ⟨g',cur,h3,h4,h5,h6,h7,h8,h9,h10⟩
      · cases h1.1
      · injection h3 with h3
        simp only [Addr.mk.injEq,and_true] at h3
        subst h3
        refine ⟨?_,h9,h10⟩
        rw [h4]
        congr 2
        simp only at h7 h8
        rw [<-h7,<-Array.length_toList,List.take_length,hval] at h8
        rw [<-h8]
    have hsplit:∀ {i:Nat} {k:HK} {l:List AT},hp.get i=some (k,l)->(i=h/\k=.loc e/\l=cs)\/(i≠h/\(HP.del h hp).get i=some (k,l)):=by
      intro i k l hi
      by_cases hih:i=h
      · subst hih
        rw [hrow] at hi
        injection hi with hi
        simp only [Prod.mk.injEq] at hi
        exact .inl ⟨rfl,hi.1.symm,hi.2.symm⟩
      · exact .inr ⟨hih,hget' hih hi⟩
    refine ⟨H.os,H.tape,H.output,H.size,H.fr,H.sealed,H.le,H.grow,fun i e' l hi=>?_,fun i l hi=>?_,fun i j e1 e2 c1 c2 hi hj hij=>?_,fun i E hE=>H.arr i E (append_get_old hE),fun i j E F hE hF=>H.arrd i j E F (append_get_old hE) (append_get_old hF),fun i j E e' l hE hj=>?_⟩
    · rcases hsplit hi with ⟨rfl,hk,rfl⟩ | ⟨hne,hi'⟩
      · injection hk with hk
        subst hk
        rw [hβ]
        exact ⟨rfl,hrowW⟩
      · exact H.loc i e' l hi'
    · rcases hsplit hi with ⟨rfl,hk,rfl⟩ | ⟨hne,hi'⟩
      · cases hk
      · exact H.ro i l hi'
    · rcases hsplit hi with ⟨rfl,_,rfl⟩ | ⟨hne,hi'⟩<;>rcases hsplit hj with ⟨rfl,_,rfl⟩ | ⟨hne',hj'⟩
      · rfl
      · exact absurd (by simp [AE.blk];rw [<-hij,hβ]) (H.arrh A.length j _ e2 c2 append_get_new hj')
      · exact absurd (by simp [AE.blk];rw [hij,hβ]) (H.arrh A.length i _ e1 c1 append_get_new hi')
      · exact H.inj i j e1 e2 c1 c2 hi' hj' hij
    · rcases hsplit hj with ⟨rfl,_,rfl⟩ | ⟨hne,hj'⟩
      · rw [hβ]
        intro hc
        have hlt:=(List.getElem?_eq_some_iff.1 hE).1
        exact H.arrd i A.length E _ (append_get_old hE) append_get_new (by omega) g hc (by simp [AE.blk])
      · exact H.arrh i j E e' l (append_get_old hE) hj'
end
section
variable {cf:Cf} {Q:Exit->Act->World->Prop} {σ:Snap} {env:Env} {hp:HP} {A:List AE} {nh:Nat} {it:Item} {rest:List Item}
theorem StA.conc {β:Nat->Addr} {a:Act} {h g:Nat} (hβ:β h=⟨g,0,none⟩) (ha:StA cf env β a):StA cf (concE h g env) β a:=by
  refine ⟨ha.size,ha.defers,fun i x hx=>?_⟩
  obtain ⟨y,hy,rfl⟩:=concE_get hx
  rw [concS_den hβ];exact ha.env i y hy
theorem Bd.conc {h g:Nat} (hb:Bd env hp nh):Bd (concE h g env) (HP.del h hp) nh:=by
  refine ⟨fun i x hx=>?_,fun i k cs hi=>hb.hp i k cs (HP.del_some hi).2⟩
  obtain ⟨y,hy,rfl⟩:=concE_get hx
  exact concS_lt (hb.env i y hy)
theorem oj_own {l:List Item} (h:Nat) {e:TypeId} {cs:List AT} (n sz:Nat) (hrow:hp.get h=some (.loc e,cs)) (hcs:∀ c∈cs,c.lt 0) (hlen:cs.length=n*sz) (hn:n<=9223372036854775807)
    (k:∀ g,OJ cf l Q σ (concE h g env) (HP.del h hp) (A++[⟨some ⟨g,0,none⟩,n,n,e,sz,cs.map AT.val⟩]) nh):OJ cf l Q σ env hp A nh:=by
  refine ⟨fun hb a β ha hex=>?_⟩
  obtain ⟨w,hw⟩:=hex
  have hβ:β h=⟨(β h).block,0,none⟩:=(hw.loc h e cs hrow).1
  have e1:(fun w=>StW cf σ hp A β w)=fun w=>StW cf σ (HP.del h hp) (A++[⟨some ⟨(β h).block,0,none⟩,n,n,e,sz,cs.map AT.val⟩]) β w:=by
    funext w;exact propext (StW.own hrow hcs hβ hlen (by simp only [maxLen];exact hn))
  rw [e1]
  exact (k _).run hb.conc a β (ha.conc hβ) ⟨w,(congrFun e1 w)▸hw⟩
theorem cj_own {c:Code} (h:Nat) {e:TypeId} {cs:List AT} (n sz:Nat) (hrow:hp.get h=some (.loc e,cs)) (hcs:∀ c∈cs,c.lt 0) (hlen:cs.length=n*sz) (hn:n<=9223372036854775807)
    (k:∀ g,CJ cf c Q σ (concE h g env) (HP.del h hp) (A++[⟨some ⟨g,0,none⟩,n,n,e,sz,cs.map AT.val⟩]) nh):CJ cf c Q σ env hp A nh:=by
  refine ⟨fun hb a β w ha hw=>?_⟩
  have hβ:β h=⟨(β h).block,0,none⟩:=(hw.loc h e cs hrow).1
  exact (k _).run hb.conc a β w (ha.conc hβ) ((StW.own hrow hcs hβ hlen (by simp only [maxLen];exact hn)).1 hw)
theorem nj_own {ex:Exit} (h:Nat) {e:TypeId} {cs:List AT} (n sz:Nat) (hrow:hp.get h=some (.loc e,cs)) (hcs:∀ c∈cs,c.lt 0) (hlen:cs.length=n*sz) (hn:n<=9223372036854775807)
    (k:∀ g,NJ cf ex Q σ (concE h g env) (HP.del h hp) (A++[⟨some ⟨g,0,none⟩,n,n,e,sz,cs.map AT.val⟩]) nh):NJ cf ex Q σ env hp A nh:=by
  refine ⟨fun hb a β w ha hw=>?_⟩
  have hβ:β h=⟨(β h).block,0,none⟩:=(hw.loc h e cs hrow).1
  exact (k _).run hb.conc a β w (ha.conc hβ) ((StW.own hrow hcs hβ hlen (by simp only [maxLen];exact hn)).1 hw)
theorem ArrOk.some {w:World} {E:AE} (h:ArrOk cf σ w E) (hn:0<E.cap):∃ g,E.ao=.some ⟨g,0,none⟩:=by
  rcases h.2 with h1 | ⟨g,cur,h3,_⟩
  · omega
  · exact ⟨g,h3⟩
theorem ArrOk.ncap {w:World} {E:AE} (h:ArrOk cf σ w E):E.n<=E.cap:=by
  rcases h.2 with h1 | ⟨g,cur,h3,h4,h5,_⟩
  · omega
  · exact h5
theorem oj_arrAt {l:List Item} (i:Nat) {E:AE} (hi:A[i]?=some E) (hn:0<E.n) (k:∀ g,E.ao=some ⟨g,0,none⟩->OJ cf l Q σ env hp A nh):OJ cf l Q σ env hp A nh:=by
  refine ⟨fun hb a β ha hex=>?_⟩
  obtain ⟨w,hw⟩:=hex
  have hE:=hw.arr i E hi
  obtain ⟨g,hg⟩:=hE.some (Nat.lt_of_lt_of_le hn hE.ncap)
  exact (k g hg).run hb a β ha ⟨w,hw⟩
theorem cj_arrAt {c:Code} (i:Nat) {E:AE} (hi:A[i]?=some E) (hn:0<E.n) (k:∀ g,E.ao=some ⟨g,0,none⟩->CJ cf c Q σ env hp A nh):CJ cf c Q σ env hp A nh:=by
  refine ⟨fun hb a β w ha hw=>?_⟩
  have hE:=hw.arr i E hi
  obtain ⟨g,hg⟩:=hE.some (Nat.lt_of_lt_of_le hn hE.ncap)
  exact (k g hg).run hb a β w ha hw
theorem oj_valW {d:Nat} (y:SV) (hd:it.o.dst=some d) (hg:guardVal it.guard env=some true) (hN:Nat.blt d cf.N=true) (hlt:y.lt nh) (ht:(match it.tag with | .pure=>false | _=>true)=true)
    (hrun:Bd env hp nh->∀ a β,StA cf env β a->∀ w,StW cf σ hp A β w->(execOp a.eval it.o).run cf.P w=.ok (.value (y.den β)) w) (k:OJ cf rest Q σ ((d,y)::env) hp A nh):OJ cf (it::rest) Q σ env hp A nh:=by
  refine ⟨fun hb a β ha hex=>?_⟩
  have hN':d<cf.N:=by simpa [Nat.blt_eq] using hN
  have h':=k.run (hb.put hlt d) (a.put (some d) (y.den β)) β (ha.put hN' y) hex
  have hrun:=hrun hb a β ha
  simp only [RunT]
  rw [if_pos (guardVal_ok ha hg),hd]
  cases htag:it.tag with
  | pure=>rw [htag] at ht;cases ht
  | quiet=>exact ⟨_,fun w hw=>.inl (hrun w hw),h'⟩
  | keep=>exact fun w hw=>wp_of_quiet (.inl (hrun w hw)) ⟨_,_,hw,fun _ h=>h,fun _ h=>h,by rw [hd];exact h'⟩
  | sink=>exact fun w hw=>wp_of_quiet (.inl (hrun w hw)) ⟨_,_,hw,fun _ h=>h,by rw [hd];exact h'⟩
  | free=>exact fun w hw=>wp_of_quiet (.inl (hrun w hw)) ⟨_,_,hw,fun _ h=>h,by rw [hd];exact h'⟩
theorem ArrOk.cell {w:World} {E:AE} (h:ArrOk cf σ w E) {g:Nat} (hg:E.ao=.some ⟨g,0,none⟩) {j:Nat} {v:Value} (hv:E.xs[j]?=.some v):w.cell? ⟨g,j,none⟩=.some v:=by
  rcases h.2 with h1 | ⟨g',cur,h3,h4,h5,h6,h7,h8,_⟩
  · rw [h1.1] at hg;cases hg
  · rw [hg] at h3
    injection h3 with h3
    simp only [Addr.mk.injEq,and_true] at h3
    subst h3
    rw [cell_of_row w g j cur E.e (0,0) h4]
    rw [<-h8,List.getElem?_take] at hv
    split at hv
    · simpa using hv
    · cases hv
theorem oj_ldA (i:Nat) {E:AE} {d t:Nat} {x:Operand} {T:List (Nat×TI)} (hT:TTok cf.P T) {ti:TI} {g off:Nat} {c:AT} (hop:it.o.op=.load t x) (hd:it.o.dst=some d) (hg:guardVal it.guard env=some true) (hN:Nat.blt d cf.N=true)
    (htag:(match it.tag with | .pure=>false | _=>true)=true) (hx:evalO env x=some (.a (.v (.pointer (some ⟨g,off,none⟩))))) (hi:A[i]?=some E) (hE:E.ao=some ⟨g,0,none⟩) (ht:tget T t=some ti) (hag:ti.agg=false)
    (hv:E.xs[off]?=some c.val) (hc:c.lt 0) (k:OJ cf rest Q σ ((d,.a c)::env) hp A nh):OJ cf (it::rest) Q σ env hp A nh:=by
  refine oj_valW (.a c) hd hg hN (AT.lt_mono (Nat.zero_le _) hc) htag (fun _ a β ha w hw=>?_) k
  obtain ⟨inf,d',z,hs⟩:=tiOf_spec (hT _ _ ht)
  have hcell:=(hw.arr i E hi).cell hE hv
  have hx':a.eval x=.pointer (some ⟨g,off,none⟩):=evalO_eval ha hx
  have hload:(load ⟨g,off,none⟩).run cf.P w=.ok c.val w:=by rw [run_load,hcell]
  simp only [execOp,hop,Instr.loadAt,hx',Instr.sureAddr,loadVar,Sem.run_bind,Sem.run_pure,Result.andThen_ok,run_isAgg hs.und,hs.agg,hag,Bool.false_eq_true,if_false,hload]
  simp only [SV.den,AT.den_val hc β]
theorem oj_ldAs (i:Nat) {E:AE} {d t:Nat} {x:Operand} {T:List (Nat×TI)} (hT:TTok cf.P T) {ti:TI} {g off:Nat} (cs:List AT) (hop:it.o.op=.load t x) (hd:it.o.dst=some d) (hg:guardVal it.guard env=some true) (hN:Nat.blt d cf.N=true)
    (htag:(match it.tag with | .pure=>false | _=>true)=true) (hx:evalO env x=some (.a (.v (.pointer (some ⟨g,off,none⟩))))) (hi:A[i]?=some E) (hE:E.ao=some ⟨g,0,none⟩) (ht:tget T t=some ti) (hag:ti.agg=true)
    (hlen:cs.length=ti.size) (hv:∀ (j:Nat) c,cs[j]?=some c->E.xs[off+j]?=some c.val) (hc:∀ c∈cs,c.lt 0) (k:OJ cf rest Q σ ((d,.agg cs)::env) hp A nh):OJ cf (it::rest) Q σ env hp A nh:=by
  refine oj_valW (.agg cs) hd hg hN (fun c h=>AT.lt_mono (Nat.zero_le _) (hc c h)) htag (fun _ a β ha w hw=>?_) k
  obtain ⟨inf,d',z,hs⟩:=tiOf_spec (hT _ _ ht)
  have hx':a.eval x=.pointer (some ⟨g,off,none⟩):=evalO_eval ha hx
  have hrun:=run_loadCells_list (P:=cf.P) (w:=w) ⟨g,off,none⟩ (cs.map (AT.den β)) (fun j v hv'=>by
    rw [List.getElem?_map] at hv'
    obtain ⟨c,hc',rfl⟩:=map_some hv'
    rw [Addr.add_lit,AT.den_val (hc c (List.mem_of_getElem? hc')) β]
    exact (hw.arr i E hi).cell hE (hv j c hc'))
  have hl:(cs.map (AT.den β)).length=inf.size:=by simp [hlen,hs.size]
  rw [hl] at hrun
  simp only [execOp,hop,Instr.loadAt,hx',Instr.sureAddr,loadVar,Sem.run_bind,Sem.run_pure,Result.andThen_ok,run_isAgg hs.und,hs.agg,hag,if_true,run_size hs.info,hrun]
  rfl
theorem oj_stA (i:Nat) {E:AE} {A':List AE} {t:Nat} {x y:Operand} {T:List (Nat×TI)} (hT:TTok cf.P T) {ti:TI} {g off:Nat} {c:AT} (hop:it.o.op=.store t x y) (hd:it.o.dst=none) (hg:guardVal it.guard env=some true)
    (htag:canSink it.tag=true) (hx:evalO env x=some (.a (.v (.pointer (some ⟨g,off,none⟩))))) (hy:evalO env y=some (.a c)) (hi:A[i]?=some E) (hE:E.ao=some ⟨g,0,none⟩) (ht:tget T t=some ti) (hsz:ti.size=1)
    (hoff:off<E.n*E.sz) (hc:c.lt 0) (hone:c.one=true) (hA:A.set i ⟨E.ao,E.n,E.cap,E.e,E.sz,E.xs.set off c.val⟩=A') (k:OJ cf rest Q σ env hp A' nh):OJ cf (it::rest) Q σ env hp A nh:=by
  subst hA
  refine ⟨fun hb a β ha hex=>?_⟩
  have key:∀ w,StW cf σ hp A β w->∀ Q',it.o.wq cf.P a w (fun a' w'=>∃ E' S':World->Prop,S' w'/\(∀ x,S' x->E' x)/\RunT cf.P Q rest E' S' a') Q':=by
    intro w hw Q'
    obtain ⟨inf,d',z,hs⟩:=tiOf_spec (hT _ _ ht)
    have hx':a.eval x=.pointer (some ⟨g,off,none⟩):=evalO_eval ha hx
    have hy':a.eval y=c.val:=by rw [<-AT.den_val hc β];exact evalO_eval ha hy
    have hE0:=hw.arr i E hi
    rcases hE0.2 with h1 | ⟨g',cur,h3,h4,h5,h6,h7,h8,h9,h10⟩
    · rw [h1.1] at hE;cases hE
    · rw [hE] at h3
      injection h3 with h3
      simp only [Addr.mk.injEq,and_true] at h3
      subst h3
      have hnc:E.n*E.sz<=E.cap*E.sz:=Nat.mul_le_mul_right _ h5
      have h1v:c.val.oneCell'=true:=AT.one_den β0 hone
      have hcell:c.val.cells=#[c.val]:=by
        unfold Value.cells
        split
        · rename_i q hq;rw [hq] at h1v;cases h1v
        · rfl
      have hst:=run_storeCells_at cf.P g off E.e [c.val] 0 cur w h4 (by simp only [List.length_singleton];omega) (fun v hv=>by
        simp only [List.mem_singleton] at hv;subst hv;exact h1v)
      simp only [Nat.add_zero] at hst
      have hset:cur.toList.take off++[c.val]++cur.toList.drop (off+1)=cur.toList.set off c.val:=by
        rw [List.set_eq_take_append_cons_drop,if_pos (by rw [Array.length_toList];omega)]
        simp
      have hrun:(execOp a.eval it.o).run cf.P w=.ok .skip (w.setRow g (cur.toList.set off c.val).toArray):=by
        have hsz':inf.size=1:=by rw [hs.size,hsz]
        simp only [execOp,hop,Instr.storeAt,hx',hy',Instr.sureAddr,storeVar,Sem.run_bind,Sem.run_pure,Result.andThen_ok,hcell,run_size hs.info,hsz',List.size_toArray,List.length_singleton,ne_eq,not_true,if_false,Sem.run_ite,hst]
        rw [hset]
      unfold Oper.wq
      rw [hrun]
      have hw':=hw.setArr (E':=⟨E.ao,E.n,E.cap,E.e,E.sz,E.xs.set off c.val⟩) (cur':=(cur.toList.set off c.val).toArray) hi hE h4 rfl rfl rfl rfl h5 (by simp [hE0.1]) (by simp [h7]) (by
        simp only [<-h8,List.take_set])
      refine ⟨_,_,hw',fun _ h=>h,?_⟩
      rw [hd]
      exact k.run hb a β ha ⟨_,hw'⟩
  simp only [RunT]
  rw [if_pos (guardVal_ok ha hg)]
  cases htag':it.tag with
  | pure=>rw [htag'] at htag;cases htag
  | quiet=>rw [htag'] at htag;cases htag
  | keep=>rw [htag'] at htag;cases htag
  | sink=>exact fun w hw=>key w hw _
  | free=>exact fun w hw=>key w hw _
theorem run_sliceBounds {isS:Bool} {len cap l h:Nat} {lo hi:Option Value} (hlo:lo=none/\l=0\/∃ k m,lo=some (.int k m)/\m=(l:Int)) (hhi:hi=none/\h=len\/∃ k m,hi=some (.int k m)/\m=(h:Int)) (hl:l<=h) (hh:h<=cap) (hlc:len<=cap) (P:Program) (w:World) :
    (Instr.sliceBounds isS len cap lo hi none).run P w=.ok (l,h,cap) w:=by
  rcases hlo with ⟨rfl,rfl⟩ | ⟨k,m,rfl,rfl⟩<;>rcases hhi with ⟨rfl,rfl⟩ | ⟨k',m',rfl,rfl⟩ <;>
    simp [Instr.sliceBounds,Instr.sliceBound,asIntOf,hh,hl]
def optV (env:Env):Option Operand->Option (Option Value)
  | none=>some none
  | some o =>
    match evalO env o with
    | some (.a (.v (.int k m)))=>some (some (.int k m))
    | _=>none
theorem optV_ok {β:Nat->Addr} {a:Act} (ha:StA cf env β a) {o:Option Operand} {v:Option Value} (h:optV env o=some v):o.map a.eval=v:=by
  cases o with
  | none=>simp only [optV,Option.some.injEq] at h;subst h;rfl
  | some o =>
    simp only [optV] at h
    split at h
    · rename_i k m hk
      injection h with h
      subst h
      simp only [Option.map_some,evalO_eval ha hk]
      rfl
    · cases h
theorem oj_slice {d:Nat} {x:Operand} {lo hi:Option Operand} {vl vh:Option Value} {t e:TypeId} {T:List (Nat×TI)} (hT:TTok cf.P T) {ti te:TI} {ao:Option Addr} {n cap:Nat} (l h:Nat) (hop:it.o.op=.slice t x lo hi none) (hd:it.o.dst=some d)
    (hg:guardVal it.guard env=some true) (hN:Nat.blt d cf.N=true) (hx:evalO env x=some (.a (.v (.slice ao n cap)))) (hlo:optV env lo=some vl) (hhi:optV env hi=some vh)
    (ht:tget T t=some ti) (hkd:ti.kind=.slice e) (hte:tget T e=some te) (hl':vl=none/\l=0\/∃ k m,vl=some (.int k m)/\m=(l:Int)) (hh':vh=none/\h=n\/∃ k m,vh=some (.int k m)/\m=(h:Int)) (hlh:l<=h) (hhc:h<=cap) (hnc:n<=cap)
    (k:OJ cf rest Q σ ((d,.a (.v (.slice (if cap=l then ao else ao.map (·.add (l*te.size))) (h - l) (cap - l))))::env) hp A nh):OJ cf (it::rest) Q σ env hp A nh:=by
  refine oj_val _ hd hg hN (by trivial) (fun _ a β ha w=>?_) k
  obtain ⟨i2,d2,z2,hs2⟩:=tiOf_spec (hT _ _ ht)
  obtain ⟨i3,d3,z3,hs3⟩:=tiOf_spec (hT _ _ hte)
  have h1:=hs2.kind
  have hun:cf.P.underlying t=some (.slice e):=by
    rw [hkd] at h1
    have h2:=hs2.und
    cases d2<;>first
      | (simp only [kindD,TK.slice.injEq] at h1;subst h1;exact h2)
      | (simp only [kindD] at h1;cases h1)
  have h2:a.eval x=.slice ao n cap:=evalO_eval ha hx
  simp only [execOp,hop,h2,optV_ok ha hlo,optV_ok ha hhi,Option.map_none,Instr.sliceAt,Instr.slice,Sem.run_bind,run_underlying hun,Result.andThen_ok,run_sliceBounds hl' hh' hlh hhc hnc,run_size hs3.info,hs3.size,Sem.run_pure]
  rfl
theorem oj_slice_to {d:Nat} {x hi:Operand} {t e:TypeId} {T:List (Nat×TI)} (hT:TTok cf.P T) {ti te:TI} {ao:Option Addr} {n cap:Nat} {kk:IntKind} {m:Int} (h:Nat) (hop:it.o.op=.slice t x none (some hi) none) (hd:it.o.dst=some d)
    (hg:guardVal it.guard env=some true) (hN:Nat.blt d cf.N=true) (hx:evalO env x=some (.a (.v (.slice ao n cap)))) (hhi:evalO env hi=some (.a (.v (.int kk m))))
    (ht:tget T t=some ti) (hkd:ti.kind=.slice e) (hte:tget T e=some te) (hm:m=(h:Int)) (hhc:h<=cap) (hnc:n<=cap)
    (k:OJ cf rest Q σ ((d,.a (.v (.slice ao h cap)))::env) hp A nh):OJ cf (it::rest) Q σ env hp A nh:=by
  refine oj_slice (vl:=none) (vh:=some (.int kk m)) hT 0 h hop hd hg hN hx rfl (by simp [optV,hhi]) ht hkd hte (.inl ⟨rfl,rfl⟩) (.inr ⟨kk,m,rfl,hm⟩) (Nat.zero_le _) hhc hnc ?_
  have e1:(if cap=0 then ao else ao.map (·.add (0*te.size)))=ao:=by
    split
    · rfl
    · cases ao<;>simp [Addr.add_zero']
  rw [e1]
  exact k
theorem oj_slice_str {d:Nat} {x:Operand} {lo hi:Option Operand} {vl vh:Option Value} {t:TypeId} {T:List (Nat×TI)} (hT:TTok cf.P T) {ti:TI} {s:ByteArray} (l h:Nat) (hop:it.o.op=.slice t x lo hi none) (hd:it.o.dst=some d)
    (hg:guardVal it.guard env=some true) (hN:Nat.blt d cf.N=true) (hx:evalO env x=some (.a (.v (.string s)))) (hlo:optV env lo=some vl) (hhi:optV env hi=some vh)
    (ht:tget T t=some ti) (hkd:ti.kind=.str) (hl':vl=none/\l=0\/∃ k m,vl=some (.int k m)/\m=(l:Int)) (hh':vh=none/\h=s.size\/∃ k m,vh=some (.int k m)/\m=(h:Int)) (hlh:l<=h) (hhc:h<=s.size)
    (k:OJ cf rest Q σ ((d,.a (.v (.string (s.extract l h))))::env) hp A nh):OJ cf (it::rest) Q σ env hp A nh:=by
  refine oj_val _ hd hg hN (by trivial) (fun _ a β ha w=>?_) k
  obtain ⟨i2,d2,z2,hs2⟩:=tiOf_spec (hT _ _ ht)
  have h1:=hs2.kind
  have hun:cf.P.underlying t=some .string:=by
    rw [hkd] at h1
    have h2:=hs2.und
    cases d2<;>first
      | exact h2
      | (simp only [kindD] at h1;cases h1)
  have h2:a.eval x=.string s:=evalO_eval ha hx
  simp only [execOp,hop,h2,optV_ok ha hlo,optV_ok ha hhi,Option.map_none,Instr.sliceAt,Instr.slice,Sem.run_bind,run_underlying hun,Result.andThen_ok,Option.isSome_none,Bool.false_eq_true,if_false,run_sliceBounds hl' hh' hlh hhc (Nat.le_refl _),Sem.run_pure]
  rfl
end
theorem flat_len {α:Type} {sz:Nat}:∀ {rows:List (List α)},(∀ r∈rows,r.length=sz)->rows.flatten.length=rows.length*sz
  | [],_=>by simp
  | r::l,h=>by
    rw [List.flatten_cons,List.length_append,h r (List.mem_cons_self ..),flat_len fun q hq=>h q (List.mem_cons_of_mem _ hq),List.length_cons,Nat.add_mul]
    omega
theorem flat_get {α:Type} {sz:Nat}:∀ {rows:List (List α)} (_:∀ r∈rows,r.length=sz) {m j:Nat} {r:List α} {c:α},rows[m]?=some r->r[j]?=some c->rows.flatten[m*sz+j]?=some c
  | [],_,_,_,_,_,h,_=>by simp at h
  | q::l,h,m,j,r,c,hm,hj=>by
    have hq:=h q (List.mem_cons_self ..)
    rw [List.flatten_cons]
    cases m with
    | zero =>
      simp at hm
      subst hm
      have:=(List.getElem?_eq_some_iff.1 hj).1
      rw [Nat.zero_mul,Nat.zero_add,List.getElem?_append_left this];exact hj
    | succ m =>
      rw [List.getElem?_append_right (by rw [hq,Nat.add_mul];omega)]
      have e:(m+1)*sz+j - q.length=m*sz+j:=by rw [hq,Nat.add_mul];omega
      rw [e]
      exact flat_get (fun r hr=>h r (List.mem_cons_of_mem _ hr)) (by simpa using hm) hj
theorem flat_set {α:Type} {sz:Nat}:∀ {rows:List (List α)} (_:∀ r∈rows,r.length=sz) {m j:Nat} {r:List α} (c:α),rows[m]?=some r->j<sz->rows.flatten.set (m*sz+j) c=(rows.set m (r.set j c)).flatten
  | [],_,_,_,_,_,h,_=>by simp at h
  | q::l,h,m,j,r,c,hm,hj=>by
    have hq:=h q (List.mem_cons_self ..)
    rw [List.flatten_cons]
    cases m with
    | zero =>
      simp at hm
      subst hm
      rw [Nat.zero_mul,Nat.zero_add,List.set_append_left _ _ (by omega)]
      simp
    | succ m =>
      rw [List.set_append_right _ _ (by rw [hq,Nat.add_mul];omega)]
      have e:(m+1)*sz+j - q.length=m*sz+j:=by rw [hq,Nat.add_mul];omega
      rw [e,flat_set (fun r hr=>h r (List.mem_cons_of_mem _ hr)) c (by simpa using hm) hj]
      simp
theorem flat_take {α:Type} {sz:Nat}:∀ {rows:List (List α)} (_:∀ r∈rows,r.length=sz) (k:Nat),rows.flatten.take (k*sz)=(rows.take k).flatten
  | [],_,k=>by simp
  | q::l,h,0=>by simp
  | q::l,h,k+1=>by
    have hq:=h q (List.mem_cons_self ..)
    rw [List.flatten_cons,List.take_succ_cons,List.flatten_cons,<-flat_take (fun r hr=>h r (List.mem_cons_of_mem _ hr)) k,List.take_append,hq,List.take_of_length_le (by rw [hq,Nat.add_mul];omega)]
    congr 2
    rw [Nat.add_mul]
    omega
theorem ArrSealed.sl {σ:Snap} {E:AE} {rows:List (List AT)} {n sz:Nat} (h:ArrSealed σ E) (hx:E.xs=rows.flatten.map AT.val) (hr:∀ r∈rows,r.length=sz/\∀ c∈r,c.lt 0) (hl:rows.length=n) (hn:E.n=n) (hcap:n<=E.cap):SlAt σ E.ao n E.cap sz rows:=by
  refine ⟨hl,hcap,hr,?_⟩
  rcases h with ⟨_,h2⟩ | ⟨g,h1,h2⟩
  · exact .inl (by omega)
  · refine .inr ⟨⟨g,0,none⟩,h1,fun i r j c hi hj=>?_⟩
    rw [add0]
    refine h2 _ _ ?_
    rw [hx,List.getElem?_map,flat_get (fun r hr'=>(hr r hr').1) hi hj]
    rfl
end Go.Sy
/- Contracts in the reckoning's own words. No program in sight. -/
namespace Go.Sy
def LtAll:List SV->Prop
  | []=>True
  | y::l=>y.lt 0/\LtAll l
theorem LtAll.of:∀ {l:List SV},LtAll l->∀ y∈l,y.lt 0
  | [],_,_,h=>by cases h
  | y::l,h,z,hz=>by
    cases hz with
    | head=>exact h.1
    | tail _ hz=>exact LtAll.of h.2 z hz
def PureS (P:Program) (f:FuncId) (svs:List SV) (σ:Snap) (Φ:Value->Snap->Prop):Prop:=PureC P f (svs.map (SV.den β0)).toArray σ Φ
def PlainS (P:Program) (f:FuncId) (svs:List SV) (σ:Snap) (Φ:Value->Prop):Prop:=PureC P f (svs.map (SV.den β0)).toArray σ (fun v _=>Φ v)
def FnS (P:Program) (f:FuncId) (svs:List SV) (σ:Snap) (A:List AE) (Φ:Value->Snap->List AE->Prop):Prop:=FnC P f (svs.map (SV.den β0)).toArray σ A Φ
theorem enter_s {P:Program} {f:FuncId} {fn:Func} {c:Code} {svs:List SV} {σ:Snap} {Φ:Value->Snap->Prop}
    (hf:P.funcs[f]?=some fn) (hb:fn.body=some c) (hN:Nat.ble svs.length fn.ntmps=true) (hlt:LtAll svs)
    (h:∀ w,CJ ⟨P,w,σ,fun _=>False,fn.ntmps,[],none⟩ c (bodyPost P fn (postR w (fun _=>False) σ (fun v _ σ'=>Φ v σ'))) σ (argEnv 0 svs) [] [] 0):PureS P f svs σ Φ :=
  enter_pure hf hb svs rfl (Nat.le_of_ble_eq_true hN) hlt.of h
theorem enter_p {P:Program} {f:FuncId} {fn:Func} {c:Code} {svs:List SV} {σ:Snap} {Φ:Value->Prop}
    (hf:P.funcs[f]?=some fn) (hb:fn.body=some c) (hN:Nat.ble svs.length fn.ntmps=true) (hlt:LtAll svs)
    (h:∀ w,CJ ⟨P,w,σ,fun _=>False,fn.ntmps,[],none⟩ c (bodyPost P fn (postR w (fun _=>False) σ (fun v _ _=>Φ v))) σ (argEnv 0 svs) [] [] 0):PlainS P f svs σ Φ :=
  enter_pure hf hb svs rfl (Nat.le_of_ble_eq_true hN) hlt.of h
theorem enter_f {P:Program} {f:FuncId} {fn:Func} {c:Code} {svs:List SV} {σ:Snap} {A:List AE} {Φ:Value->Snap->List AE->Prop}
    (hf:P.funcs[f]?=some fn) (hb:fn.body=some c) (hN:Nat.ble svs.length fn.ntmps=true) (hlt:LtAll svs)
    (h:∀ w,CJ ⟨P,w,σ,blks A,fn.ntmps,[],none⟩ c (bodyPost P fn (postR w (blks A) σ (postF P w σ A Φ))) σ (argEnv 0 svs) [] A 0):FnS P f svs σ A Φ :=
  enter_fn hf hb svs rfl (Nat.le_of_ble_eq_true hN) hlt.of h
section
variable {cf:Cf} {Q:Exit->Act->World->Prop} {σ:Snap} {env:Env} {hp:HP} {A:List AE} {nh:Nat} {it:Item} {rest:List Item}
theorem oj_callS {d:Nat} {f:FuncId} {ys:List SV} {Φ:Value->Snap->Prop} (hc:callee env it.o.op=some (f,ys)) (hd:it.o.dst=some d) (hg:guardVal it.guard env=some true)
    (hN:Nat.blt d cf.N=true) (hq:notQuiet it.tag=true) (hcall:∀ args w,(callFunc f args).run cf.P w=.ok (.enter f args) w) (hlt:LtAll ys)
    (hC:PureS cf.P f ys σ Φ)
    (k:∀ v σ',σ.le σ'->Φ v σ'->∃ y:SV,y.lt 0/\y.den β0=v/\OJ cf rest Q σ' ((d,y)::env) hp A nh):OJ cf (it::rest) Q σ env hp A nh :=
  oj_call hc hd hg hN hq hcall hlt.of hC k
theorem oj_callP {d:Nat} {f:FuncId} {ys:List SV} {Φ:Value->Prop} (hc:callee env it.o.op=some (f,ys)) (hd:it.o.dst=some d) (hg:guardVal it.guard env=some true)
    (hN:Nat.blt d cf.N=true) (hq:notQuiet it.tag=true) (hcall:∀ args w,(callFunc f args).run cf.P w=.ok (.enter f args) w) (hlt:LtAll ys)
    (hC:PlainS cf.P f ys σ Φ)
    (k:∀ v,Φ v->∃ y:SV,y.lt 0/\y.den β0=v/\OJ cf rest Q σ ((d,y)::env) hp A nh):OJ cf (it::rest) Q σ env hp A nh :=
  oj_call_plain hc hd hg hN hq hcall hlt.of hC k
theorem oj_callF {d:Nat} {f:FuncId} {ys:List SV} {Φ:Value->Snap->List AE->Prop} (is:List Nat) {A0 Ar:List AE} (hA:reA is A=A0++Ar) (hn:nodupB is=true)
    (hc:callee env it.o.op=some (f,ys)) (hd:it.o.dst=some d) (hg:guardVal it.guard env=some true)
    (hN:Nat.blt d cf.N=true) (htag:canSink it.tag=true) (hcall:∀ args w,(callFunc f args).run cf.P w=.ok (.enter f args) w) (hlt:LtAll ys)
    (hC:FnS cf.P f ys σ A0 Φ)
    (k:∀ v σ' A',σ.le σ'->Φ v σ' A'->∃ y:SV,y.lt 0/\y.den β0=v/\OJ cf rest Q σ' ((d,y)::env) hp (A'++Ar) nh):OJ cf (it::rest) Q σ env hp A nh :=
  oj_call_fn is hA hn hc hd hg hN htag hcall hlt.of hC k
theorem cj_loop2 {α γ:Type} {c:Code} (sσ:α->γ->Snap) (sE:α->γ->Env) (sH:α->γ->HP) (sA:α->γ->List AE) (sn:Nat) (I:α->γ->Prop) (μ:α->γ->Nat) (x0:α) (y0:γ) (h0:I x0 y0) (hσ:sσ x0 y0=σ) (he:allInE (sE x0 y0) env)
    (hh:allInH (sH x0 y0) hp) (hA:sA x0 y0=A) (hl:EnvLt sn (sE x0 y0)) (hl':HpLt sn (sH x0 y0))
    (hround:∀ x y,I x y->CJ cf c (Exit.then (Again cf (fun s:α×γ=>I s.1 s.2) (fun s=>μ s.1 s.2) (fun s=>sσ s.1 s.2) (fun s=>sE s.1 s.2) (fun s=>sH s.1 s.2) (fun s=>sA s.1 s.2) sn (μ x y)) Q) (sσ x y) (sE x y) (sH x y) (sA x y) sn):CJ cf (.loop c) Q σ env hp A nh :=
  cj_loop (fun s:α×γ=>sσ s.1 s.2) (fun s=>sE s.1 s.2) (fun s=>sH s.1 s.2) (fun s=>sA s.1 s.2) sn (fun s=>I s.1 s.2) (fun s=>μ s.1 s.2) (x0,y0) h0 hσ he hh hA hl hl' fun s hI=>hround s.1 s.2 hI
theorem cj_cutB {α:Type} {id:Nat} {c y:Code} {Q':Exit->Act->World->Prop} (sσ:α->Snap) (sE:α->Env) (sH:α->HP) (sA:α->List AE) (sn:Nat) (I:α->Prop)
    (hx:CJ cf c (Exit.inBlock id (Exit.then (Again cf I (fun _=>0) sσ sE sH sA sn 1) Q)) σ env hp A nh) (hy:∀ i,I i->CJ cf y Q' (sσ i) (sE i) (sH i) (sA i) sn):CJ cf c (Exit.inBlock id (Exit.then (wpR cf.rd cf.P y Q') Q)) σ env hp A nh:=by
  have key:∀ e a w,Exit.then (Again cf I (fun _=>0) sσ sE sH sA sn 1) Q e a w->Exit.then (wpR cf.rd cf.P y Q') Q e a w:=by
    intro e a w q
    cases e with
    | normal =>
      obtain ⟨i,hI,_,hb,β,ha,hw⟩:=q
      exact (hy i hI).run hb a β w ha hw
    | _=>exact q
  refine ⟨fun hb a β w ha hw=>Code.wpIn_mono (fun e a w q=>?_) (hx.run hb a β w ha hw)⟩
  cases e with
  | exit i =>
    simp only [Exit.inBlock] at q ⊢
    split
    · rename_i h;rw [if_pos h] at q;exact key _ _ _ q
    · rename_i h;rw [if_neg h] at q;exact key _ _ _ q
  | _=>simp only [Exit.inBlock] at q ⊢;exact key _ _ _ q
theorem cj_cutN {α:Type} {c y:Code} {Q':Exit->Act->World->Prop} (sσ:α->Snap) (sE:α->Env) (sH:α->HP) (sA:α->List AE) (sn:Nat) (I:α->Prop)
    (hx:CJ cf c (Exit.then (Again cf I (fun _=>0) sσ sE sH sA sn 1) Q) σ env hp A nh) (hy:∀ i,I i->CJ cf y Q' (sσ i) (sE i) (sH i) (sA i) sn):CJ cf c (Exit.then (wpR cf.rd cf.P y Q') Q) σ env hp A nh:=by
  refine ⟨fun hb a β w ha hw=>Code.wpIn_mono (fun e a w q=>?_) (hx.run hb a β w ha hw)⟩
  cases e with
  | normal =>
    obtain ⟨i,hI,_,hb,β,ha,hw⟩:=q
    exact (hy i hI).run hb a β w ha hw
  | _=>exact q
end
end Go.Sy
/- More single operations: bits, conversions, bytes of a string, comparisons. No program in sight. -/
namespace Go.Sy
def bAnd (k:IntKind) (x y:Int):Int:=k.wrap ((BitVec.ofInt k.bits x &&& BitVec.ofInt k.bits y).toNat:Nat)
def bOr (k:IntKind) (x y:Int):Int:=k.wrap ((BitVec.ofInt k.bits x ||| BitVec.ofInt k.bits y).toNat:Nat)
def bAndNot (k:IntKind) (x y:Int):Int:=k.wrap ((BitVec.ofInt k.bits x &&& ~~~BitVec.ofInt k.bits y).toNat:Nat)
def bShl (k:IntKind) (x y:Int):Int:=k.wrap (x*2 ^ (min y.toNat k.bits))
def bShr (k:IntKind) (x y:Int):Int:=x.fdiv (2 ^ (min y.toNat k.bits))
def byteRows (s:ByteArray):List (List AT):=s.data.toList.map fun u=>[.v (.int .u8 u.toNat)]
section
variable {cf:Cf} {Q:Exit->Act->World->Prop} {σ:Snap} {env:Env} {hp:HP} {A:List AE} {nh:Nat} {it:Item} {rest:List Item}
theorem oj_fresh {d:Nat} {Φ:Value->Snap->Prop} (hd:it.o.dst=some d) (hg:guardVal it.guard env=some true) (hN:Nat.blt d cf.N=true) (hq:notQuiet it.tag=true)
    (hC:∀ a β,StA cf env β a->∀ w,Sealed σ w->∃ v w' σ',(execOp a.eval it.o).run cf.P w=.ok (.value v) w'/\Fr (fun _=>False) w w'/\SGrow (fun _=>False) σ w σ'/\Sealed σ' w'/\Φ v σ')
    (k:∀ v σ',σ.le σ'->Φ v σ'->∃ y:SV,y.lt 0/\y.den β0=v/\OJ cf rest Q σ' ((d,y)::env) hp A nh):OJ cf (it::rest) Q σ env hp A nh:=by
  refine ⟨fun hb a β ha hex=>?_⟩
  have hN':d<cf.N:=by simpa [Nat.blt_eq] using hN
  have den0:∀ {y:SV},y.lt 0->y.den β=y.den β0:=fun hy=>SV.den_congr (n:=0) (fun i hi=>by omega) hy
  have hrun:∀ w,StW cf σ hp A β w->∀ (K:Act->World->Prop) (Q':Exit->Act->World->Prop),
      (∀ v w' σ',σ.le σ'->Φ v σ'->StW cf σ' hp A β w'->(∀ x,StW cf σ' hp A β x->StW cf σ hp A β x)->K (a.put it.o.dst v) w')->it.o.wq cf.P a w K Q':=by
    intro w hw K Q' hK
    obtain ⟨v,w',σ',he,h1,h2,h3,h4⟩:=hC a β ha w hw.sealed
    unfold Oper.wq
    rw [he]
    simp only [Oper.uponIn]
    refine hK v w' σ' h2.le h4 (hw.after h1 h2 h3) fun x hx=>?_
    have hσ:∀ {b},σ' b=none->σ b=none:=fun hb=>Snap.none_of_le h2.le hb
    refine ⟨hx.os,hx.tape,hx.output,hx.size,hx.fr,fun b o hb=>hx.sealed b o (h2.le b o hb),hw.le,hw.grow,fun i e cs hi=>?_,hw.ro,hx.inj,fun i E hE=>?_,hx.arrd,hx.arrh⟩
    · obtain ⟨q1,q2,q3,q4⟩:=hx.loc i e cs hi
      exact ⟨q1,q2,hσ q3,q4⟩
    · obtain ⟨q1,q2⟩:=hx.arr i E hE
      refine ⟨q1,q2.imp id ?_⟩
      rintro ⟨g,cur,h3,h4,h5,h6,h7,h8,h9,h10⟩
      exact ⟨g,cur,h3,h4,h5,h6,h7,h8,hσ h9,h10⟩
  have cont:∀ v σ',σ.le σ'->Φ v σ'->(∃ w,StW cf σ' hp A β w)->RunT cf.P Q rest (fun w=>StW cf σ' hp A β w) (fun w=>StW cf σ' hp A β w) (a.put it.o.dst v):=by
    intro v σ' hle hΦ hex'
    obtain ⟨y,hy,hyv,hk⟩:=k v σ' hle hΦ
    have:=hk.run (hb.put (SV.lt_mono (Nat.zero_le _) hy) d) (a.put (some d) (y.den β)) β (ha.put hN' y) hex'
    rw [hd,<-hyv,<-den0 hy]
    exact this
  simp only [RunT]
  rw [if_pos (guardVal_ok ha hg)]
  cases htag:it.tag with
  | pure=>rw [htag] at hq;cases hq
  | quiet=>rw [htag] at hq;cases hq
  | keep=>exact fun w hw=>hrun w hw _ _ fun v w' σ' hle hΦ hw' hsub=>⟨_,_,hw',fun _ h=>h,hsub,cont v σ' hle hΦ ⟨_,hw'⟩⟩
  | sink=>exact fun w hw=>hrun w hw _ _ fun v w' σ' hle hΦ hw' _=>⟨_,_,hw',fun _ h=>h,cont v σ' hle hΦ ⟨_,hw'⟩⟩
  | free=>exact fun w hw=>hrun w hw _ _ fun v w' σ' hle hΦ hw' _=>⟨_,_,hw',fun _ h=>h,cont v σ' hle hΦ ⟨_,hw'⟩⟩
theorem run_mark {P:Program} {w:World} {b:Nat} {e:TypeId} {n:Nat} (h:w.shape? b=some (e,n)):(markStringish ⟨b,0,none⟩).run P w=.ok () (w.freeze ⟨b,n,none⟩ 1):=by
  simp only [markStringish,Sem.run_bind,run_shape,Result.andThen_ok,h,run_freeze]
theorem run_toBytes {P:Program} {w:World} {e:TypeId} {y:ByteArray} {cap:Nat} (hc:grownCap w y.size 0 e=cap) {row:Array Value} (hr:row=y.data.map (fun b=>Value.int .u8 b.toNat)++Array.replicate (cap - y.size) (.int .u8 0)) (hs:row.size=cap) :
    (Conv.stringToBytes e y).run P w=.ok (.slice (some ⟨w.heap.size,0,none⟩) y.size cap) ((w.drew.alloc (.cells row e)).freeze ⟨w.heap.size,cap,none⟩ 1):=by
  have hc':(choose (.appendCap y.size 0 e)).run P w=.ok cap w.drew:=by
    simp only [run_choose,Question.forced,Bool.false_eq_true,if_false]
    rw [<-hc];rfl
  have hsh:(w.drew.alloc (.cells row e)).shape? w.heap.size=some (e,cap):=by
    show (match (w.heap.push _)[w.heap.size]? with | some (.cells c elem _)=>some (elem,c.size) | _=>none)=_
    rw [Array.getElem?_push,if_pos rfl]
    simp only [hs]
  have hn:(newRow e (y.data.map (fun b=>Value.int .u8 b.toNat)++Array.replicate (cap - y.size) (.int .u8 0))).run P w.drew=.ok ⟨w.heap.size,0,none⟩ (w.drew.alloc (.cells row e)):=by
    rw [<-hr]
    simp only [newRow,Sem.run_bind,run_newObj,Result.andThen_ok,Sem.run_pure]
    rfl
  simp only [Conv.stringToBytes,Sem.run_bind,hc',Result.andThen_ok,hn,run_mark hsh,Sem.run_pure]
theorem oj_bytes {d:Nat} {x:Operand} {s t e:TypeId} {T:List (Nat×TI)} (hT:TTok cf.P T) {ts ti te:TI} {y:ByteArray} (hop:it.o.op=.convert s t x) (hd:it.o.dst=some d) (hg:guardVal it.guard env=some true)
    (hN:Nat.blt d cf.N=true) (hq:notQuiet it.tag=true) (hx:evalO env x=some (.a (.v (.string y)))) (hs:tget T s=some ts) (ht:tget T t=some ti) (hkd:ti.kind=.slice e) (hte:tget T e=some te) (hke:te.kind=.int .u8)
    (k:∀ ao cap σ',σ.le σ'->SlAt σ' ao y.size cap 1 (byteRows y)->OJ cf rest Q σ' ((d,.a (.v (.slice ao y.size cap)))::env) hp A nh):OJ cf (it::rest) Q σ env hp A nh:=by
  obtain ⟨i1,d1,z1,hs1⟩:=tiOf_spec (hT _ _ hs)
  obtain ⟨i2,d2,z2,hs2⟩:=tiOf_spec (hT _ _ ht)
  obtain ⟨i3,d3,z3,hs3⟩:=tiOf_spec (hT _ _ hte)
  have hut:cf.P.underlying t=some (.slice e):=by
    have h1:=hs2.kind
    rw [hkd] at h1
    have h2:=hs2.und
    cases d2<;>first
      | (simp only [kindD,TK.slice.injEq] at h1;subst h1;exact h2)
      | (simp only [kindD] at h1;cases h1)
  have hue:cf.P.underlying e=some (.int .u8):=by
    have h1:=hs3.kind
    rw [hke] at h1
    have h2:=hs3.und
    cases d3<;>first
      | (simp only [kindD,TK.int.injEq] at h1;subst h1;exact h2)
      | (simp only [kindD] at h1;cases h1)
  refine oj_fresh (Φ:=fun v σ'=>∃ ao cap,v=.slice ao y.size cap/\SlAt σ' ao y.size cap 1 (byteRows y)) hd hg hN hq (fun a β ha w hsl=>?_) (fun v σ' hle ⟨ao,cap,hv,hS⟩=>⟨.a (.v (.slice ao y.size cap)),trivial,hv.symm,k ao cap σ' hle hS⟩)
  have hx':a.eval x=.string y:=evalO_eval ha hx
  have hge:=grownCap_ge w y.size 0 e
  generalize hcap:grownCap w y.size 0 e=cap at hge
  let elems:Array Value:=y.data.map fun b=>.int .u8 b.toNat
  let row:Array Value:=elems++Array.replicate (cap - y.size) (.int .u8 0)
  have hrow:row.size=cap:=by
    have:y.data.size=y.size:=rfl
    simp [row,elems];omega
  let ob:Obj:=.cells row e (cap,cap+1)
  let w1:=w.drew.alloc (.cells row e)
  let w':=w1.freeze ⟨w.heap.size,cap,none⟩ 1
  let σ':Snap:=fun b=>if b=w.heap.size then some ob else σ b
  have hw1:∀ b,b≠w.heap.size->w'.heap[b]?=w.heap[b]?:=by
    intro b hb
    show (if 1=0 then w1 else { w1 with heap:=_ }:World).heap[b]?=_
    rw [if_neg (by omega)]
    simp only [Array.getElem?_modify]
    rw [if_neg (fun h=>hb h.symm)]
    show (w.heap.push _)[b]?=_
    rw [Array.getElem?_push,if_neg hb]
  have hnew:w'.heap[w.heap.size]?=some ob:=by
    show (if 1=0 then w1 else { w1 with heap:=_ }:World).heap[w.heap.size]?=_
    rw [if_neg (by omega)]
    simp only [Array.getElem?_modify,if_true]
    have:w1.heap[w.heap.size]?=some (.cells row e (0,0)):=by
      show (w.heap.push _)[w.heap.size]?=_
      rw [Array.getElem?_push,if_pos rfl]
    rw [this]
    rfl
  have hrun:(execOp a.eval it.o).run cf.P w=.ok (.value (.slice (some ⟨w.heap.size,0,none⟩) y.size cap)) w':=by
    simp only [execOp,hop,hx',convert,Sem.run_bind,run_underlying hs1.und,run_underlying hut,Result.andThen_ok]
    cases d1<;>simp only [run_underlying hue,Result.andThen_ok,run_toBytes hcap (row:=row) rfl hrow,Sem.run_pure]<;>rfl
  refine ⟨_,w',σ',hrun,⟨rfl,rfl,rfl,?_,fun b hb _=>hw1 b (by omega)⟩,⟨fun b o hb=>?_,fun b hb=>?_⟩,fun b o hb=>?_,some ⟨w.heap.size,0,none⟩,cap,rfl,?_⟩
  · have:w'.heap.size=w.heap.size+1:=by
      show (if 1=0 then w1 else { w1 with heap:=_ }:World).heap.size=_
      rw [if_neg (by omega)]
      simp only [Array.size_modify]
      show (w.heap.push _).size=_
      rw [Array.size_push]
    omega
  · have:=(Array.getElem?_eq_some_iff.1 (hsl b o hb)).1
    simp only [σ']
    rw [if_neg (by omega)];exact hb
  · simp only [σ'] at hb
    by_cases h:b=w.heap.size
    · exact .inr (.inl (by omega))
    · rw [if_neg h] at hb;exact .inl hb
  · simp only [σ'] at hb
    by_cases h:b=w.heap.size
    · rw [if_pos h] at hb;injection hb with hb;subst hb;rw [h];exact hnew
    · rw [if_neg h] at hb;rw [hw1 b h];exact hsl b o hb
  · refine ⟨by simp [byteRows],hge,fun r hr=>?_,.inr ⟨_,rfl,fun i r j c hi hj=>?_⟩⟩
    · simp only [byteRows,List.mem_map] at hr
      obtain ⟨u,_,rfl⟩:=hr
      exact ⟨rfl,fun c hc=>by simp at hc;subst hc;trivial⟩
    · simp only [byteRows,List.getElem?_map] at hi
      obtain ⟨u,hu,rfl⟩:=map_some hi
      cases j with
      | succ j=>simp at hj
      | zero =>
        simp at hj
        subst hj
        rw [add0]
        simp only [Snap.cell,σ',if_true,ob,row,elems]
        have hlt:=(List.getElem?_eq_some_iff.1 hu).1
        simp only [Nat.mul_one,Nat.add_zero,Option.isSome_none,Bool.false_eq_true,if_false]
        rw [Array.getElem?_append_left (by simpa using hlt)]
        simp only [Array.getElem?_map,AT.den]
        have:y.data[i]?=some u:=by simpa using hu
        rw [this]
        rfl
theorem run_bits {op:BinOp} {xt:TypeId} {k:IntKind} {m n r:Int} (h:∀ P w,(Op.intBits op k m n).run P w=.ok (.int k r) w) (hop:op=.and\/op=.or\/op=.andNot) (w:World) (P:Program):(binOp op xt (.int k m) (.int k n)).run P w=.ok (.int k r) w:=by
  rcases hop with rfl | rfl | rfl<;>simp only [binOp,ne_eq,not_true,if_false,h]
theorem oj_band {d:Nat} {x y:Operand} {xt yt:TypeId} {k:IntKind} {m n:Int} (hop:it.o.op=.binOp .and xt x y yt) (hd:it.o.dst=some d) (hg:guardVal it.guard env=some true) (hN:Nat.blt d cf.N=true)
    (hx:evalO env x=some (.a (.v (.int k m)))) (hy:evalO env y=some (.a (.v (.int k n))))
    (hk:OJ cf rest Q σ ((d,.a (.v (.int k (bAnd k m n))))::env) hp A nh):OJ cf (it::rest) Q σ env hp A nh :=
  oj_arith _ hop hd hg hN hx hy (fun w P=>run_bits (fun _ _=>rfl) (.inl rfl) w P) hk
theorem oj_bor {d:Nat} {x y:Operand} {xt yt:TypeId} {k:IntKind} {m n:Int} (hop:it.o.op=.binOp .or xt x y yt) (hd:it.o.dst=some d) (hg:guardVal it.guard env=some true) (hN:Nat.blt d cf.N=true)
    (hx:evalO env x=some (.a (.v (.int k m)))) (hy:evalO env y=some (.a (.v (.int k n))))
    (hk:OJ cf rest Q σ ((d,.a (.v (.int k (bOr k m n))))::env) hp A nh):OJ cf (it::rest) Q σ env hp A nh :=
  oj_arith _ hop hd hg hN hx hy (fun w P=>run_bits (fun _ _=>rfl) (.inr (.inl rfl)) w P) hk
theorem oj_bandnot {d:Nat} {x y:Operand} {xt yt:TypeId} {k:IntKind} {m n:Int} (hop:it.o.op=.binOp .andNot xt x y yt) (hd:it.o.dst=some d) (hg:guardVal it.guard env=some true) (hN:Nat.blt d cf.N=true)
    (hx:evalO env x=some (.a (.v (.int k m)))) (hy:evalO env y=some (.a (.v (.int k n))))
    (hk:OJ cf rest Q σ ((d,.a (.v (.int k (bAndNot k m n))))::env) hp A nh):OJ cf (it::rest) Q σ env hp A nh :=
  oj_arith _ hop hd hg hN hx hy (fun w P=>run_bits (fun _ _=>rfl) (.inr (.inr rfl)) w P) hk
theorem oj_bshl {d:Nat} {x y:Operand} {xt yt:TypeId} {k k':IntKind} {m n:Int} (hop:it.o.op=.binOp .shl xt x y yt) (hd:it.o.dst=some d) (hg:guardVal it.guard env=some true) (hN:Nat.blt d cf.N=true)
    (hx:evalO env x=some (.a (.v (.int k m)))) (hy:evalO env y=some (.a (.v (.int k' n)))) (h0:0<=n)
    (hk:OJ cf rest Q σ ((d,.a (.v (.int k (bShl k m n))))::env) hp A nh):OJ cf (it::rest) Q σ env hp A nh:=by
  refine oj_val (.a (.v (.int k (bShl k m n)))) hd hg hN trivial (fun _ a β ha w=>?_) hk
  have h1:a.eval x=.int k m:=evalO_eval ha hx
  have h2:a.eval y=.int k' n:=evalO_eval ha hy
  simp only [execOp,hop,h1,h2,eqGuard,Sem.run_bind,binOp,Op.shift,if_neg (Int.not_lt.2 h0),Sem.run_pure]
  rfl
theorem oj_bshr {d:Nat} {x y:Operand} {xt yt:TypeId} {k k':IntKind} {m n:Int} (hop:it.o.op=.binOp .shr xt x y yt) (hd:it.o.dst=some d) (hg:guardVal it.guard env=some true) (hN:Nat.blt d cf.N=true)
    (hx:evalO env x=some (.a (.v (.int k m)))) (hy:evalO env y=some (.a (.v (.int k' n)))) (h0:0<=n)
    (hk:OJ cf rest Q σ ((d,.a (.v (.int k (bShr k m n))))::env) hp A nh):OJ cf (it::rest) Q σ env hp A nh:=by
  refine oj_val (.a (.v (.int k (bShr k m n)))) hd hg hN trivial (fun _ a β ha w=>?_) hk
  have h1:a.eval x=.int k m:=evalO_eval ha hx
  have h2:a.eval y=.int k' n:=evalO_eval ha hy
  simp only [execOp,hop,h1,h2,eqGuard,Sem.run_bind,binOp,Op.shift,if_neg (Int.not_lt.2 h0),Sem.run_pure]
  rfl
theorem run_eqNil {P:Program} {t e:TypeId} (hun:P.underlying t=some (.slice e)) (m:Nat) (ao:Option Addr) (n c n' c':Nat) (w:World):(Op.equalIn (m+1) t (.slice ao n c) (.slice none n' c')).run P w=.ok ao.isNone w:=by
  cases ao<;>simp only [Op.equalIn,Sem.run_bind,run_underlying hun,Result.andThen_ok,Sem.run_pure]<;>rfl
theorem oj_slnil {d:Nat} {x y:Operand} {t yt e:TypeId} {T:List (Nat×TI)} (hT:TTok cf.P T) {ti:TI} {ao:Option Addr} {n c n' c':Nat} (hop:it.o.op=.binOp .eql t x y yt) (hd:it.o.dst=some d)
    (hg:guardVal it.guard env=some true) (hN:Nat.blt d cf.N=true) (hx:evalO env x=some (.a (.v (.slice ao n c)))) (hy:evalO env y=some (.a (.v (.slice none n' c')))) (ht:tget T t=some ti) (hkd:ti.kind=.slice e)
    (hk:OJ cf rest Q σ ((d,.a (.b ao.isNone))::env) hp A nh):OJ cf (it::rest) Q σ env hp A nh:=by
  refine oj_val (.a (.b ao.isNone)) hd hg hN trivial (fun _ a β ha w=>?_) hk
  obtain ⟨i2,d2,z2,hs2⟩:=tiOf_spec (hT _ _ ht)
  have hun:cf.P.underlying t=some (.slice e):=by
    have h1:=hs2.kind
    rw [hkd] at h1
    have h2:=hs2.und
    cases d2<;>first
      | (simp only [kindD,TK.slice.injEq] at h1;subst h1;exact h2)
      | (simp only [kindD] at h1;cases h1)
  have h1:a.eval x=.slice ao n c:=evalO_eval ha hx
  have h2:a.eval y=.slice none n' c':=evalO_eval ha hy
  have hE:(Op.equal t (.slice ao n c) (.slice none n' c')).run cf.P w=.ok ao.isNone w:=run_eqNil hun 9999 ao n c n' c' w
  have hG:(eqGuard .eql t x y (.slice ao n c) (.slice none n' c')).run cf.P w=.ok () w:=rfl
  have hB:(binOp .eql t (.slice ao n c) (.slice none n' c')).run cf.P w=.ok (.bool ao.isNone) w:=by
    simp only [binOp,Sem.run_bind,hE,Result.andThen_ok,Sem.run_pure]
  simp only [execOp,hop,h1,h2,Sem.run_bind,hG,hB,Result.andThen_ok,Sem.run_pure]
  rfl
theorem oj_index_arr {d:Nat} {x i:Operand} {t:TypeId} {cs:List AT} {k:IntKind} {m:Int} (l:List AT) (e len:Nat) (de:TypeDesc) (hut:cf.P.underlying t=some (.array len e)) (hue:cf.P.underlying e=some de) (hag:aggD de=true) (hop:it.o.op=.index t x i) (hd:it.o.dst=some d)
    (hg:guardVal it.guard env=some true) (hN:Nat.blt d cf.N=true) (hx:evalO env x=some (.agg cs)) (hi:evalO env i=some (.a (.v (.int k m)))) (h0:0<=m) (hm:m.toNat<len)
    (hl:takeAt cs (m.toNat*cf.P.cellsOf e) (cf.P.cellsOf e)=some l)
    (hk:OJ cf rest Q σ ((d,.agg l)::env) hp A nh):OJ cf (it::rest) Q σ env hp A nh:=by
  obtain ⟨hl1,hl2⟩:=takeAt_spec cs _ _ l hl
  have key:Bd env hp nh->(SV.agg l).lt nh:=fun hb c hc=>takeAt_lt hl (evalO_lt hb hx) c hc
  refine ⟨fun hb=>(oj_val (.agg l) hd hg hN (key hb) (fun _ a β ha w=>?_) hk).run hb⟩
  have h2:a.eval x=.agg (cs.map (AT.den β)).toArray:=evalO_eval ha hx
  have h3:a.eval i=.int k m:=evalO_eval ha hi
  have hlt:m<len:=by omega
  simp only [execOp,hop,h2,h3,Instr.index,asIntOf,Sem.run_bind,Sem.run_pure,Result.andThen_ok,run_underlying hut,h0,hlt,and_self,if_true,part,run_isAgg hue,hag,run_sizeB rfl hue]
  rw [hl1]
  simp [SV.den,List.extract_eq_take_drop,List.map_take,List.map_drop]
end
end Go.Sy
/- Steps whose reckoning is told by hand: rows that are not written out. No program in sight. -/
namespace Go.Sy
section
variable {cf:Cf} {Q:Exit->Act->World->Prop} {σ:Snap} {env:Env} {hp:HP} {A:List AE} {nh:Nat} {it:Item} {rest:List Item}
theorem oj_putH {T:List (Nat×TI)} (hT:TTok cf.P T) {i:Nat} {e:TypeId} {cs:List AT} (h:stepOp T it.o.op env hp nh=some (.put i e cs)) (hd:it.o.dst=none) (hg:guardVal it.guard env=some true) (htag:canSink it.tag=true)
    (k:OJ cf rest Q σ env ((i,.loc e,cs)::hp) A nh):OJ cf (it::rest) Q σ env hp A nh:=by
  refine ⟨fun hb a β ha hex=>?_⟩
  obtain ⟨hlt,⟨cs0,h0⟩,hrun⟩:=step_ok (cf:=cf) hT ha hb h (β:=β)
  have hb':Bd env ((i,.loc e,cs)::hp) nh:=hb.row (hb.hp i _ _ h0).1 hlt
  have key:∀ w,StW cf σ hp A β w->∀ Q',it.o.wq cf.P a w (fun a' w'=>∃ E' S':World->Prop,S' w'/\(∀ x,S' x->E' x)/\RunT cf.P Q rest E' S' a') Q':=by
    intro w hw Q'
    unfold Oper.wq
    rw [hrun σ A w hw]
    have hw':=hw.store h0 (cs:=cs)
    refine ⟨_,_,hw',fun _ h=>h,?_⟩
    rw [hd]
    exact k.run hb' a β ha ⟨_,hw'⟩
  simp only [RunT]
  rw [if_pos (guardVal_ok ha hg)]
  cases htag':it.tag with
  | pure=>rw [htag'] at htag;cases htag
  | quiet=>rw [htag'] at htag;cases htag
  | keep=>rw [htag'] at htag;cases htag
  | sink=>exact fun w hw=>key w hw _
  | free=>exact fun w hw=>key w hw _
theorem oj_idx_row {d:Nat} {x i:Operand} {t:TypeId} (e len:Nat) (hut:cf.P.underlying t=some (.array len e)) {de:TypeDesc} (hue:cf.P.underlying e=some de) {h off:Nat} {k:IntKind} {m:Int} (hop:it.o.op=.indexAddr t x i) (hd:it.o.dst=some d)
    (hg:guardVal it.guard env=some true) (hN:Nat.blt d cf.N=true) (hx:evalO env x=some (.a (.p h off))) (hi:evalO env i=some (.a (.v (.int k m)))) (h0:0<=m) (hm:m<len) (o:Nat) (ho:off+m.toNat*cf.P.cellsOf e=o)
    (hk:OJ cf rest Q σ ((d,.a (.p h o))::env) hp A nh):OJ cf (it::rest) Q σ env hp A nh:=by
  subst ho
  refine ⟨fun hb=>(oj_val (.a (.p h (off+m.toNat*cf.P.cellsOf e))) hd hg hN (show h<nh from (evalO_lt hb hx:SV.lt nh (.a (.p h off)))) (fun _ a β ha w=>?_) hk).run hb⟩
  have h2:a.eval x=.pointer (some ((β h).add off)):=evalO_eval ha hx
  have h3:a.eval i=.int k m:=evalO_eval ha hi
  simp only [execOp,hop,h2,h3,Instr.indexAt,asIntOf,Instr.sureAddr,Sem.run_bind,Sem.run_pure,Result.andThen_ok,run_underlying hut,h0,hm,and_self,if_true,run_sizeB rfl hue]
  simp only [SV.den,AT.den,Addr.add_add]
theorem oj_idx_ptr {d:Nat} {x i:Operand} {t:TypeId} (e len:Nat) (hut:cf.P.underlying t=some (.array len e)) {de:TypeDesc} (hue:cf.P.underlying e=some de) {ad:Addr} {k:IntKind} {m:Int} (hop:it.o.op=.indexAddr t x i) (hd:it.o.dst=some d)
    (hg:guardVal it.guard env=some true) (hN:Nat.blt d cf.N=true) (hx:evalO env x=some (.a (.v (.pointer (some ad))))) (hi:evalO env i=some (.a (.v (.int k m)))) (h0:0<=m) (hm:m<len) (ad':Addr) (ho:ad.add (m.toNat*cf.P.cellsOf e)=ad')
    (hk:OJ cf rest Q σ ((d,.a (.v (.pointer (some ad'))))::env) hp A nh):OJ cf (it::rest) Q σ env hp A nh:=by
  subst ho
  refine oj_val (.a (.v (.pointer (some (ad.add (m.toNat*cf.P.cellsOf e)))))) hd hg hN trivial (fun _ a β ha w=>?_) hk
  have h2:a.eval x=.pointer (some ad):=evalO_eval ha hx
  have h3:a.eval i=.int k m:=evalO_eval ha hi
  simp only [execOp,hop,h2,h3,Instr.indexAt,asIntOf,Instr.sureAddr,Sem.run_bind,Sem.run_pure,Result.andThen_ok,run_underlying hut,h0,hm,and_self,if_true,run_sizeB rfl hue]
  rfl
theorem oj_ldS {d t:Nat} {x:Operand} {T:List (Nat×TI)} (hT:TTok cf.P T) {ti:TI} {ad:Addr} {c:AT} (hop:it.o.op=.load t x) (hd:it.o.dst=some d) (hg:guardVal it.guard env=some true) (hN:Nat.blt d cf.N=true)
    (htag:(match it.tag with | .pure=>false | _=>true)=true) (hx:evalO env x=some (.a (.v (.pointer (some ad))))) (ht:tget T t=some ti) (hag:ti.agg=false)
    (hv:σ.cell ad=some c.val) (hc:c.lt 0) (k:OJ cf rest Q σ ((d,.a c)::env) hp A nh):OJ cf (it::rest) Q σ env hp A nh:=by
  refine oj_valW (.a c) hd hg hN (AT.lt_mono (Nat.zero_le _) hc) htag (fun _ a β ha w hw=>?_) k
  obtain ⟨inf,d',z,hs⟩:=tiOf_spec (hT _ _ ht)
  have hcell:=Snap.cell_sealed hw hv
  have hx':a.eval x=.pointer (some ad):=evalO_eval ha hx
  have hload:(load ad).run cf.P w=.ok c.val w:=by rw [run_load,hcell]
  simp only [execOp,hop,Instr.loadAt,hx',Instr.sureAddr,loadVar,Sem.run_bind,Sem.run_pure,Result.andThen_ok,run_isAgg hs.und,hs.agg,hag,Bool.false_eq_true,if_false,hload]
  simp only [SV.den,AT.den_val hc β]
theorem StW.rowset {β:Nat->Addr} {w:World} {i:Nat} {e:TypeId} {cs cs':List AT} (h0:hp.get i=some (.loc e,cs)) (heq:cs.map (AT.den β)=cs'.map (AT.den β)) (h:StW cf σ hp A β w):StW cf σ ((i,.loc e,cs')::hp) A β w:=by
  have hget:∀ {j:Nat} {k:HK} {l:List AT},HP.get ((i,HK.loc e,cs')::hp) j=some (k,l)->(j=i/\k=.loc e/\l=cs')\/hp.get j=some (k,l):=by
    intro j k l hj
    rw [HP.get_cons] at hj
    by_cases hij:i=j
    · rw [if_pos hij] at hj
      injection hj with hj
      simp only [Prod.mk.injEq] at hj
      exact .inl ⟨hij.symm,hj.1.symm,hj.2.symm⟩
    · rw [if_neg hij] at hj;exact .inr hj
  refine ⟨h.os,h.tape,h.output,h.size,h.fr,h.sealed,h.le,h.grow,fun j e' l hj=>?_,fun j l hj=>?_,fun j k e1 e2 l1 l2 hj hk=>?_,h.arr,h.arrd,fun j k E e' l hE hk=>?_⟩
  · rcases hget hj with ⟨rfl,hk,rfl⟩ | hj'
    · injection hk with hk
      subst hk
      rw [<-heq]
      exact h.loc _ _ _ h0
    · exact h.loc j e' l hj'
  · rcases hget hj with ⟨_,hk,_⟩ | hj'
    · cases hk
    · exact h.ro j l hj'
  · rcases hget hj with ⟨rfl,hj1,rfl⟩ | hj'<;>rcases hget hk with ⟨rfl,hk1,rfl⟩ | hk'
    · intro _;rfl
    · exact h.inj _ _ _ _ _ _ h0 hk'
    · exact h.inj _ _ _ _ _ _ hj' h0
    · exact h.inj _ _ _ _ _ _ hj' hk'
  · rcases hget hk with ⟨rfl,_,rfl⟩ | hk'
    · exact h.arrh j _ E e cs hE h0
    · exact h.arrh j k E e' l hE hk'
theorem nj_rowset {ex:Exit} (i:Nat) (cs':List AT) {e:TypeId} {cs:List AT} (h0:hp.get i=some (.loc e,cs)) (heq:∀ β,cs.map (AT.den β)=cs'.map (AT.den β)) (hlt:∀ c∈cs',c.lt nh) (k:NJ cf ex Q σ env ((i,.loc e,cs')::hp) A nh):NJ cf ex Q σ env hp A nh :=
  ⟨fun hb a β w ha hw=>k.run (hb.row (hb.hp i _ _ h0).1 hlt) a β w ha (hw.rowset h0 (heq β))⟩
theorem cj_rowset {c:Code} (i:Nat) (cs':List AT) {e:TypeId} {cs:List AT} (h0:hp.get i=some (.loc e,cs)) (heq:∀ β,cs.map (AT.den β)=cs'.map (AT.den β)) (hlt:∀ c∈cs',c.lt nh) (k:CJ cf c Q σ env ((i,.loc e,cs')::hp) A nh):CJ cf c Q σ env hp A nh :=
  ⟨fun hb a β w ha hw=>k.run (hb.row (hb.hp i _ _ h0).1 hlt) a β w ha (hw.rowset h0 (heq β))⟩
end
theorem lay_one:∀ (cs:List AT) (off:Nat) (c:AT),off<cs.length->lay cs off [c]=some (cs.set off c)
  | [],off,c,h=>by simp at h
  | x::cs,0,c,h=>by cases cs<;>simp [lay]
  | x::cs,off+1,c,h=>by
    simp only [lay,lay_one cs off c (by simpa using h),Option.map_some,List.set_cons_succ]
section
variable {cf:Cf} {Q:Exit->Act->World->Prop} {σ:Snap} {env:Env} {hp:HP} {A:List AE} {nh:Nat} {it:Item} {rest:List Item}
theorem oj_store1 {T:List (Nat×TI)} (hT:TTok cf.P T) {t:TypeId} {x y:Operand} {ti:TI} {h off:Nat} {e:TypeId} {cs:List AT} {c:AT} (hop:it.o.op=.store t x y) (hd:it.o.dst=none) (hg:guardVal it.guard env=some true) (htag:canSink it.tag=true)
    (hx:evalO env x=some (.a (.p h off))) (hy:evalO env y=some (.a c)) (hone:c.one=true) (ht:tget T t=some ti) (hsz:Nat.beq 1 ti.size=true) (hrow:hp.get h=some (.loc e,cs)) (hoff:off<cs.length)
    (k:OJ cf rest Q σ env ((h,.loc e,cs.set off c)::hp) A nh):OJ cf (it::rest) Q σ env hp A nh:=by
  refine oj_putH hT (i:=h) (e:=e) (cs:=cs.set off c) ?_ hd hg htag k
  rw [hop]
  simp only [stepOp,hx,ht,hy,Option.bind_some,SV.cells,hone,cond_true,hrow,List.length_singleton,hsz,List.all_cons,List.all_nil,Bool.and_true,lay_one cs off c hoff,Option.map_some]
end
section
variable {cf:Cf} {Q:Exit->Act->World->Prop} {σ:Snap} {env:Env} {hp:HP} {A:List AE} {nh:Nat} {it:Item} {rest:List Item}
theorem oj_buildArr {T:List (Nat×TI)} (hT:TTok cf.P T) {d:Nat} {t e len:Nat} {parts:Array (Nat×Operand)} {ti te:TI} {l:List AT} (hut:cf.P.underlying t=some (.array len e)) (hop:it.o.op=.build t parts) (hd:it.o.dst=some d) (hg:guardVal it.guard env=some true)
    (hN:Nat.blt d cf.N=true) (ht:tget T t=some ti) (hte:tget T e=some te) (hl:fillS env te.size 0 parts.toList=some l) (hlen:Nat.beq ti.zero.length (parts.toList.length*te.size)=true)
    (k:OJ cf rest Q σ ((d,.agg l)::env) hp A nh):OJ cf (it::rest) Q σ env hp A nh:=by
  refine ⟨fun hb a β ha hex=>?_⟩
  obtain ⟨h1,h2,h3⟩:=fillS_ok (β:=β) ha hb te.size parts.toList 0 l hl
  refine (oj_val (cf:=cf) (.agg l) hd hg hN h2 (fun hb a β ha w=>?_) k).run hb a β ha hex
  obtain ⟨inf,d',z,hs⟩:=tiOf_spec (hT _ _ ht)
  obtain ⟨ie,de,ze,hse⟩:=tiOf_spec (hT _ _ hte)
  obtain ⟨h1,h2,h3⟩:=fillS_ok (β:=β) ha hb te.size parts.toList 0 l hl
  have hparts:(Array.map (fun x=>match x with | (i,x)=>(i,a.eval x)) parts).toList=parts.toList.map fun p=>(p.1,a.eval p.2):=by simp
  have hz:z.cells.size=(0+parts.toList.length)*te.size:=by
    have:=zero_den hs β
    rw [<-this,Nat.zero_add,<-Nat.eq_of_beq_eq_true hlen]
    simp
  have hf:=h3 z.cells hz
  simp only [Nat.zero_mul,List.take_zero,List.nil_append] at hf
  simp only [execOp,hop,Instr.build,Sem.run_bind,run_zero hs.info hs.zero,run_underlying hut,Result.andThen_ok,run_size hse.info,hse.size,hparts,hf,Sem.run_pure]
  rfl
end
end Go.Sy
/- Values as trees, and how they lie in sealed memory. No program in sight. -/
namespace Go.Sy
def mkB (l:List UInt8):ByteArray:=⟨l.toArray⟩
theorem mkB_ex (s:ByteArray):∃ l,s=mkB l:=⟨s.data.toList,rfl⟩
@[simp] theorem mkB_size (l:List UInt8):(mkB l).size=l.length:=by simp [mkB,ByteArray.size]
@[simp] theorem mkB_list (l:List UInt8):(mkB l).data.toList=l:=rfl
theorem mkB_extract (l:List UInt8) (a b:Nat):(mkB l).extract a b=mkB ((l.take b).drop a):=by
  apply ByteArray.ext
  rw [ByteArray.data_extract]
  apply Array.ext'
  simp [mkB,List.extract_eq_take_drop,List.drop_take]
theorem mkB_inj {a b:List UInt8} (h:mkB a=mkB b):a=b:=by
  have:=congrArg (fun s:ByteArray=>s.data.toList) h
  simpa using this
def AllLt (n:Nat):List AT->Prop
  | []=>True
  | c::l=>c.lt n/\AllLt n l
theorem AllLt.of {n:Nat}:∀ {l:List AT},AllLt n l->∀ c∈l,c.lt n
  | [],_,_,h=>by cases h
  | y::l,h,z,hz=>by
    cases hz with
    | head=>exact h.1
    | tail _ hz=>exact AllLt.of h.2 z hz
structure GDec where
  neg:Bool
  dg:ByteArray
  ex:Int
deriving DecidableEq
inductive GVal where
  | mk (kind:Int) (b:Bool) (n:GDec) (s:ByteArray) (l:List GVal) (ks:List ByteArray) (vs:List GVal)
namespace GVal
def kind:GVal->Int | mk k _ _ _ _ _ _=>k
def b:GVal->Bool | mk _ b _ _ _ _ _=>b
def n:GVal->GDec | mk _ _ n _ _ _ _=>n
def s:GVal->ByteArray | mk _ _ _ s _ _ _=>s
def l:GVal->List GVal | mk _ _ _ _ l _ _=>l
def ks:GVal->List ByteArray | mk _ _ _ _ _ ks _=>ks
def vs:GVal->List GVal | mk _ _ _ _ _ _ vs=>vs
end GVal
def decCells (d:GDec):List AT:=[.b d.neg,.v (.string d.dg),.v (.int .i64 d.ex)]
theorem decCells_lt (n:Nat) (d:GDec):∀ c∈decCells d,c.lt n:=by simp [decCells,AT.lt]
def keyRow (k:ByteArray) (r:List AT):List AT:=.v (.string k)::r
def keyRows:List ByteArray->List (List AT)->List (List AT)
  | k::ks,r::rs=>keyRow k r::keyRows ks rs
  | _,_=>[]
def mostLen:Nat:=140737488351232
mutual
def RepV (σ:Snap):GVal->List AT->Prop
  | .mk k b n s l ks vs,r=>∃ la lc lrows ma mc vrows,
      r=[.v (.int .i64 k),.b b,.b n.neg,.v (.string n.dg),.v (.int .i64 n.ex),.v (.string s),.v (.slice la l.length lc),.v (.slice ma ks.length mc)] /\
      SlAt σ la l.length lc 8 lrows/\RepL σ l lrows/\ks.length=vs.length/\SlAt σ ma ks.length mc 9 (keyRows ks vrows)/\RepL σ vs vrows /\
      n.dg.size<=mostLen/\s.size<=mostLen/\l.length<=mostLen/\ks.length<=mostLen/\(∀ k∈ks,k.size<=mostLen)
def RepL (σ:Snap):List GVal->List (List AT)->Prop
  | [],rs=>rs=[]
  | g::gs,rs=>∃ r rs',rs=r::rs'/\RepV σ g r/\RepL σ gs rs'
end
mutual
theorem RepV.mono {σ σ':Snap} (h:σ.le σ'):∀ {g:GVal} {r:List AT},RepV σ g r->RepV σ' g r
  | .mk k b n s l ks vs,r,hr=>by
    simp only [RepV] at hr ⊢
    obtain ⟨la,lc,lrows,ma,mc,vrows,h1,h2,h3,h4,h5,h6,h7⟩:=hr
    exact ⟨la,lc,lrows,ma,mc,vrows,h1,h2.mono h,RepL.mono h h3,h4,h5.mono h,RepL.mono h h6,h7⟩
theorem RepL.mono {σ σ':Snap} (h:σ.le σ'):∀ {gs:List GVal} {rs:List (List AT)},RepL σ gs rs->RepL σ' gs rs
  | [],_,hr=>by simp only [RepL] at hr ⊢;exact hr
  | g::gs,rs,hr=>by
    simp only [RepL] at hr ⊢
    obtain ⟨r,rs',h1,h2,h3⟩:=hr
    exact ⟨r,rs',h1,RepV.mono h h2,RepL.mono h h3⟩
end
theorem RepL.len {σ:Snap}:∀ {gs:List GVal} {rs:List (List AT)},RepL σ gs rs->rs.length=gs.length
  | [],_,h=>by simp only [RepL] at h;subst h;rfl
  | g::gs,rs,h=>by
    simp only [RepL] at h
    obtain ⟨r,rs',rfl,_,h3⟩:=h
    simp [RepL.len h3]
theorem RepL.get {σ:Snap}:∀ {gs:List GVal} {rs:List (List AT)} {i:Nat} {g:GVal},RepL σ gs rs->gs[i]?=some g->∃ r,rs[i]?=some r/\RepV σ g r
  | [],_,_,_,_,hi=>by simp at hi
  | g::gs,rs,0,g',h,hi=>by
    simp only [RepL] at h
    obtain ⟨r,rs',rfl,h2,_⟩:=h
    simp at hi
    subst hi
    exact ⟨r,rfl,h2⟩
  | g::gs,rs,i+1,g',h,hi=>by
    simp only [RepL] at h
    obtain ⟨r,rs',rfl,_,h3⟩:=h
    obtain ⟨r',h4,h5⟩:=RepL.get h3 (i:=i) (by simpa using hi)
    exact ⟨r',by simpa using h4,h5⟩
theorem RepL.append {σ:Snap}:∀ {gs hs:List GVal} {rs qs:List (List AT)},RepL σ gs rs->RepL σ hs qs->RepL σ (gs++hs) (rs++qs)
  | [],hs,rs,qs,h,h'=>by simp only [RepL] at h;subst h;simpa using h'
  | g::gs,hs,rs,qs,h,h'=>by
    simp only [RepL] at h
    obtain ⟨r,rs',rfl,h2,h3⟩:=h
    simp only [List.cons_append,RepL]
    exact ⟨r,rs'++qs,rfl,h2,RepL.append h3 h'⟩
theorem keyRows_len:∀ {ks:List ByteArray} {rs:List (List AT)},ks.length=rs.length->(keyRows ks rs).length=ks.length
  | [],rs,h=>by simp [keyRows]
  | k::ks,[],h=>by simp at h
  | k::ks,r::rs,h=>by simp [keyRows,keyRows_len (ks:=ks) (rs:=rs) (by simpa using h)]
theorem keyRows_get:∀ {ks:List ByteArray} {rs:List (List AT)} {i:Nat} {k:ByteArray} {r:List AT},ks[i]?=some k->rs[i]?=some r->(keyRows ks rs)[i]?=some (keyRow k r)
  | [],_,_,_,_,h,_=>by simp at h
  | _::_,[],_,_,_,_,h=>by simp at h
  | k::ks,r::rs,0,k',r',h,h'=>by simp at h h';subst h;subst h';rfl
  | k::ks,r::rs,i+1,k',r',h,h'=>by
    simp only [keyRows,List.getElem?_cons_succ]
    exact keyRows_get (by simpa using h) (by simpa using h')
theorem RepV.len {σ:Snap} {g:GVal} {r:List AT} (h:RepV σ g r):r.length=8:=by
  cases g
  simp only [RepV] at h
  obtain ⟨_,_,_,_,_,_,rfl,_⟩:=h
  rfl
theorem RepV.clo {σ:Snap} {g:GVal} {r:List AT} (h:RepV σ g r):∀ c∈r,c.lt 0:=by
  cases g
  simp only [RepV] at h
  obtain ⟨_,_,_,_,_,_,rfl,_⟩:=h
  simp [AT.lt]
theorem RepV.one {σ:Snap} {g:GVal} {r:List AT} (h:RepV σ g r):r.all AT.one=true:=by
  cases g
  simp only [RepV] at h
  obtain ⟨_,_,_,_,_,_,rfl,_⟩:=h
  rfl
structure VAt (σ:Snap) (g:GVal) (la:Option Addr) (lc:Nat) (lrows:List (List AT)) (ma:Option Addr) (mc:Nat) (vrows:List (List AT)):Prop where
  L:SlAt σ la g.l.length lc 8 lrows
  l:RepL σ g.l lrows
  kv:g.ks.length=g.vs.length
  M:SlAt σ ma g.ks.length mc 9 (keyRows g.ks vrows)
  v:RepL σ g.vs vrows
  dg:g.n.dg.size<=mostLen
  s:g.s.size<=mostLen
  ll:g.l.length<=mostLen
  kl:g.ks.length<=mostLen
  kk:∀ k∈g.ks,k.size<=mostLen
def vCells (g:GVal) (la:Option Addr) (lc:Nat) (ma:Option Addr) (mc:Nat):List AT :=
  [.v (.int .i64 g.kind),.b g.b,.b g.n.neg,.v (.string g.n.dg),.v (.int .i64 g.n.ex),.v (.string g.s),.v (.slice la g.l.length lc),.v (.slice ma g.ks.length mc)]
theorem vCells_lt (n:Nat) (g:GVal) (la:Option Addr) (lc:Nat) (ma:Option Addr) (mc:Nat):∀ c∈vCells g la lc ma mc,c.lt n:=by simp [vCells,AT.lt]
theorem RepV.open {σ:Snap} {g:GVal} {r:List AT} (h:RepV σ g r):∃ la lc lrows ma mc vrows,r=vCells g la lc ma mc/\VAt σ g la lc lrows ma mc vrows:=by
  cases g
  simp only [RepV] at h
  obtain ⟨la,lc,lrows,ma,mc,vrows,rfl,h2,h3,h4,h5,h6,h7,h8,h9,h10,h11⟩:=h
  exact ⟨la,lc,lrows,ma,mc,vrows,rfl,h2,h3,h4,h5,h6,h7,h8,h9,h10,h11⟩
theorem VAt.rep {σ:Snap} {g:GVal} {la:Option Addr} {lc:Nat} {lrows:List (List AT)} {ma:Option Addr} {mc:Nat} {vrows:List (List AT)} (h:VAt σ g la lc lrows ma mc vrows):RepV σ g (vCells g la lc ma mc):=by
  cases g
  simp only [RepV]
  exact ⟨la,lc,lrows,ma,mc,vrows,rfl,h.L,h.l,h.kv,h.M,h.v,h.dg,h.s,h.ll,h.kl,h.kk⟩
theorem VAt.vlen {σ:Snap} {g:GVal} {la:Option Addr} {lc:Nat} {lrows:List (List AT)} {ma:Option Addr} {mc:Nat} {vrows:List (List AT)} (h:VAt σ g la lc lrows ma mc vrows):vrows.length=g.ks.length:=by
  rw [h.v.len,h.kv]
def sizes:List ByteArray->Nat
  | []=>0
  | k::ks=>k.size+sizes ks
mutual
def GVal.weight:GVal->Nat
  | .mk _ _ n s l ks vs=>1+s.size+n.dg.size+GVal.weights l+sizes ks+GVal.weights vs
def GVal.weights:List GVal->Nat
  | []=>0
  | g::gs=>g.weight+GVal.weights gs
end
theorem weights_append:∀ (a b:List GVal),GVal.weights (a++b)=GVal.weights a+GVal.weights b
  | [],b=>by simp [GVal.weights]
  | g::a,b=>by simp only [List.cons_append,GVal.weights,weights_append a b];omega
theorem sizes_append:∀ (a b:List ByteArray),sizes (a++b)=sizes a+sizes b
  | [],b=>by simp [sizes]
  | g::a,b=>by simp only [List.cons_append,sizes,sizes_append a b];omega
theorem weights_take {l:List GVal} {i:Nat} {g:GVal} (h:l[i]?=some g):GVal.weights (l.take (i+1))=GVal.weights (l.take i)+g.weight:=by
  have hlt:=(List.getElem?_eq_some_iff.1 h).1
  rw [List.take_succ_eq_append_getElem hlt,weights_append]
  simp only [GVal.weights,Nat.add_zero]
  rw [(List.getElem?_eq_some_iff.1 h).2]
theorem sizes_take {l:List ByteArray} {i:Nat} {k:ByteArray} (h:l[i]?=some k):sizes (l.take (i+1))=sizes (l.take i)+k.size:=by
  have hlt:=(List.getElem?_eq_some_iff.1 h).1
  rw [List.take_succ_eq_append_getElem hlt,sizes_append]
  simp only [sizes,Nat.add_zero]
  rw [(List.getElem?_eq_some_iff.1 h).2]
theorem GVal.weight_eq (g:GVal):g.weight=1+g.s.size+g.n.dg.size+GVal.weights g.l+sizes g.ks+GVal.weights g.vs:=by
  cases g;simp only [GVal.weight,GVal.s,GVal.n,GVal.l,GVal.ks,GVal.vs]
theorem weight_pos (g:GVal):0<g.weight:=by rw [GVal.weight_eq];omega
theorem weight_mem {l:List GVal} {g:GVal} (h:g∈l):g.weight<=GVal.weights l:=by
  induction l with
  | nil=>cases h
  | cons x l ih =>
    simp only [GVal.weights]
    cases h with
    | head=>omega
    | tail _ h=>have:=ih h;omega
theorem weights_len (l:List GVal):l.length<=GVal.weights l:=by
  induction l with
  | nil=>simp
  | cons x l ih=>simp only [GVal.weights,List.length_cons];have:=weight_pos x;omega
theorem GVal.byWeight {p:GVal->Prop} (h:∀ g,(∀ g',g'.weight<g.weight->p g')->p g) (g:GVal):p g:=by
  have key:∀ n,∀ g:GVal,g.weight<=n->p g:=by
    intro n
    induction n with
    | zero=>intro g hg;have:=weight_pos g;omega
    | succ n ih=>intro g hg;exact h g fun g' hg'=>ih g' (by omega)
  exact key g.weight g (Nat.le_refl _)
theorem weight_l {g x:GVal} (h:x∈g.l):x.weight<g.weight:=by
  have:=weight_mem h;rw [g.weight_eq];omega
theorem weight_v {g x:GVal} (h:x∈g.vs):x.weight<g.weight:=by
  have:=weight_mem h;rw [g.weight_eq];omega
end Go.Sy
/- Maps that are the call's own: for the moment sealed, and sealed anew when they turn. No program in sight. -/
namespace Go.Sy
open Go.MapKept
def Snap.cle (σ σ':Snap):Prop:=∀ a v,σ.cell a=some v->σ'.cell a=some v
theorem Snap.le.cle {σ σ':Snap} (h:σ.le σ'):σ.cle σ':=fun _ _ hv=>h.cell hv
theorem Snap.cle_trans {a b c:Snap} (h:a.cle b) (h':b.cle c):a.cle c:=fun x v hx=>h' x v (h x v hx)
theorem SlAt.monoC {σ σ':Snap} {ao:Option Addr} {n cap sz:Nat} {rows:List (List AT)} (h:SlAt σ ao n cap sz rows) (hle:σ.cle σ'):SlAt σ' ao n cap sz rows:=by
  refine ⟨h.len,h.ncap,h.clo,?_⟩
  rcases h.at_ with h0 | ⟨ad,h1,h2⟩
  · exact .inl h0
  · exact .inr ⟨ad,h1,fun i r j c hr hc=>hle _ _ (h2 i r j c hr hc)⟩
mutual
theorem RepV.monoC {σ σ':Snap} (h:σ.cle σ'):∀ {g:GVal} {r:List AT},RepV σ g r->RepV σ' g r
  | .mk k b n s l ks vs,r,hr=>by
    simp only [RepV] at hr ⊢
    obtain ⟨la,lc,lrows,ma,mc,vrows,h1,h2,h3,h4,h5,h6,h7⟩:=hr
    exact ⟨la,lc,lrows,ma,mc,vrows,h1,h2.monoC h,RepL.monoC h h3,h4,h5.monoC h,RepL.monoC h h6,h7⟩
theorem RepL.monoC {σ σ':Snap} (h:σ.cle σ'):∀ {gs:List GVal} {rs:List (List AT)},RepL σ gs rs->RepL σ' gs rs
  | [],_,hr=>by simp only [RepL] at hr ⊢;exact hr
  | g::gs,rs,hr=>by
    simp only [RepL] at hr ⊢
    obtain ⟨r,rs',h1,h2,h3⟩:=hr
    exact ⟨r,rs',h1,RepV.monoC h h2,RepL.monoC h h3⟩
end
def nocell:Obj->Bool
  | .cells _ _ _=>false
  | _=>true
def Snap.set (σ:Snap) (b:Nat) (o:Option Obj):Snap:=fun i=>if i=b then o else σ i
theorem Snap.set_self (σ:Snap) (b:Nat) (o:Option Obj):σ.set b o b=o:=by simp [Snap.set]
theorem Snap.set_ne {σ:Snap} {b i:Nat} {o:Option Obj} (h:i≠b):σ.set b o i=σ i:=by simp [Snap.set,h]
theorem Snap.cell_set {σ:Snap} {b:Nat} {o':Option Obj} (h:∀ o,σ b=some o->nocell o=true) (h':∀ o,o'=some o->nocell o=true) (a:Addr):(σ.set b o').cell a=σ.cell a:=by
  unfold Snap.cell
  by_cases hab:a.block=b
  · rw [hab,Snap.set_self]
    have h1:∀ x:Option Obj,(∀ o,x=some o->nocell o=true)->(match x with | some (.cells c _ _)=>(if a.spot.isSome then none else c[a.off]?) | _=>none)=none:=by
      intro x hx
      cases x with
      | none=>rfl
      | some o =>
        have:=hx o rfl
        cases o<;>first | rfl | cases this
    exact (h1 _ h').trans (h1 _ h).symm
  · rw [Snap.set_ne hab]
section
variable {cf:Cf} {σ:Snap} {hp:HP} {A:List AE} {β:Nat->Addr} {w w':World}
theorem StW.nocell_of {b:Nat} {o:Obj} (h:StW cf σ hp A β w) (hb:w.heap[b]?=some o) (ho:nocell o=true):∀ o1,σ b=some o1->nocell o1=true:=by
  intro o1 h1
  have:=h.sealed _ _ h1
  rw [hb] at this
  injection this with this
  subst this
  exact ho
theorem StW.swap {b:Nat} {o:Obj} (s:Option Obj) (h:StW cf σ hp A β w) (hb:w.heap[b]?=some o) (ho:nocell o=true) (h0:cf.σ0 b=none) (hown:Own cf b)
    (h1:w'.os=w.os) (h2:w'.tape=w.tape) (h3:w'.output=w.output) (hsz:w'.heap.size=w.heap.size) (hoth:∀ c,c≠b->w'.heap[c]?=w.heap[c]?)
    (hs:∀ o',s=some o'->w'.heap[b]?=some o'/\nocell o'=true):StW cf (σ.set b s) hp A β w':=by
  have hcells:∀ {c:Nat} {cs:Array Value} {e:TypeId} {f:Nat×Nat},w.heap[c]?=some (.cells cs e f)->c≠b:=fun hc e=>by subst e;rw [hb] at hc;injection hc with hc;subst hc;cases ho
  have hcell:∀ a,(σ.set b s).cell a=σ.cell a:=Snap.cell_set (h.nocell_of hb ho) fun o' e=>(hs o' e).2
  refine ⟨h1.trans h.os,h2.trans h.tape,h3.trans h.output,by rw [hsz];exact h.size,fun c hc hm=>?_,fun c o' hc=>?_,fun c o' hc=>?_,fun c hc=>?_,fun i e cs hi=>?_,fun i cs hi j c hc=>?_,h.inj,fun i E hE=>?_,h.arrd,h.arrh⟩
  · have hne:c≠b:=fun e=>by
      subst e
      rcases hown with ho | ho
      · omega
      · exact hm ho
    rw [hoth c hne];exact h.fr c hc hm
  · by_cases hcb:c=b
    · subst hcb
      rw [Snap.set_self] at hc
      exact (hs o' hc).1
    · rw [Snap.set_ne hcb] at hc
      rw [hoth c hcb];exact h.sealed c o' hc
  · have hcb:c≠b:=fun e=>by subst e;rw [h0] at hc;cases hc
    rw [Snap.set_ne hcb]
    exact h.le c o' hc
  · by_cases hcb:c=b
    · subst hcb;exact .inr hown
    · rw [Snap.set_ne hcb] at hc;exact h.grow c hc
  · obtain ⟨h1,h2,h3,h4⟩:=h.loc i e cs hi
    have hne:=hcells h2
    exact ⟨h1,by rw [hoth _ hne];exact h2,by rw [Snap.set_ne hne];exact h3,h4⟩
  · rw [hcell];exact h.ro i cs hi j c hc
  · obtain ⟨h1,h2⟩:=h.arr i E hE
    refine ⟨h1,h2.imp id ?_⟩
    rintro ⟨g,cur,h3,h4,h5,h6,h7,h8,h9,h10⟩
    have hne:=hcells h4
    exact ⟨g,cur,h3,by rw [hoth _ hne];exact h4,h5,h6,h7,h8,by rw [Snap.set_ne hne];exact h9,h10⟩
theorem StW.own_of {b:Nat} {o:Obj} (h:StW cf σ hp A β w) (hb:σ b=some o) (h0:cf.σ0 b=none):Own cf b:=(h.grow b (by rw [hb];simp)).resolve_left fun hc=>hc h0
theorem setAt_same {w:World} {b:Nat} {o o':Obj} (hb:w.heap[b]?=some o):(w.heap.setIfInBounds b o')[b]?=some o':=(heap_set (o':=o') hb).1
theorem setAt_other {w:World} {b c:Nat} {o o':Obj} (hb:w.heap[b]?=some o) (h:c≠b):(w.heap.setIfInBounds b o')[c]?=w.heap[c]?:=(heap_set (o':=o') hb).2 c h
theorem StW.turn {b:Nat} {o o':Obj} (h:StW cf σ hp A β w) (hb:σ b=some o) (ho:nocell o=true) (ho':nocell o'=true) (h0:cf.σ0 b=none):StW cf (σ.set b (some o')) hp A β { w with heap:=w.heap.setIfInBounds b o' } :=
  h.swap (some o') (h.sealed _ _ hb) ho h0 (h.own_of hb h0) rfl rfl rfl (by simp) (fun c hc=>setAt_other (h.sealed _ _ hb) hc) fun o1 e=>by
    injection e with e
    subst e
    exact ⟨setAt_same (h.sealed _ _ hb),ho'⟩
theorem StW.lay {o:Obj} (h:StW cf σ hp A β w) (ho:nocell o=true):σ w.heap.size=none/\StW cf (σ.set w.heap.size (some o)) hp A β (w.alloc o):=by
  have hold:∀ b,b<w.heap.size->(w.alloc o).heap[b]?=w.heap[b]?:=fun b hb=>by show (w.heap.push _)[b]?=_;rw [Array.getElem?_push,if_neg (Nat.ne_of_lt hb)]
  have hσ:σ w.heap.size=none:=by
    cases hs:σ w.heap.size with
    | none=>rfl
    | some ob =>
      have:=h.sealed _ _ hs
      have:=(Array.getElem?_eq_some_iff.1 this).1
      omega
  have hcell:∀ a,(σ.set w.heap.size (some o)).cell a=σ.cell a:=Snap.cell_set (fun o1 h1=>by rw [hσ] at h1;cases h1) fun o' e=>by injection e with e;subst e;exact ho
  refine ⟨hσ,h.os,h.tape,h.output,by have:=h.size;simp only [World.alloc,Array.size_push];omega,fun b hb hm=>?_,fun b ob hs=>?_,fun b ob hs=>?_,fun b hb=>?_,fun i e cs hi=>?_,fun i cs hi j c hc=>?_,h.inj,fun i E hE=>?_,h.arrd,h.arrh⟩
  · rw [hold b (Nat.lt_of_lt_of_le hb h.size)];exact h.fr b hb hm
  · by_cases hbe:b=w.heap.size
    · subst hbe
      rw [Snap.set_self] at hs
      injection hs with hs
      subst hs
      exact Go.heap_alloc_new w _
    · rw [Snap.set_ne hbe] at hs
      have:=h.sealed b ob hs
      rw [hold b (Array.getElem?_eq_some_iff.1 this).1];exact this
  · have h1:=h.le b ob hs
    have hne:b≠w.heap.size:=fun e=>by rw [e,hσ] at h1;cases h1
    rw [Snap.set_ne hne];exact h1
  · by_cases hbe:b=w.heap.size
    · subst hbe;exact .inr (.inl h.size)
    · rw [Snap.set_ne hbe] at hb;exact h.grow b hb
  · obtain ⟨h1,h2,h3,h4⟩:=h.loc i e cs hi
    have hlt:=(Array.getElem?_eq_some_iff.1 h2).1
    exact ⟨h1,by rw [hold _ hlt];exact h2,by rw [Snap.set_ne (Nat.ne_of_lt hlt)];exact h3,h4⟩
  · rw [hcell];exact h.ro i cs hi j c hc
  · obtain ⟨h1,h2⟩:=h.arr i E hE
    refine ⟨h1,h2.imp id ?_⟩
    rintro ⟨g,cur,h3,h4,h5,h6,h7,h8,h9,h10⟩
    have hlt:=(Array.getElem?_eq_some_iff.1 h4).1
    exact ⟨g,cur,h3,by rw [hold _ hlt];exact h4,h5,h6,h7,h8,by rw [Snap.set_ne (Nat.ne_of_lt hlt)];exact h9,h10⟩
end
section
variable {κ:Type} [DecidableEq κ]
def mix:List (κ×Value)->κ->Nat->Option (Nat×Value)
  | [],_,_=>none
  | p::l,k,i=>if p.1=k then some (i,p.2) else mix l k (i+1)
def mlook (l:List (κ×Value)) (k:κ):Option Value:=(mix l k 0).map (·.2)
def mput:List (κ×Value)->κ->Value->List (κ×Value)
  | [],k,v=>[(k,v)]
  | p::l,k,v=>if p.1=k then (k,v)::l else p::mput l k v
theorem mix_ge:∀ (l:List (κ×Value)) (k:κ) (i m:Nat) (v:Value),mix l k i=some (m,v)->i<=m
  | [],_,_,_,_,h=>by cases h
  | p::l,k,i,m,v,h=>by
    simp only [mix] at h
    split at h
    · simp only [Option.some.injEq,Prod.mk.injEq] at h;omega
    · have:=mix_ge l k (i+1) m v h;omega
theorem mix_none:∀ (l:List (κ×Value)) (k:κ) (i:Nat),mix l k i=none↔∀ p∈l,p.1≠k
  | [],_,_=>by simp [mix]
  | p::l,k,i=>by
    simp only [mix]
    split
    · rename_i h;simp [h]
    · rename_i h;rw [mix_none l k (i+1)];simp [h]
theorem mput_new:∀ {l:List (κ×Value)} {k:κ} {v:Value},(∀ p∈l,p.1≠k)->mput l k v=l++[(k,v)]
  | [],_,_,_=>rfl
  | p::l,k,v,h=>by
    simp only [mput,if_neg (h p (List.mem_cons_self ..)),List.cons_append,mput_new fun q hq=>h q (List.mem_cons_of_mem _ hq)]
variable (mk:κ->Value)
def ents (es:List MapEntry):List (Value×Value):=es.map fun e=>(e.key,e.val)
def mvals (l:List (κ×Value)):List (Value×Value):=l.map fun p=>(mk p.1,p.2)
def MapAt (σ:Snap) (b:Nat) (l:List (κ×Value)):Prop:=∃ es clock,σ b=some (.map es clock)/\ents es.toList=mvals mk l
structure KeyOk (d:TypeDesc):Prop where
  is:∀ x,IsKey d (mk x)
  inj:∀ x y,mk x=mk y->x=y
variable {mk} {d:TypeDesc} (K:KeyOk mk d)
include K
theorem findNow_l (k:κ):∀ (es:List MapEntry) (l:List (κ×Value)) (i:Nat),ents es=mvals mk l->Instr.findNow d (mk k) es i=some (mix l k i)
  | [],[],i,_=>rfl
  | [],_::_,i,h=>by simp [ents,mvals] at h
  | _::_,[],i,h=>by simp [ents,mvals] at h
  | e::es,p::l,i,h=>by
    simp only [ents,mvals,List.map_cons,List.cons.injEq,Prod.mk.injEq] at h
    obtain ⟨⟨h1,h2⟩,h3⟩:=h
    obtain ⟨r,hr,hiff⟩:=sameNow_of_keys (K.is k) (K.is p.1)
    simp only [Instr.findNow,h1,hr,mix]
    cases r with
    | true =>
      have:=K.inj _ _ (hiff.1 rfl)
      rw [if_pos this.symm,h2]
    | false =>
      have hne:¬ p.1=k:=fun e=>by have:=hiff.2 (by rw [e]);cases this
      rw [if_neg hne]
      exact findNow_l k es l (i+1) h3
omit K in
theorem modify_l (k:κ) (v:Value):∀ (es:List MapEntry) (l:List (κ×Value)) (i m:Nat) (u:Value),ents es=mvals mk l->mix l k i=some (m,u) ->
    ents (es.modify (m - i) fun e=>{ e with key:=mk k,val:=v })=mvals mk (mput l k v)/\∃ e,es[m - i]?=some e/\e.key=mk k
  | [],[],i,m,u,_,hm=>by cases hm
  | [],_::_,i,m,u,h,_=>by simp [ents,mvals] at h
  | _::_,[],i,m,u,h,_=>by simp [ents,mvals] at h
  | e::es,p::l,i,m,u,h,hm=>by
    simp only [ents,mvals,List.map_cons,List.cons.injEq,Prod.mk.injEq] at h
    obtain ⟨⟨h1,h2⟩,h3⟩:=h
    simp only [mix] at hm
    split at hm
    · rename_i hp
      simp only [Option.some.injEq,Prod.mk.injEq] at hm
      obtain ⟨rfl,rfl⟩:=hm
      simp only [Nat.sub_self,List.modify_zero_cons,mput,if_pos hp,ents,mvals,List.map_cons,h3,true_and]
      exact ⟨e,rfl,by rw [h1,hp]⟩
    · rename_i hp
      have hge:=mix_ge l k (i+1) m u hm
      obtain ⟨h4,e',h5,h6⟩:=modify_l k v es l (i+1) m u h3 hm
      have hx:m - i=(m - (i+1))+1:=by omega
      rw [hx]
      simp only [List.modify_succ_cons,mput,if_neg hp]
      refine ⟨?_,e',by simpa using h5,h6⟩
      simp only [ents,mvals,List.map_cons,List.cons.injEq,Prod.mk.injEq] at h4 ⊢
      exact ⟨⟨h1,h2⟩,h4⟩
variable {P:Program} {w:World} {t kt et:TypeId} {b:Nat} {es:Array MapEntry} {clock:Nat} {l:List (κ×Value)}
theorem run_mlookup (hm:P.underlying t=some (.map kt et)) (hd:P.underlying kt=some d) (hb:w.heap[b]?=some (.map es clock)) (hl:ents es.toList=mvals mk l) {z:Value} (hz:(zeroValue et).run P w=.ok z w) (k:κ) (ok:Bool) :
    (Instr.lookup t (.map (some b)) (mk k) ok).run P w=.ok (if ok then .tuple #[(mlook l k).getD z,.bool (mlook l k).isSome] else (mlook l k).getD z) w:=by
  have hf:=run_findKey (P:=P) (w:=w) hd (findNow_l K k es.toList l 0 hl)
  have hc:=run_checkKey (P:=P) (w:=w) hd (K.is k) es.isEmpty 9999
  unfold Instr.lookup mlook
  simp only [Sem.run_bind,run_underlying hm,Go.MapKept.run_getObj_map hb,Result.andThen_ok,Sem.run_pure,hc,hf]
  cases hx:mix l k 0 with
  | none=>simp [hz,Result.andThen_ok]
  | some q=>obtain ⟨i,v⟩:=q;simp
theorem run_mupdate (hm:P.underlying t=some (.map kt et)) (hd:P.underlying kt=some d) (hb:w.heap[b]?=some (.map es clock)) (hl:ents es.toList=mvals mk l) (k:κ) (v:Value) :
    ∃ es' clock',ents es'.toList=mvals mk (mput l k v)/\(Instr.mapUpdate t (.map (some b)) (mk k) v).run P w=.ok () { w with heap:=w.heap.setIfInBounds b (.map es' clock') }:=by
  have hf:=run_findKey (P:=P) (w:=w) hd (findNow_l K k es.toList l 0 hl)
  have hc:=run_checkKey (P:=P) (w:=w) hd (K.is k) false 9999
  cases hx:mix l k 0 with
  | none =>
    rw [hx] at hf
    refine ⟨es.push { key:=mk k,val:=v,born:=clock },clock+1,?_,?_⟩
    · rw [mput_new ((mix_none l k 0).1 hx)]
      simp only [ents,mvals,Array.toList_push,List.map_append,List.map_cons,List.map_nil] at hl ⊢
      rw [hl]
    · unfold Instr.mapUpdate
      simp only [Sem.run_bind,run_underlying hm,Go.MapKept.run_getObj_map hb,Result.andThen_ok,hc,hf,Go.MapKept.run_setObj_map _ hb]
  | some q =>
    obtain ⟨i,u⟩:=q
    rw [hx] at hf
    obtain ⟨h1,e,h2,h3⟩:=modify_l k v es.toList l 0 i u hl hx
    simp only [Nat.sub_zero] at h1 h2
    refine ⟨es.modify i fun e=>{ e with key:=mk k,val:=v },clock,by rw [Array.toList_modify];exact h1,?_⟩
    have hj:es[i]?=some e:=by simpa using h2
    unfold Instr.mapUpdate
    simp only [Sem.run_bind,run_underlying hm,Go.MapKept.run_getObj_map hb,Result.andThen_ok,hc,hf,hj,Option.map_some,Option.getD_some,h3,run_keyThatStays (K.is k),Go.MapKept.run_setObj_map _ hb]
end
theorem string_key {d:TypeDesc} (h:d=.string):KeyOk Value.string d:=by
  subst h
  exact ⟨fun _=>by simp [IsKey],fun _ _ h=>by injection h⟩
section
variable {cf:Cf} {Q:Exit->Act->World->Prop} {σ:Snap} {env:Env} {hp:HP} {A:List AE} {nh:Nat} {it:Item} {rest:List Item}
theorem oj_makeMap {κ:Type} (mk:κ->Value) {d:Nat} {t:TypeId} (hop:it.o.op=.makeMap t none) (hd:it.o.dst=some d) (hg:guardVal it.guard env=some true) (hN:Nat.blt d cf.N=true) (hq:notQuiet it.tag=true)
    (k:∀ b σ',σ b=none->σ.le σ'->MapAt mk σ' b []->OJ cf rest Q σ' ((d,.a (.v (.map (some b))))::env) hp A nh):OJ cf (it::rest) Q σ env hp A nh:=by
  refine oj_fresh (Φ:=fun v σ'=>∃ b,v=.map (some b)/\σ b=none/\MapAt mk σ' b []) hd hg hN hq (fun a β ha w hs=>?_) fun v σ' hle ⟨b,hv,h0,hm⟩=>⟨.a (.v (.map (some b))),trivial,hv.symm,k b σ' h0 hle hm⟩
  have hnone:σ w.heap.size=none:=by
    cases hs':σ w.heap.size with
    | none=>rfl
    | some o =>
      have:=(Array.getElem?_eq_some_iff.1 (hs _ _ hs')).1
      omega
  have hold:∀ b,b<w.heap.size->(w.alloc (.map #[] 0)).heap[b]?=w.heap[b]?:=fun b hb=>by show (w.heap.push _)[b]?=_;rw [Array.getElem?_push,if_neg (Nat.ne_of_lt hb)]
  refine ⟨.map (some w.heap.size),w.alloc (.map #[] 0),fun i=>if i=w.heap.size then some (.map #[] 0) else σ i,?_,⟨rfl,rfl,rfl,by show _<=(w.heap.push _).size;rw [Array.size_push];omega,fun b hb _=>hold b hb⟩,⟨fun b o hb=>?_,fun b hb=>?_⟩,fun b o hb=>?_,_,rfl,hnone,?_⟩
  · simp only [execOp,hop,Option.map_none]
    rfl
  · show (if b=w.heap.size then some (Obj.map #[] 0) else σ b)=some o
    rw [if_neg (fun e=>by rw [e,hnone] at hb;cases hb)];exact hb
  · by_cases hbe:b=w.heap.size
    · exact .inr (.inl (by omega))
    · left
      simp only [if_neg hbe] at hb
      exact hb
  · by_cases hbe:b=w.heap.size
    · simp only [if_pos hbe] at hb
      injection hb with hb
      subst hb;subst hbe
      exact Go.heap_alloc_new w _
    · simp only [if_neg hbe] at hb
      have:=hs b o hb
      rw [hold b (Array.getElem?_eq_some_iff.1 this).1];exact this
  · exact ⟨#[],0,by simp,rfl⟩
theorem oj_lookup {κ:Type} [DecidableEq κ] {mk:κ->Value} {dd:TypeDesc} (K:KeyOk mk dd) {d:Nat} {t kt et:TypeId} {m x:Operand} {ok:Bool} {b:Nat} {l:List (κ×Value)} {kk:κ} {y:SV} {z:Value}
    (hm:cf.P.underlying t=some (.map kt et)) (hkt:cf.P.underlying kt=some dd) (hz:∀ w,(zeroValue et).run cf.P w=.ok z w)
    (hop:it.o.op=.lookup t m x ok) (hd:it.o.dst=some d) (hg:guardVal it.guard env=some true) (hN:Nat.blt d cf.N=true) (ht:(match it.tag with | .pure=>false | _=>true)=true)
    (hmv:evalO env m=some (.a (.v (.map (some b))))) (hxv:∃ s,evalO env x=some s/\∀ β,s.den β=mk kk) (hM:MapAt mk σ b l) (hlt:y.lt 0)
    (hy:y.den β0=if ok then .tuple #[(mlook l kk).getD z,.bool (mlook l kk).isSome] else (mlook l kk).getD z)
    (k:OJ cf rest Q σ ((d,y)::env) hp A nh):OJ cf (it::rest) Q σ env hp A nh:=by
  obtain ⟨es,clock,h1,h2⟩:=hM
  obtain ⟨s,hs,hsd⟩:=hxv
  refine oj_valW y hd hg hN (SV.lt_mono (Nat.zero_le _) hlt) ht (fun hb a β ha w hw=>?_) k
  have e1:a.eval m=.map (some b):=evalO_eval ha hmv
  have e2:a.eval x=mk kk:=(evalO_eval ha hs).trans (hsd β)
  have hd0:y.den β=y.den β0:=SV.den_congr (n:=0) (fun i hi=>by omega) hlt
  have hr:=run_mlookup K hm hkt (hw.sealed _ _ h1) h2 (hz w) kk ok
  simp only [execOp,hop,e1,e2,Sem.run_bind]
  rw [hr,hd0,hy]
  rfl
def updOf:Op->Option (TypeId×Operand×Operand×Operand)
  | .mapUpdate t m x v=>some (t,m,x,v)
  | .insert t m x v=>some (t,m,x,v)
  | _=>none
theorem oj_mapUpdate {κ:Type} [DecidableEq κ] {mk:κ->Value} {dd:TypeDesc} (K:KeyOk mk dd) {t kt et:TypeId} {m x v:Operand} {b:Nat} {l:List (κ×Value)} {kk:κ} {vv:Value}
    (hm:cf.P.underlying t=some (.map kt et)) (hkt:cf.P.underlying kt=some dd)
    (hop:updOf it.o.op=some (t,m,x,v)) (hd:it.o.dst=none) (hg:guardVal it.guard env=some true) (ht:canSink it.tag=true)
    (hmv:evalO env m=some (.a (.v (.map (some b))))) (hxv:∃ s,evalO env x=some s/\∀ β,s.den β=mk kk) (hvv:∃ s,evalO env v=some s/\∀ β,s.den β=vv) (hM:MapAt mk σ b l) (h0:cf.σ0 b=none)
    (k:∀ σ',σ.cle σ'->(∀ i,i≠b->σ' i=σ i)->MapAt mk σ' b (mput l kk vv)->OJ cf rest Q σ' env hp A nh):OJ cf (it::rest) Q σ env hp A nh:=by
  obtain ⟨es,clock,h1,h2⟩:=hM
  obtain ⟨s,hs,hsd⟩:=hxv
  obtain ⟨u,hu,hud⟩:=hvv
  refine ⟨fun hb a β ha hex=>?_⟩
  have key:∀ w,StW cf σ hp A β w->∀ Q',it.o.wq cf.P a w (fun a' w'=>∃ E' S':World->Prop,S' w'/\(∀ x,S' x->E' x)/\RunT cf.P Q rest E' S' a') Q':=by
    intro w hw Q'
    have e1:a.eval m=.map (some b):=evalO_eval ha hmv
    have e2:a.eval x=mk kk:=(evalO_eval ha hs).trans (hsd β)
    have e3:a.eval v=vv:=(evalO_eval ha hu).trans (hud β)
    obtain ⟨es',clock',h3,h4⟩:=run_mupdate (P:=cf.P) K hm hkt (hw.sealed _ _ h1) h2 kk vv
    have hrun:(execOp a.eval it.o).run cf.P w=.ok .skip { w with heap:=w.heap.setIfInBounds b (.map es' clock') }:=by
      unfold updOf at hop
      split at hop
      · rename_i hop'
        simp only [Option.some.injEq,Prod.mk.injEq] at hop
        obtain ⟨rfl,rfl,rfl,rfl⟩:=hop
        simp only [execOp,hop',e1,e2,e3,Sem.run_bind,h4,Result.andThen_ok,Sem.run_pure]
      · rename_i hop'
        simp only [Option.some.injEq,Prod.mk.injEq] at hop
        obtain ⟨rfl,rfl,rfl,rfl⟩:=hop
        simp only [execOp,hop',e1,e2,e3,Sem.run_bind,h4,Result.andThen_ok,Sem.run_pure]
      · cases hop
    have hw':=hw.turn (o':=.map es' clock') h1 rfl rfl h0
    unfold Oper.wq
    rw [hrun]
    refine ⟨_,_,hw',fun _ h=>h,?_⟩
    rw [hd]
    refine (k _ (fun ad c hc=>?_) (fun i hi=>Snap.set_ne hi) ⟨es',clock',Snap.set_self ..,h3⟩).run hb a β ha ⟨_,hw'⟩
    rw [Snap.cell_set (hw.nocell_of (hw.sealed _ _ h1) rfl) (fun o e=>by injection e with e;subst e;rfl)];exact hc
  simp only [RunT]
  rw [if_pos (guardVal_ok ha hg)]
  cases htag:it.tag with
  | pure=>rw [htag] at ht;cases ht
  | quiet=>rw [htag] at ht;cases ht
  | keep=>rw [htag] at ht;cases ht
  | sink=>exact fun w hw=>key w hw _
  | free=>exact fun w hw=>key w hw _
end
end Go.Sy
