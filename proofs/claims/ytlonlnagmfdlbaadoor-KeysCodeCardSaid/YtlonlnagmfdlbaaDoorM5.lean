/- Parts of the proof of CKeysCode: SyU, SyX, SyY, SyZ, K1, K2, KSh, K3, K4. No conditions. -/
import Derived.Test.YtlonlnagmfdlbaaDoorM4
import Derived.Laws.IdiomStrings
import Derived.Lib.BufferRead
import Derived.Shelf.Strings.Replace
import Derived.Test.YtlonlnagmfdlbaaDoorProg
/- Regions whose orders fork: of two operations that change the world, either may come first, and both ways are gone. No program in sight. -/
namespace Go.Sy
structure GJ (cf:Cf) (ops:Array Oper) (U bef:List Nat) (n:Nat) (listed:Array Bool) (fst:Bool) (Q:Exit->Act->World->Prop) (σ:Snap) (env:Env) (hp:HP) (A:List AE) (nh:Nat):Prop where
  run:Region.noSelect ops=true->Bd env hp nh->∀ a β,StA cf env β a->(∃ w,StW cf σ hp A β w)->Closed ops listed->∀ E0:World->Prop,(∀ x,StW cf σ hp A β x->E0 x) ->
    (fst=true->∀ x,E0 x->StW cf σ hp A β x)->wpAnyC cf.P ops U Q n listed a E0 (fun w=>StW cf σ hp A β w)
structure GK (cf:Cf) (ops:Array Oper) (U bef:List Nat) (n:Nat) (listed:Array Bool) (j:Nat) (Q:Exit->Act->World->Prop) (σ:Snap) (env:Env) (hp:HP) (A:List AE) (nh:Nat):Prop where
  run:Region.noSelect ops=true->Bd env hp nh->∀ a β,StA cf env β a->(∃ w,StW cf σ hp A β w)->Closed ops listed->j∈Region.ready .any ops listed->∀ E0:World->Prop,(∀ x,StW cf σ hp A β x->E0 x) ->
    stepC cf.P ops U Q j (wpAnyC cf.P ops U Q n (listed.setIfInBounds j true)) a E0 (fun w=>StW cf σ hp A β w)
section
variable {cf:Cf} {Q:Exit->Act->World->Prop} {σ:Snap} {env:Env} {hp:HP} {A:List AE} {nh:Nat} {ops:Array Oper} {U bef:List Nat} {n:Nat} {listed:Array Bool} {fst:Bool}
theorem cj_drawG {id:Nat} (m:Nat) (U:List Nat) (hm:cf.P.follows .mixedOrders=true) (hs:Region.noSelect ops=true) (hn:ops.size=m)
    (h:GJ cf ops U [] m (Array.replicate m false) true Q σ env hp A nh) (hd:okRd cf.rd ops=true:=by rfl):CJ cf (.region id ops true) Q σ env hp A nh:=by
  subst hn
  refine ⟨fun hb a β w ha hw=>wpIn_region_any hm ?_⟩
  have hc:Closed ops (Array.replicate ops.size false):=⟨by simp,fun j oj _ hl=>by
    exfalso
    rcases Nat.lt_or_ge j ops.size with h | h
    · simp [h] at hl
    · simp [h] at hl⟩
  exact wpAnyIn_of_C (okRd_mem hd) _ _ _ _ _ _ hw.drew (h.run hs hb a β ha ⟨_,hw⟩ hc _ (fun _ h=>h) (fun _ _ h=>h))
theorem gj_valT {i d:Nat} {o:Oper} (y:SV) (hi:ops[i]?=some o) (hr:(Region.ready .any ops listed).contains i=true) (hf:Region.free .any ops listed i=true) (hk:(U.contains i||fst)=true)
    (hd:o.dst=some d) (hg:guardVal (slotOf ops o) env=some true) (hN:Nat.blt d cf.N=true) (hlt:y.lt nh)
    (hrun:Bd env hp nh->∀ a β,StA cf env β a->∀ w,(U.contains i=false->StW cf σ hp A β w)->(execOp a.eval o).run cf.P w=.ok (.value (y.den β)) w)
    (k:GJ cf ops U (bef++[i]) n (listed.setIfInBounds i true) fst Q σ ((d,y)::env) hp A nh):GJ cf ops U bef (n+1) listed fst Q σ env hp A nh:=by
  refine ⟨fun hs hb a β ha hex hc E0 hE hF=>?_⟩
  have hN':d<cf.N:=by simpa [Nat.blt_eq] using hN
  have hr':i∈Region.ready .any ops listed:=by simpa using hr
  have hw:Region.wanted o (yielded ops a.tmps)=true:=by rw [<-wantedS_slotOf];exact guardVal_ok ha hg
  have hrest:=k.run hs (hb.put hlt d) _ β (ha.put hN' y) hex (hc.set hr') E0 hE hF
  refine wpAnyC_first hi (Region.noSelect_spec hs) n listed a E0 _ hc hE (Region.free_spec hi hf) hr' ⟨.inl ⟨hw,fun w hE0=>.inl ?_⟩,fun hu=>.inl ⟨hw,fun w _=>.inl ?_⟩⟩ (by rw [hd];exact hrest)
  · refine hrun hb a β ha w fun hu=>?_
    rw [hu,Bool.false_or] at hk
    exact hF hk w hE0
  · exact hrun hb a β ha w fun hu'=>absurd (List.contains_iff_mem.2 hu) (by rw [hu'];simp)
theorem gj_val {i d:Nat} {o:Oper} {T:List (Nat×TI)} (hT:TTok cf.P T) {x:SV} (hi:ops[i]?=some o) (hr:(Region.ready .any ops listed).contains i=true) (hf:Region.free .any ops listed i=true)
    (hk:(bif U.contains i then !isLoad o.op else fst)=true) (hd:o.dst=some d) (hg:guardVal (slotOf ops o) env=some true) (hN:Nat.blt d cf.N=true) (h:stepOp T o.op env hp nh=some (.val x))
    (k:GJ cf ops U (bef++[i]) n (listed.setIfInBounds i true) fst Q σ ((d,x)::env) hp A nh):GJ cf ops U bef (n+1) listed fst Q σ env hp A nh:=by
  refine ⟨fun hs hb a β ha hex hc E0 hE hF=>?_⟩
  have hx:x.lt nh:=(step_ok (o:=o) hT ha hb h).1
  refine (gj_valT x hi hr hf ?_ hd hg hN hx (fun hb a β ha w hw=>?_) k).run hs hb a β ha hex hc E0 hE hF
  · cases hu:U.contains i<;>rw [hu] at hk
    · simpa using hk
    · rfl
  · refine (step_ok (o:=o) hT ha hb h).2 w fun hl=>⟨σ,A,hw ?_⟩
    cases hu:U.contains i with
    | false=>rfl
    | true=>rw [hu,cond_true,hl] at hk;cases hk
theorem gj_fork (js:List Nat) (hr:(Region.ready .any ops listed == js)=true) (hne:js.isEmpty=false) (k:∀ j,j∈js->GK cf ops U bef n listed j Q σ env hp A nh):GJ cf ops U bef (n+1) listed fst Q σ env hp A nh:=by
  refine ⟨fun hs hb a β ha hex hc E0 hE hF=>?_⟩
  have hr':=eq_of_beq hr
  refine ⟨fun h0=>?_,fun j hj=>(k j (by rw [<-hr'];exact hj)).run hs hb a β ha hex hc hj E0 hE⟩
  rw [hr'] at h0
  subst h0
  cases hne
theorem gj_two {i j:Nat} (hr:(Region.ready .any ops listed == [i,j])=true) (ki:GK cf ops U bef n listed i Q σ env hp A nh) (kj:GK cf ops U bef n listed j Q σ env hp A nh):GJ cf ops U bef (n+1) listed fst Q σ env hp A nh :=
  gj_fork [i,j] hr rfl fun m hm=>by
    simp only [List.mem_cons,List.not_mem_nil,or_false] at hm
    rcases hm with rfl | rfl
    · exact ki
    · exact kj
theorem gk_call {j d:Nat} {o:Oper} {f:FuncId} {ys:List SV} {Φ:Value->Snap->Prop} (hj:ops[j]?=some o) (hc:callee env o.op=some (f,ys)) (hd:o.dst=some d) (hg:guardVal (slotOf ops o) env=some true)
    (hN:Nat.blt d cf.N=true) (hcall:∀ args w,(callFunc f args).run cf.P w=.ok (.enter f args) w) (hlt:LtAll ys) (hC:PureS cf.P f ys σ Φ)
    (k:∀ v σ',σ.le σ'->Φ v σ'->∃ y:SV,y.lt 0/\y.den β0=v/\GJ cf ops U (bef++[j]) n (listed.setIfInBounds j true) false Q σ' ((d,y)::env) hp A nh):GK cf ops U bef n listed j Q σ env hp A nh:=by
  refine ⟨fun hs hb a β ha hex hcl hr E0 hE=>?_⟩
  have hN':d<cf.N:=by simpa [Nat.blt_eq] using hN
  have den0:∀ {y:SV},y.lt 0->y.den β=y.den β0:=fun hy=>SV.den_congr (n:=0) (fun i hi=>by omega) hy
  have hargs:(ys.map (SV.den β)).toArray=(ys.map (SV.den β0)).toArray:=by
    rw [List.map_congr_left fun y hy=>den0 (hlt.of y hy)]
  have hwant:Region.wanted o (yielded ops a.tmps)=true:=by rw [<-wantedS_slotOf];exact guardVal_ok ha hg
  unfold stepC
  simp only [hj]
  rw [if_pos hwant]
  intro w hw
  unfold Oper.wq
  rw [callee_ok ha hc hcall]
  simp only [Oper.uponIn]
  rw [hargs]
  refine ⟨fun h=>(by cases h),CallsIn.mono (callsIn_FR.2 (hC w hw.sealed)) fun e w' ⟨v,σ',he,h1,h2,h3,h4⟩=>?_⟩
  subst he
  have hw':=hw.after h1 h2 h3
  have hσ:∀ {b},σ' b=none->σ b=none:=fun hb=>Snap.none_of_le h2.le hb
  have hsub:∀ x,StW cf σ' hp A β x->StW cf σ hp A β x:=by
    intro x hx
    refine ⟨hx.os,hx.tape,hx.output,hx.size,hx.fr,fun b o hb=>hx.sealed b o (h2.le b o hb),hw.le,hw.grow,fun i e cs hi=>?_,hw.ro,hx.inj,fun i E hE=>(hx.arr i E hE).weak hσ,hx.arrd,hx.arrh⟩
    obtain ⟨q1,q2,q3,q4⟩:=hx.loc i e cs hi
    exact ⟨q1,q2,hσ q3,q4⟩
  obtain ⟨y,hy,hyv,hk⟩:=k v σ' h2.le h4
  refine ⟨E0,_,hw',fun x hx=>hE x (hsub x hx),.inl fun _ h=>h,?_⟩
  have:=hk.run hs (hb.put (SV.lt_mono (Nat.zero_le _) hy) d) (a.put (some d) (y.den β)) β (ha.put hN' y) ⟨_,hw'⟩ (hcl.set hr) E0 (fun x hx=>hE x (hsub x hx)) (fun h=>by cases h)
  rw [hd,<-hyv,<-den0 hy]
  exact this
theorem gk_callP {j d:Nat} {o:Oper} {f:FuncId} {ys:List SV} {Φ:Value->Prop} (hj:ops[j]?=some o) (hc:callee env o.op=some (f,ys)) (hd:o.dst=some d) (hg:guardVal (slotOf ops o) env=some true)
    (hN:Nat.blt d cf.N=true) (hcall:∀ args w,(callFunc f args).run cf.P w=.ok (.enter f args) w) (hlt:LtAll ys) (hC:PlainS cf.P f ys σ Φ)
    (k:∀ v,Φ v->∃ y:SV,y.lt 0/\y.den β0=v/\GJ cf ops U (bef++[j]) n (listed.setIfInBounds j true) false Q σ ((d,y)::env) hp A nh):GK cf ops U bef n listed j Q σ env hp A nh:=by
  refine gk_call (Φ:=fun v σ'=>Φ v/\σ'=σ) hj hc hd hg hN hcall hlt ?_ fun v σ' _ ⟨hv,he⟩=>by subst he;exact k v hv
  intro w hs
  exact Calls.mono (hC w hs) fun e w' ⟨v,σ',he,h1,h2,h3,h4⟩=>⟨v,σ,he,h1,⟨Snap.le_refl σ,fun b hb=>.inl hb⟩,fun b o hb=>h3 b o (h2.le b o hb),h4,rfl⟩
theorem gk_new {j d:Nat} {o:Oper} {T:List (Nat×TI)} (hT:TTok cf.P T) {e:TypeId} {cs:List AT} {x:AT} (hj:ops[j]?=some o) (h:stepOp T o.op env hp nh=some (.new e cs x)) (hd:o.dst=some d) (hg:guardVal (slotOf ops o) env=some true)
    (hN:Nat.blt d cf.N=true) (k:GJ cf ops U (bef++[j]) n (listed.setIfInBounds j true) false Q σ ((d,.a x)::env) ((nh,.loc e,cs)::hp) A (nh+1)):GK cf ops U bef n listed j Q σ env hp A nh:=by
  refine ⟨fun hs hb a β ha hex hcl hr E0 hE=>?_⟩
  have hN':d<cf.N:=by simpa [Nat.blt_eq] using hN
  have hwant:Region.wanted o (yielded ops a.tmps)=true:=by rw [<-wantedS_slotOf];exact guardVal_ok ha hg
  obtain ⟨hcs,hx,hrun⟩:=step_ok (o:=o) hT ha hb h
  have hxl:(SV.a x).lt (nh+1):=by
    rcases hx with rfl | ⟨n,rfl⟩<;>exact Nat.lt_succ_self nh
  unfold stepC
  simp only [hj]
  rw [if_pos hwant]
  intro w hw
  unfold Oper.wq
  rw [hrun w]
  have hw':=hw.alloc (e:=e) hb hcs
  have hβ:=upd_old β nh w
  have hg2:∀ {i k l},hp.get i=some (k,l)->HP.get ((nh,HK.loc e,cs)::hp) i=some (k,l):=by
    intro i k l hi
    have hlt:=(hb.hp i k l hi).1
    rw [HP.get_cons,if_neg (by omega)]
    exact hi
  have keepS:∀ w',StW cf σ ((nh,.loc e,cs)::hp) A (upd β nh w) w'->StW cf σ hp A β w':=by
    intro w' s
    refine ⟨s.os,s.tape,s.output,s.size,s.fr,s.sealed,s.le,s.grow,fun i e' l hi=>?_,fun i l hi j c hc=>?_,fun i j e1 e2 l1 l2 hi hj heq=>?_,s.arr,s.arrd,fun i j E e' l hE hj=>?_⟩
    · obtain ⟨hlt,hl⟩:=hb.hp i _ l hi
      have:=s.loc i e' l (hg2 hi)
      rw [hβ i hlt,AT.denL_congr hβ hl] at this
      exact this
    · obtain ⟨hlt,hl⟩:=hb.hp i _ l hi
      have:=s.ro i l (hg2 hi) j c hc
      rw [hβ i hlt,AT.den_congr hβ (hl c (List.mem_of_getElem? hc))] at this
      exact this
    · have h1:=(hb.hp i _ l1 hi).1
      have h2:=(hb.hp j _ l2 hj).1
      exact s.inj i j e1 e2 l1 l2 (hg2 hi) (hg2 hj) (by rw [hβ i h1,hβ j h2];exact heq)
    · have h1:=(hb.hp j _ l hj).1
      have:=s.arrh i j E e' l hE (hg2 hj)
      rw [hβ j h1] at this
      exact this
  refine ⟨E0,_,hw',fun x hx=>hE x (keepS x hx),.inl fun _ h=>h,?_⟩
  rw [hd]
  exact k.run hs ((hb.mono (Nat.le_succ nh)).row (Nat.lt_succ_self nh) (fun c hc=>AT.lt_mono (Nat.le_succ nh) (hcs c hc)) |>.put hxl d) _ (upd β nh w) ((ha.congr hb hβ).put hN' (.a x)) ⟨_,hw'⟩ (hcl.set hr) E0 (fun x hx=>hE x (keepS x hx)) (fun h=>by cases h)
theorem gj_order (l:List (Nat×Tag)) (hl:(l.all fun p=>decide (p.1<ops.size))=true) (hq:noQuiet (itemsOf ops l)=true) (ho:orderFrom ops U bef l listed=true) (h:OJ cf (itemsOf ops l) Q σ env hp A nh) :
    GJ cf ops U bef l.length listed fst Q σ env hp A nh:=by
  refine ⟨fun hs hb a β ha hex hc E0 hE _=>?_⟩
  have:=run_wider hE _ _ a hq (h.run hb a β ha hex)
  exact run_order hs l bef listed a E0 _ hc hE (fun p hp=>by simpa using List.all_eq_true.1 hl p hp) ho this
theorem gj_slice {i d:Nat} {o:Oper} {x:Operand} {lo hi':Option Operand} {vl vh:Option Value} {t e:TypeId} {T:List (Nat×TI)} (hT:TTok cf.P T) {ti te:TI} {ao:Option Addr} {m cap:Nat} (l h:Nat) (hop:o.op=.slice t x lo hi' none) (hi:ops[i]?=some o) (hr:(Region.ready .any ops listed).contains i=true) (hf:Region.free .any ops listed i=true) (hk:(U.contains i||fst)=true)
    (hd:o.dst=some d) (hg:guardVal (slotOf ops o) env=some true) (hN:Nat.blt d cf.N=true) (hx:evalO env x=some (.a (.v (.slice ao m cap)))) (hlo:optV env lo=some vl) (hhi:optV env hi'=some vh)
    (ht:tget T t=some ti) (hkd:ti.kind=.slice e) (hte:tget T e=some te) (hl':vl=none/\l=0\/∃ k m,vl=some (.int k m)/\m=(l:Int)) (hh':vh=none/\h=m\/∃ k m,vh=some (.int k m)/\m=(h:Int)) (hlh:l<=h) (hhc:h<=cap) (hnc:m<=cap)
    (k:GJ cf ops U (bef++[i]) n (listed.setIfInBounds i true) fst Q σ ((d,.a (.v (.slice (if cap=l then ao else ao.map (·.add (l*te.size))) (h - l) (cap - l))))::env) hp A nh):GJ cf ops U bef (n+1) listed fst Q σ env hp A nh:=by
  refine gj_valT (.a (.v (.slice (if cap=l then ao else ao.map (·.add (l*te.size))) (h - l) (cap - l)))) hi hr hf hk hd hg hN trivial (fun _ a β ha w _=>?_) k
  obtain ⟨i2,d2,z2,hs2⟩:=tiOf_spec (hT _ _ ht)
  obtain ⟨i3,d3,z3,hs3⟩:=tiOf_spec (hT _ _ hte)
  have h1:=hs2.kind
  have hun:cf.P.underlying t=some (.slice e):=by
    rw [hkd] at h1
    have h2:=hs2.und
    cases d2<;>first
      | (simp only [kindD,TK.slice.injEq] at h1;subst h1;exact h2)
      | (simp only [kindD] at h1;cases h1)
  have h2:a.eval x=.slice ao m cap:=evalO_eval ha hx
  simp only [execOp,hop,h2,optV_ok ha hlo,optV_ok ha hhi,Option.map_none,Instr.sliceAt,Instr.slice,Sem.run_bind,run_underlying hun,Result.andThen_ok,run_sliceBounds hl' hh' hlh hhc hnc,run_size hs3.info,hs3.size,Sem.run_pure]
  rfl
end
end Go.Sy
/- What 'slices.Delete' does with a call's own array: a piece moved to the front, the rest cleared. No program in sight. -/
namespace Go.Sy
section
variable {cf:Cf} {Q:Exit->Act->World->Prop} {σ:Snap} {env:Env} {hp:HP} {A:List AE} {nh:Nat} {it:Item} {rest:List Item}
theorem gj_indexAddr {ops:Array Oper} {U bef:List Nat} {n:Nat} {listed:Array Bool} {fst:Bool} {i d:Nat} {o:Oper} {x ix:Operand} {t:TypeId} {T:List (Nat×TI)} (hT:TTok cf.P T) {ti te:TI} {e:Nat} {ad:Addr} {m c:Nat} {k:IntKind} {q:Int} (hop:o.op=.indexAddr t x ix)
    (hi:ops[i]?=some o) (hr:(Region.ready .any ops listed).contains i=true) (hf:Region.free .any ops listed i=true) (hk:(U.contains i||fst)=true) (hd:o.dst=some d) (hg:guardVal (slotOf ops o) env=some true) (hN:Nat.blt d cf.N=true)
    (hx:evalO env x=some (.a (.v (.slice (some ad) m c)))) (hix:evalO env ix=some (.a (.v (.int k q)))) (ht:tget T t=some ti) (hkd:ti.kind=.slice e) (hte:tget T e=some te) (h0:0<=q/\q<m)
    (kk:GJ cf ops U (bef++[i]) n (listed.setIfInBounds i true) fst Q σ ((d,.a (.v (.pointer (some (ad.add (q.toNat*te.size))))))::env) hp A nh):GJ cf ops U bef (n+1) listed fst Q σ env hp A nh:=by
  refine gj_valT (.a (.v (.pointer (some (ad.add (q.toNat*te.size)))))) hi hr hf hk hd hg hN trivial (fun _ a β ha w _=>?_) kk
  obtain ⟨i2,d2,z2,hs2⟩:=tiOf_spec (hT _ _ ht)
  obtain ⟨i3,d3,z3,hs3⟩:=tiOf_spec (hT _ _ hte)
  have h1:=hs2.kind
  have hun:cf.P.underlying t=some (.slice e):=by
    rw [hkd] at h1
    have h2:=hs2.und
    cases d2<;>first
      | (simp only [kindD,TK.slice.injEq] at h1;subst h1;exact h2)
      | (simp only [kindD] at h1;cases h1)
  have h2:a.eval x=.slice (some ad) m c:=evalO_eval ha hx
  have h3:a.eval ix=.int k q:=evalO_eval ha hix
  simp only [execOp,hop,h2,h3,Instr.indexAt,asIntOf,Sem.run_bind,Sem.run_pure,Result.andThen_ok,run_underlying hun,h0,and_self,if_true,run_size hs3.info,hs3.size]
  rfl
theorem gj_row {ops:Array Oper} {U bef:List Nat} {n:Nat} {listed:Array Bool} {fst:Bool} (t:Nat) {ad:Addr} (cs:List AT) (h:env.get t=some (.a (.v (.pointer (some ad))))) (hlt:∀ c∈cs,c.lt 0) (hσ:∀ (j:Nat) c,cs[j]?=some c->σ.cell (ad.add j)=some (c.den β0))
    (k:GJ cf ops U bef n listed fst Q σ ((t,.a (.p nh 0))::env) ((nh,.ro,cs)::hp) A (nh+1)):GJ cf ops U bef n listed fst Q σ env hp A nh:=by
  refine ⟨fun hs hb a β ha hex hc E0 hE hF=>?_⟩
  let β':Nat->Addr:=fun i=>if i=nh then ad else β i
  have hβ:∀ i,i<nh->β' i=β i:=fun i hi=>by simp only [β'];rw [if_neg (by omega)]
  have hnew:β' nh=ad:=by simp only [β',if_true]
  have ha':StA cf ((t,.a (.p nh 0))::env) β' a:=by
    refine ⟨ha.size,ha.defers,fun i z hz=>?_⟩
    rw [Env.get_cons] at hz
    by_cases hi:t=i
    · rw [if_pos hi] at hz
      injection hz with hz
      subst hz;subst hi
      have:=ha.env t _ h
      simp only [SV.den,AT.den] at this
      simp only [SV.den,AT.den,hnew,Addr.add_zero']
      exact this
    · rw [if_neg hi] at hz;rw [SV.den_congr hβ (hb.env i z hz)];exact ha.env i z hz
  have hb':Bd ((t,.a (.p nh 0))::env) ((nh,.ro,cs)::hp) (nh+1) :=
    ((hb.mono (Nat.le_succ nh)).put (x:=.a (.p nh 0)) (Nat.lt_succ_self nh) t).row (Nat.lt_succ_self nh) fun c hc=>AT.lt_mono (Nat.zero_le _) (hlt c hc)
  have hget:∀ {i:Nat} {q:HK} {r:List AT},HP.get ((nh,HK.ro,cs)::hp) i=some (q,r)->(i=nh/\q=.ro/\r=cs)\/(i<nh/\hp.get i=some (q,r)):=by
    intro i q r hi
    rw [HP.get_cons] at hi
    by_cases hin:nh=i
    · rw [if_pos hin] at hi
      injection hi with hi
      simp only [Prod.mk.injEq] at hi
      exact .inl ⟨hin.symm,hi.1.symm,hi.2.symm⟩
    · rw [if_neg hin] at hi
      exact .inr ⟨(hb.hp i _ _ hi).1,hi⟩
  have hget':∀ {i q r},hp.get i=some (q,r)->HP.get ((nh,HK.ro,cs)::hp) i=some (q,r):=by
    intro i q r hi
    rw [HP.get_cons,if_neg (fun hc=>by have:=(hb.hp i q r hi).1;omega)];exact hi
  have hS:(fun w=>StW cf σ hp A β w)=fun w=>StW cf σ ((nh,.ro,cs)::hp) A β' w:=by
    funext w
    apply propext
    constructor
    · intro hw
      refine ⟨hw.os,hw.tape,hw.output,hw.size,hw.fr,hw.sealed,hw.le,hw.grow,fun i e' l hi=>?_,fun i l hi j c hc=>?_,fun i j e1 e2 l1 l2 hi hj hij=>?_,hw.arr,hw.arrd,fun i j E e' l hE hj=>?_⟩
      · rcases hget hi with ⟨_,hk,_⟩ | ⟨hl,hi'⟩
        · cases hk
        · rw [hβ i hl,AT.denL_congr hβ (hb.hp i _ l hi').2];exact hw.loc i e' l hi'
      · rcases hget hi with ⟨rfl,_,rfl⟩ | ⟨hl,hi'⟩
        · rw [hnew,hσ j c hc]
          congr 1
          exact AT.den_congr (n:=0) (fun i hi=>by omega) (hlt c (List.mem_of_getElem? hc))
        · rw [hβ i hl,AT.den_congr hβ ((hb.hp i _ l hi').2 c (List.mem_of_getElem? hc))];exact hw.ro i l hi' j c hc
      · rcases hget hi with ⟨_,hk,_⟩ | ⟨hl,hi'⟩
        · cases hk
        · rcases hget hj with ⟨_,hk,_⟩ | ⟨hl',hj'⟩
          · cases hk
          · rw [hβ i hl,hβ j hl'] at hij;exact hw.inj i j _ _ _ _ hi' hj' hij
      · rcases hget hj with ⟨_,hk,_⟩ | ⟨hl',hj'⟩
        · cases hk
        · rw [hβ j hl'];exact hw.arrh i j E e' l hE hj'
    · intro hw
      refine ⟨hw.os,hw.tape,hw.output,hw.size,hw.fr,hw.sealed,hw.le,hw.grow,fun i e' l hi=>?_,fun i l hi j c hc=>?_,fun i j e1 e2 l1 l2 hi hj hij=>?_,hw.arr,hw.arrd,fun i j E e' l hE hj=>?_⟩
      · have:=hw.loc i e' l (hget' hi)
        rw [hβ i (hb.hp i _ _ hi).1,AT.denL_congr hβ (hb.hp i _ l hi).2] at this;exact this
      · have:=hw.ro i l (hget' hi) j c hc
        rw [hβ i (hb.hp i _ _ hi).1,AT.den_congr hβ ((hb.hp i _ l hi).2 c (List.mem_of_getElem? hc))] at this;exact this
      · refine hw.inj i j _ _ _ _ (hget' hi) (hget' hj) ?_
        rw [hβ i (hb.hp i _ _ hi).1,hβ j (hb.hp j _ _ hj).1];exact hij
      · have:=hw.arrh i j E e' l hE (hget' hj)
        rw [hβ j (hb.hp j _ _ hj).1] at this;exact this
  have hS':∀ w,StW cf σ hp A β w↔StW cf σ ((nh,.ro,cs)::hp) A β' w:=fun w=>by rw [show StW cf σ hp A β w=(fun w=>StW cf σ hp A β w) w from rfl,hS]
  rw [hS]
  exact k.run hs hb' a β' ha' ⟨hex.choose,(hS' _).1 hex.choose_spec⟩ hc E0 (fun x hx=>hE x ((hS' x).2 hx)) (fun hf x hx=>(hS' x).1 (hF hf x hx))
theorem gj_idx {ops:Array Oper} {U bef:List Nat} {n:Nat} {listed:Array Bool} {fst:Bool} {i d:Nat} {o:Oper} {x ix:Operand} {t:TypeId} {T:List (Nat×TI)} (hT:TTok cf.P T) {ti te:TI} {e:Nat} {ao:Option Addr} {m c:Nat} {k:IntKind} {q:Int} {rows:List (List AT)} {r:List AT} (hop:o.op=.indexAddr t x ix)
    (hi:ops[i]?=some o) (hr:(Region.ready .any ops listed).contains i=true) (hf:Region.free .any ops listed i=true) (hk:(U.contains i||fst)=true) (hd:o.dst=some d) (hg:guardVal (slotOf ops o) env=some true) (hN:Nat.blt d cf.N=true)
    (hx:evalO env x=some (.a (.v (.slice ao m c)))) (hix:evalO env ix=some (.a (.v (.int k q)))) (ht:tget T t=some ti) (hkd:ti.kind=.slice e) (hte:tget T e=some te) (H:SlAt σ ao m c te.size rows) (h0:0<=q) (hrow:rows[q.toNat]?=some r)
    (kk:GJ cf ops U (bef++[i]) n (listed.setIfInBounds i true) fst Q σ ((d,.a (.p nh 0))::(d,.a (.v (.pointer (some ((ao.getD ⟨0,0,none⟩).add (q.toNat*te.size))))))::env) ((nh,.ro,r)::hp) A (nh+1)):GJ cf ops U bef (n+1) listed fst Q σ env hp A nh:=by
  have hlt:q.toNat<m:=by rw [<-H.len];exact (List.getElem?_eq_some_iff.1 hrow).1
  rcases H.at_ with h1 | ⟨ad,rfl,h2⟩
  · omega
  · refine gj_indexAddr hT hop hi hr hf hk hd hg hN hx hix ht hkd hte ⟨h0,by omega⟩ ?_
    refine gj_row d r (by rw [Env.get_cons,if_pos rfl]) (H.clo r (List.mem_of_getElem? hrow)).2 (fun j c hc=>?_) kk
    rw [Addr.add_add]
    exact h2 q.toNat r j c hrow hc
end
end Go.Sy
/- Regions whose allocations and calls come in several orders, calls that are handed arrays among them. No program in sight. -/
namespace Go.Sy
section
variable {cf:Cf} {σ σb:Snap} {hp hpb:HP} {A:List AE} {β:Nat->Addr} {w0 x:World}
theorem StW.base (h0:StW cf σb hpb [] β w0) (hle:σb.le σ) (hs:subH hpb hp) (h:StW cf σ hp A β x):StW cf σb hpb [] β x:=by
  refine ⟨h.os,h.tape,h.output,h.size,h.fr,fun b o hb=>h.sealed b o (hle b o hb),h0.le,h0.grow,fun i e cs hi=>?_,h0.ro,fun i j e1 e2 l1 l2 hi hj heq=>h.inj i j e1 e2 l1 l2 (hs _ _ hi) (hs _ _ hj) heq,
    fun i E hi=>(by simp at hi),fun i j E F hi=>(by simp at hi),fun i j E e cs hi=>(by simp at hi)⟩
  obtain ⟨q1,q2,q3,q4⟩:=h.loc i e cs (hs _ _ hi)
  exact ⟨q1,q2,Snap.none_of_le hle q3,q4⟩
theorem StW.reβ {β':Nat->Addr} {nb:Nat} (hb:Bd [] hpb nb) (hβ:∀ i,i<nb->β' i=β i) (h:StW cf σb hpb [] β x):StW cf σb hpb [] β' x:=by
  refine ⟨h.os,h.tape,h.output,h.size,h.fr,h.sealed,h.le,h.grow,fun i e cs hi=>?_,fun i cs hi j c hc=>?_,fun i j e1 e2 l1 l2 hi hj heq=>?_,fun i E hi=>(by simp at hi),fun i j E F hi=>(by simp at hi),fun i j E e cs hi=>(by simp at hi)⟩
  · obtain ⟨hlt,hl⟩:=hb.hp i _ cs hi
    have:=h.loc i e cs hi
    rw [hβ i hlt,AT.denL_congr hβ hl]
    exact this
  · obtain ⟨hlt,hl⟩:=hb.hp i _ cs hi
    have:=h.ro i cs hi j c hc
    rw [hβ i hlt,AT.den_congr hβ (hl c (List.mem_of_getElem? hc))]
    exact this
  · have h1:=(hb.hp i _ l1 hi).1
    have h2:=(hb.hp j _ l2 hj).1
    exact h.inj i j e1 e2 l1 l2 hi hj (by rw [<-hβ i h1,<-hβ j h2];exact heq)
end
structure GB (cf:Cf) (ops:Array Oper) (U bef:List Nat) (σb:Snap) (hpb:HP) (nb n:Nat) (listed:Array Bool) (Q:Exit->Act->World->Prop) (σ:Snap) (env:Env) (hp:HP) (A:List AE) (nh:Nat):Prop where
  run:Region.noSelect ops=true->Bd env hp nh->Bd [] hpb nb->nb<=nh->σb.le σ->subH hpb hp->∀ a β,StA cf env β a->(∃ w,StW cf σ hp A β w)->(∃ w,StW cf σb hpb [] β w)->Closed ops listed ->
    wpAnyC cf.P ops U Q n listed a (fun w=>StW cf σb hpb [] β w) (fun w=>StW cf σ hp A β w)
structure GBK (cf:Cf) (ops:Array Oper) (U bef:List Nat) (σb:Snap) (hpb:HP) (nb n:Nat) (listed:Array Bool) (j:Nat) (Q:Exit->Act->World->Prop) (σ:Snap) (env:Env) (hp:HP) (A:List AE) (nh:Nat):Prop where
  run:Region.noSelect ops=true->Bd env hp nh->Bd [] hpb nb->nb<=nh->σb.le σ->subH hpb hp->∀ a β,StA cf env β a->(∃ w,StW cf σ hp A β w)->(∃ w,StW cf σb hpb [] β w)->Closed ops listed->j∈Region.ready .any ops listed ->
    stepC cf.P ops U Q j (wpAnyC cf.P ops U Q n (listed.setIfInBounds j true)) a (fun w=>StW cf σb hpb [] β w) (fun w=>StW cf σ hp A β w)
section
variable {cf:Cf} {Q:Exit->Act->World->Prop} {σ σb:Snap} {env:Env} {hp hpb:HP} {A:List AE} {nh nb:Nat} {ops:Array Oper} {U bef:List Nat} {n:Nat} {listed:Array Bool}
theorem cj_drawB {id:Nat} (m:Nat) (U:List Nat) (hpb:HP) (hm:cf.P.follows .mixedOrders=true) (hs:Region.noSelect ops=true) (hn:ops.size=m) (hsub:subH hpb hp)
    (h:GB cf ops U [] σ hpb nh m (Array.replicate m false) Q σ env hp A nh) (hd:okRd cf.rd ops=true:=by rfl):CJ cf (.region id ops true) Q σ env hp A nh:=by
  subst hn
  refine ⟨fun hb a β w ha hw=>wpIn_region_any hm ?_⟩
  have hc:Closed ops (Array.replicate ops.size false):=⟨by simp,fun j oj _ hl=>by
    exfalso
    rcases Nat.lt_or_ge j ops.size with h | h
    · simp [h] at hl
    · simp [h] at hl⟩
  have hbb:Bd [] hpb nh:=⟨fun i x h=>(by cases h),fun i k cs hi=>hb.hp i k cs (hsub _ _ hi)⟩
  have hb0:StW cf σ hpb [] β w:=by
    have:=hw.dropA
    exact this.sub hsub
  exact wpAnyIn_of_C (okRd_mem hd) _ _ _ _ _ _ hw.drew (h.run hs hb hbb (Nat.le_refl _) (Snap.le_refl _) hsub a β ha ⟨_,hw⟩ ⟨_,hb0⟩ hc)
theorem gb_val {i d:Nat} {o:Oper} {T:List (Nat×TI)} (hT:TTok cf.P T) {x:SV} (hi:ops[i]?=some o) (hr:(Region.ready .any ops listed).contains i=true) (hf:Region.free .any ops listed i=true)
    (hk:(U.contains i&&isLoad o.op)=false) (hd:o.dst=some d) (hg:guardVal (slotOf ops o) env=some true) (hN:Nat.blt d cf.N=true) (h:stepOp T o.op env hpb nh=some (.val x))
    (k:GB cf ops U (bef++[i]) σb hpb nb n (listed.setIfInBounds i true) Q σ ((d,x)::env) hp A nh):GB cf ops U bef σb hpb nb (n+1) listed Q σ env hp A nh:=by
  refine ⟨fun hs hb hbb hnb hle hsub a β ha hex hex0 hc=>?_⟩
  obtain ⟨w0,hw0⟩:=id hex0
  have hN':d<cf.N:=by simpa [Nat.blt_eq] using hN
  have hb':Bd env hpb nh:=hb.sub (fun i x h=>h) hsub
  have hx:x.lt nh:=(step_ok (o:=o) hT ha hb' h).1
  have hr':i∈Region.ready .any ops listed:=by simpa using hr
  have hw:Region.wanted o (yielded ops a.tmps)=true:=by rw [<-wantedS_slotOf];exact guardVal_ok ha hg
  have hrest:=k.run hs (hb.put hx d) hbb hnb hle hsub _ β (ha.put hN' x) hex hex0 (hc.set hr')
  refine wpAnyC_first hi (Region.noSelect_spec hs) n listed a _ _ hc (fun y hy=>hw0.base hle hsub hy) (Region.free_spec hi hf) hr' ⟨.inl ⟨hw,fun w hE0=>.inl ?_⟩,fun hu=>.inl ⟨hw,fun w _=>.inl ?_⟩⟩ (by rw [hd];exact hrest)
  · exact (step_ok (o:=o) hT ha hb' h).2 w fun _=>⟨σb,[],hE0⟩
  · refine (step_ok (o:=o) hT ha hb' h).2 w fun hl=>?_
    rw [hl,Bool.and_true] at hk
    rw [List.contains_iff_mem.2 hu] at hk
    cases hk
theorem gb_fork (js:List Nat) (hr:(Region.ready .any ops listed == js)=true) (hne:js.isEmpty=false) (k:∀ j,j∈js->GBK cf ops U bef σb hpb nb n listed j Q σ env hp A nh):GB cf ops U bef σb hpb nb (n+1) listed Q σ env hp A nh:=by
  refine ⟨fun hs hb hbb hnb hle hsub a β ha hex hex0 hc=>?_⟩
  have hr':=eq_of_beq hr
  refine ⟨fun h0=>?_,fun j hj=>(k j (by rw [<-hr'];exact hj)).run hs hb hbb hnb hle hsub a β ha hex hex0 hc hj⟩
  rw [hr'] at h0
  subst h0
  cases hne
theorem gb_one {i:Nat} (hr:(Region.ready .any ops listed == [i])=true) (k:GBK cf ops U bef σb hpb nb n listed i Q σ env hp A nh):GB cf ops U bef σb hpb nb (n+1) listed Q σ env hp A nh :=
  gb_fork [i] hr rfl fun j hj=>by rw [List.mem_singleton] at hj;subst hj;exact k
theorem gb_two {i j:Nat} (hr:(Region.ready .any ops listed == [i,j])=true) (ki:GBK cf ops U bef σb hpb nb n listed i Q σ env hp A nh) (kj:GBK cf ops U bef σb hpb nb n listed j Q σ env hp A nh):GB cf ops U bef σb hpb nb (n+1) listed Q σ env hp A nh :=
  gb_fork [i,j] hr rfl fun m hm=>by
    simp only [List.mem_cons,List.not_mem_nil,or_false] at hm
    rcases hm with rfl | rfl
    · exact ki
    · exact kj
theorem gb_new {j d:Nat} {o:Oper} {T:List (Nat×TI)} (hT:TTok cf.P T) {e:TypeId} {cs:List AT} {x:AT} (hj:ops[j]?=some o) (h:stepOp T o.op env hp nh=some (.new e cs x)) (hd:o.dst=some d) (hg:guardVal (slotOf ops o) env=some true)
    (hN:Nat.blt d cf.N=true) (k:GB cf ops U (bef++[j]) σb hpb nb n (listed.setIfInBounds j true) Q σ ((d,.a x)::env) ((nh,.loc e,cs)::hp) A (nh+1)):GBK cf ops U bef σb hpb nb n listed j Q σ env hp A nh:=by
  refine ⟨fun hs hb hbb hnb hle hsub a β ha hex hex0 hcl hr=>?_⟩
  obtain ⟨w0,hw0⟩:=id hex0
  have hN':d<cf.N:=by simpa [Nat.blt_eq] using hN
  have hwant:Region.wanted o (yielded ops a.tmps)=true:=by rw [<-wantedS_slotOf];exact guardVal_ok ha hg
  obtain ⟨hcs,hx,hrun⟩:=step_ok (o:=o) hT ha hb h
  have hxl:(SV.a x).lt (nh+1):=by
    rcases hx with rfl | ⟨n,rfl⟩<;>exact Nat.lt_succ_self nh
  unfold stepC
  simp only [hj]
  rw [if_pos hwant]
  intro w hw
  unfold Oper.wq
  rw [hrun w]
  have hw':=hw.alloc (e:=e) hb hcs
  have hβ:=upd_old β nh w
  have hβb:∀ i,i<nb->upd β nh w i=β i:=fun i hi=>hβ i (by omega)
  have hβb':∀ i,i<nb->β i=upd β nh w i:=fun i hi=>(hβb i hi).symm
  have hsub':subH hpb ((nh,HK.loc e,cs)::hp):=by
    intro i y hy
    have hlt:=(hb.hp i y.1 y.2 (hsub i y hy)).1
    rw [HP.get_cons,if_neg (by omega)]
    exact hsub i y hy
  have hw0':=hw0.reβ hbb hβb
  refine ⟨_,_,hw',fun x hx=>hw0'.base hle hsub' hx,.inl fun _ h=>h.reβ hbb hβb',?_⟩
  rw [hd]
  exact k.run hs ((hb.mono (Nat.le_succ nh)).row (Nat.lt_succ_self nh) (fun c hc=>AT.lt_mono (Nat.le_succ nh) (hcs c hc)) |>.put hxl d) hbb (by omega) hle hsub' _ (upd β nh w) ((ha.congr hb hβ).put hN' (.a x)) ⟨_,hw'⟩ ⟨_,hw0'⟩ (hcl.set hr)
theorem gb_order (l:List (Nat×Tag)) (hl:(l.all fun p=>decide (p.1<ops.size))=true) (hq:noQuiet (itemsOf ops l)=true) (ho:orderFrom ops U bef l listed=true) (h:OJ cf (itemsOf ops l) Q σ env hp A nh) :
    GB cf ops U bef σb hpb nb l.length listed Q σ env hp A nh:=by
  refine ⟨fun hs hb hbb hnb hle hsub a β ha hex hex0 hc=>?_⟩
  obtain ⟨w0,hw0⟩:=hex0
  have:=run_wider (fun x hx=>hw0.base hle hsub hx) _ _ a hq (h.run hb a β ha hex)
  exact run_order hs l bef listed a _ _ hc (fun x hx=>hw0.base hle hsub hx) (fun p hp=>by simpa using List.all_eq_true.1 hl p hp) ho this
theorem wpAnyC_by_world {P:Program}:∀ (n:Nat) (listed:Array Bool) (a:Act) (E S:World->Prop),(∃ w,S w)->(∀ w,S w->∃ S':World->Prop,S' w/\wpAnyC P ops U Q n listed a E S')->wpAnyC P ops U Q n listed a E S
  | 0,listed,a,E,S,⟨w0,h0⟩,h=>by
    obtain ⟨S0,h1,h2⟩:=h w0 h0
    refine ⟨h2.1,fun w hw=>?_⟩
    obtain ⟨S',h3,h4⟩:=h w hw
    exact h4.2 w h3
  | n+1,listed,a,E,S,hex,h=>by
    refine ⟨fun hr w hw=>?_,fun j hj=>?_⟩
    · obtain ⟨S',h3,h4⟩:=h w hw
      exact h4.1 hr w h3
    · unfold stepC
      cases hop:ops[j]? with
      | none =>
        refine wpAnyC_by_world n _ a E S hex fun w hw=>?_
        obtain ⟨S',h3,h4⟩:=h w hw
        have:=h4.2 j hj
        unfold stepC at this
        rw [hop] at this
        exact ⟨S',h3,this⟩
      | some o =>
        dsimp only
        by_cases hwant:Region.wanted o (yielded ops a.tmps)=true
        · rw [if_pos hwant]
          intro w hw
          obtain ⟨S',h3,h4⟩:=h w hw
          have:=h4.2 j hj
          unfold stepC at this
          rw [hop] at this
          dsimp only at this
          rw [if_pos hwant] at this
          exact this w h3
        · rw [if_neg hwant]
          refine wpAnyC_by_world n _ _ E S hex fun w hw=>?_
          obtain ⟨S',h3,h4⟩:=h w hw
          have:=h4.2 j hj
          unfold stepC at this
          rw [hop] at this
          dsimp only at this
          rw [if_neg hwant] at this
          exact ⟨S',h3,this⟩
theorem gb_seal (i:Nat) {E:AE} {A':List AE} (hi:A[i]?=some E) (hA:A.eraseIdx i=A') (h:∀ σ',σ.le σ'->ArrSealed σ' E->GB cf ops U bef σb hpb nb n listed Q σ' env hp A' nh):GB cf ops U bef σb hpb nb n listed Q σ env hp A nh:=by
  refine ⟨fun hs hb hbb hnb hle hsub a β ha hex hex0 hc=>wpAnyC_by_world _ _ _ _ _ hex fun w hw=>?_⟩
  obtain ⟨σ',h1,h2,h3⟩:=hw.sealArr hi
  rw [hA] at h3
  exact ⟨_,h3,(h σ' h1 h2).run hs hb hbb hnb (Snap.le_trans hle h1) hsub a β ha ⟨_,h3⟩ hex0 hc⟩
theorem gb_own (h:Nat) {e:TypeId} {cs:List AT} (n' sz:Nat) (hrow:hp.get h=some (.loc e,cs)) (hcs:∀ c∈cs,c.lt 0) (hlen:cs.length=n'*sz) (hn:n'<=9223372036854775807) (hsb:hpb.get h=none)
    (k:∀ g,GB cf ops U bef σb hpb nb n listed Q σ (concE h g env) (HP.del h hp) (A++[⟨some ⟨g,0,none⟩,n',n',e,sz,cs.map AT.val⟩]) nh):GB cf ops U bef σb hpb nb n listed Q σ env hp A nh:=by
  refine ⟨fun hs hb hbb hnb hle hsub a β ha hex hex0 hc=>?_⟩
  obtain ⟨w,hw⟩:=hex
  obtain ⟨g,hg⟩:∃ g,β h=⟨g,0,none⟩:=by
    obtain ⟨q1,-,-,-⟩:=hw.loc h e cs hrow
    exact ⟨_,q1⟩
  have hsub':subH hpb (HP.del h hp):=by
    intro i y hy
    rw [HP.del_get]
    split
    · rename_i he
      subst he
      rw [hsb] at hy
      cases hy
    · exact hsub i y hy
  have e1:(fun w=>StW cf σ hp A β w)=fun w=>StW cf σ (HP.del h hp) (A++[⟨some ⟨g,0,none⟩,n',n',e,sz,cs.map AT.val⟩]) β w:=by
    funext w
    exact propext (StW.own hrow hcs hg hlen hn)
  have:=(k g).run hs hb.conc hbb hnb hle hsub' a β (ha.conc hg) ⟨w,(StW.own hrow hcs hg hlen hn).1 hw⟩ hex0 hc
  rw [e1]
  exact this
end
end Go.Sy
/- Bytes as a text, and a text's bytes appended. No program in sight. -/
namespace Go.Sy
theorem tk_slice {P:Program} {t e:TypeId} {ti:TI} (h:tiOf P t=some ti) (hk:ti.kind=.slice e):P.underlying t=some (.slice e):=by
  obtain ⟨i1,d1,z1,hs1⟩:=tiOf_spec h
  have h1:=hs1.kind
  rw [hk] at h1
  have h2:=hs1.und
  cases d1<;>first
    | (simp only [kindD,TK.slice.injEq] at h1;subst h1;exact h2)
    | (simp only [kindD] at h1;cases h1)
theorem tk_u8 {P:Program} {t:TypeId} {ti:TI} (h:tiOf P t=some ti) (hk:ti.kind=.int .u8):P.underlying t=some (.int .u8):=by
  obtain ⟨i1,d1,z1,hs1⟩:=tiOf_spec h
  have h1:=hs1.kind
  rw [hk] at h1
  have h2:=hs1.und
  cases d1<;>first
    | (simp only [kindD,TK.int.injEq] at h1;subst h1;exact h2)
    | (simp only [kindD] at h1;cases h1)
theorem tk_str {P:Program} {t:TypeId} {ti:TI} (h:tiOf P t=some ti) (hk:ti.kind=.str):P.underlying t=some .string:=by
  obtain ⟨i1,d1,z1,hs1⟩:=tiOf_spec h
  have h1:=hs1.kind
  rw [hk] at h1
  have h2:=hs1.und
  cases d1<;>first
    | exact h2
    | (simp only [kindD] at h1;cases h1)
def u8Rows (l:List UInt8):List (List AT):=l.map fun u=>[.v (.int .u8 u.toNat)]
def u8Xs (l:List UInt8):List Value:=l.map fun u=>.int .u8 u.toNat
def u8E (ao:Option Addr) (cap:Nat) (l:List UInt8):AE:=⟨ao,l.length,cap,5,1,u8Xs l⟩
theorem byteRows_u8 (s:ByteArray):byteRows s=u8Rows s.data.toList:=rfl
theorem u8Rows_len (l:List UInt8):(u8Rows l).length=l.length:=by simp [u8Rows]
theorem u8Xs_rows (l:List UInt8):u8Xs l=(u8Rows l).flatten.map AT.val:=by
  induction l with
  | nil=>rfl
  | cons u l ih =>
    show _::u8Xs l=_
    rw [ih]
    rfl
theorem u8Xs_append (a b:List UInt8):u8Xs (a++b)=u8Xs a++u8Xs b:=by simp [u8Xs]
theorem u8Rows_all (l:List UInt8):∀ r∈u8Rows l,r.length=1/\(∀ c∈r,c.lt 0)/\r.all AT.one=true:=by
  intro r hr
  obtain ⟨u,_,rfl⟩:=List.mem_map.1 hr
  exact ⟨rfl,fun c hc=>by rw [List.mem_singleton] at hc;subst hc;trivial,rfl⟩
theorem u8Rows_get {l:List UInt8} {i:Nat} {u:UInt8} (h:l[i]?=some u):(u8Rows l)[i]?=some [.v (.int .u8 u.toNat)]:=by unfold u8Rows;rw [List.getElem?_map,h];rfl
theorem u8Xs_get {l:List UInt8} {i:Nat} {u:UInt8} (h:l[i]?=some u):(u8Xs l)[i]?=some (.int .u8 u.toNat):=by unfold u8Xs;rw [List.getElem?_map,h];rfl
theorem u8_sealed {σ:Snap} {ao:Option Addr} {cap:Nat} {l:List UInt8} (hS:ArrSealed σ (u8E ao cap l)) (hc:l.length<=cap):SlAt σ ao l.length cap 1 (u8Rows l) :=
  hS.sl (u8Xs_rows l) (fun r hr=>⟨(u8Rows_all l r hr).1,(u8Rows_all l r hr).2.1⟩) (u8Rows_len l) rfl hc
section
variable {cf:Cf} {Q:Exit->Act->World->Prop} {σ:Snap} {env:Env} {hp:HP} {A:List AE} {nh:Nat} {it:Item} {rest:List Item}
theorem oj_strOf {d n cap:Nat} {x:Operand} {s t e:TypeId} {T:List (Nat×TI)} (hT:TTok cf.P T) {ts ti te:TI} {ao:Option Addr} {l:List UInt8} (hop:it.o.op=.convert s t x) (hd:it.o.dst=some d) (hg:guardVal it.guard env=some true)
    (hN:Nat.blt d cf.N=true) (htag:(match it.tag with | .pure=>false | _=>true)=true) (hx:evalO env x=some (.a (.v (.slice ao n cap)))) (hs:tget T s=some ts) (hks:ts.kind=.slice e) (hte:tget T e=some te) (hke:te.kind=.int .u8) (ht:tget T t=some ti) (hkt:ti.kind=.str)
    (H:SlAt σ ao n cap 1 (u8Rows l)) (k:OJ cf rest Q σ ((d,.a (.v (.string ⟨l.toArray⟩)))::env) hp A nh):OJ cf (it::rest) Q σ env hp A nh:=by
  refine oj_valW (.a (.v (.string ⟨l.toArray⟩))) hd hg hN trivial htag (fun _ a β ha w hw=>?_) k
  have us:=tk_slice (hT _ _ hs) hks
  have ue:=tk_u8 (hT _ _ hte) hke
  have ut:=tk_str (hT _ _ ht) hkt
  have hx':a.eval x=.slice ao n cap:=evalO_eval ha hx
  have hn:l.length=n:=by rw [<-H.len,u8Rows_len]
  have hrun:(convert s t (.slice ao n cap)).run cf.P w=.ok (.string ⟨l.toArray⟩) w:=by
    subst hn
    cases ao with
    | none =>
      have h0:l.length=0:=by
        rcases H.at_ with h | ⟨ad,h,_⟩
        · exact h
        · cases h
      have:l=[]:=List.eq_nil_of_length_eq_zero h0
      subst this
      exact Lib.run_convert_nil_bytes w s t e cap us ue ut
    | some ad =>
      refine run_convert_bytes_back w s t e ad cap l us ue ut fun j hj=>?_
      rcases H.at_ with h | ⟨ad',h,h2⟩
      · omega
      · injection h with h
        subst h
        have h3:=Snap.cell_sealed hw (h2 j _ 0 _ (u8Rows_get (List.getElem?_eq_getElem hj)) rfl)
        rw [Nat.mul_one,Nat.add_zero] at h3
        exact h3
  simp only [execOp,hop,hx',hrun,Sem.run_bind,Result.andThen_ok,Sem.run_pure]
  rfl
theorem oj_strOfA (i:Nat) {d n cap:Nat} {x:Operand} {s t e:TypeId} {T:List (Nat×TI)} (hT:TTok cf.P T) {ts ti te:TI} {ao:Option Addr} {l:List UInt8} (hop:it.o.op=.convert s t x) (hd:it.o.dst=some d) (hg:guardVal it.guard env=some true)
    (hN:Nat.blt d cf.N=true) (htag:(match it.tag with | .pure=>false | _=>true)=true) (hx:evalO env x=some (.a (.v (.slice ao n cap)))) (hs:tget T s=some ts) (hks:ts.kind=.slice e) (hte:tget T e=some te) (hke:te.kind=.int .u8) (ht:tget T t=some ti) (hkt:ti.kind=.str)
    (hi:A[i]?=some (u8E ao cap l)) (hn:l.length=n) (k:OJ cf rest Q σ ((d,.a (.v (.string ⟨l.toArray⟩)))::env) hp A nh):OJ cf (it::rest) Q σ env hp A nh:=by
  refine oj_valW (.a (.v (.string ⟨l.toArray⟩))) hd hg hN trivial htag (fun _ a β ha w hw=>?_) k
  have us:=tk_slice (hT _ _ hs) hks
  have ue:=tk_u8 (hT _ _ hte) hke
  have ut:=tk_str (hT _ _ ht) hkt
  have hx':a.eval x=.slice ao n cap:=evalO_eval ha hx
  have hE:=hw.arr i _ hi
  have hrun:(convert s t (.slice ao n cap)).run cf.P w=.ok (.string ⟨l.toArray⟩) w:=by
    subst hn
    rcases hE.2 with ⟨e1,e2,e3⟩ | ⟨g,cur,hg,_⟩
    · have e1:ao=none:=e1
      have e2:l.length=0:=e2
      have:l=[]:=List.eq_nil_of_length_eq_zero e2
      subst this e1
      exact Lib.run_convert_nil_bytes w s t e cap us ue ut
    · have hg:ao=some ⟨g,0,none⟩:=hg
      subst hg
      refine run_convert_bytes_back w s t e _ cap l us ue ut fun j hj=>?_
      rw [Addr.add_lit,Nat.zero_add]
      exact hE.cell rfl (u8Xs_get (List.getElem?_eq_getElem hj))
  simp only [execOp,hop,hx',hrun,Sem.run_bind,Result.andThen_ok,Sem.run_pure]
  rfl
theorem oj_append_str {d:Nat} {s x:Operand} {t u e:Nat} {T:List (Nat×TI)} (hT:TTok cf.P T) {ti tu te:TI} (i:Nat) {E:AE} {ao:Option Addr} {n cap:Nat} {y:ByteArray}
    (hop:appendOf it.o.op=some (s,x,t,u)) (hd:it.o.dst=some d) (hg:guardVal it.guard env=some true) (hN:Nat.blt d cf.N=true) (htg:canSink it.tag=true)
    (hs:evalO env s=some (.a (.v (.slice ao n cap)))) (hx:evalO env x=some (.a (.v (.string y)))) (hA:A[i]?=some E) (hE:(E.ao,E.n,E.cap,E.e)=(ao,n,cap,e))
    (ht:tget T t=some ti) (hkt:ti.kind=.slice e) (hu:tget T u=some tu) (hku:slOrStr tu.kind=true) (hte:tget T e=some te) (hsz:E.sz=te.size) (hs1:te.size=1) (hzl:te.zero.length=te.size)
    (hmax:n+y.size<=9223372036854775807) (hby:(n+y.size)*te.bytes<=140737488355328)
    (hk:∀ ao' cap',n+y.size<=cap'->OJ cf rest Q σ ((d,.a (.v (.slice ao' (n+y.size) cap')))::env) hp (A.set i ⟨ao',n+y.size,cap',E.e,E.sz,E.xs++u8Xs y.data.toList⟩) nh):OJ cf (it::rest) Q σ env hp A nh:=by
  simp only [Prod.mk.injEq] at hE
  obtain ⟨rfl,rfl,rfl,rfl⟩:=hE
  refine oj_step hd hg hN htg fun hb a β ha w hw=>?_
  have hut:=tk_slice (hT _ _ ht) hkt
  obtain ⟨i2,d2,z2,hs2⟩:=tiOf_spec (hT _ _ hu)
  obtain ⟨i3,d3,z3,hs3⟩:=tiOf_spec (hT _ _ hte)
  have hz3:z3.cells.size=E.sz:=by
    have:=zero_den hs3 β
    rw [<-this,hsz]
    simp [hzl]
  have hxe:a.eval x=.string y:=evalO_eval ha hx
  have hse:a.eval s=.slice E.ao E.n E.cap:=evalO_eval ha hs
  have hnl:(u8Xs y.data.toList).length=y.size*E.sz:=by
    rw [hsz,hs1,Nat.mul_one]
    simp only [u8Xs,List.length_map,Array.length_toList]
    rfl
  obtain ⟨ao',cap',w',hrun,hw',hc'⟩:=hw.append hA (t:=t) (u:=u) (ty:=it.o.type) (x:=.string y) (m:=y.size) (news:=u8Xs y.data.toList) hut hs2.und (slOrStr_ok (by rw [hs2.kind];exact hku)) hs3.info hs3.zero
    (by rw [hs3.size,hsz]) hz3 (fun _=>rfl) (fun w'' _=>by
      have e1:(y.extract 0 y.size)=y:=ByteArray.extract_zero_size
      simp only [Builtin.firstCells,Sem.run_pure,e1]
      congr 1
      apply Array.ext'
      simp [u8Xs]) hnl
    (fun v hv=>by obtain ⟨c,_,rfl⟩:=List.mem_map.1 hv;rfl) (by simp only [maxLen];exact hmax) (by rw [hs3.bytes];exact hby)
  refine ⟨.a (.v (.slice ao' (E.n+y.size) cap')),σ,hp,_,nh,w',β,?_,ha,hb.put (x:=.a (.v (.slice ao' (E.n+y.size) cap'))) trivial d,hw',hk ao' cap' hc'⟩
  exact appendOf_run hop (by rw [hse,hxe];exact hrun)
end
theorem run_compl8 (c:UInt8) (w:World) (P:Program):(Op.unary .xor (.int .u8 (c.toNat:Int))).run P w=.ok (.int .u8 ((255 - c).toNat:Int)) w:=by
  have h:∀ n:Fin 256,IntKind.u8.wrap ((BitVec.ofInt 8 255 ^^^ BitVec.ofInt 8 (n.val:Int)).toNat:Int)=((255 - UInt8.ofNat n.val).toNat:Int):=by decide +kernel
  have h2:=h ⟨c.toNat,c.toNat_lt⟩
  have e:UInt8.ofNat c.toNat=c:=by simp
  rw [e] at h2
  show (Op.intBits .xor .u8 255 (c.toNat:Int)).run P w=_
  have h3:(Op.intBits .xor .u8 255 (c.toNat:Int)).run P w=.ok (.int .u8 (IntKind.u8.wrap ((BitVec.ofInt 8 255 ^^^ BitVec.ofInt 8 (c.toNat:Int)).toNat:Int))) w:=rfl
  rw [h3,h2]
section
variable {cf:Cf} {Q:Exit->Act->World->Prop} {σ:Snap} {env:Env} {hp:HP} {A:List AE} {nh:Nat} {it:Item} {rest:List Item}
theorem oj_compl8 {d:Nat} {x:Operand} {t:TypeId} {c:UInt8} (hop:it.o.op=.unOp .xor t x) (hd:it.o.dst=some d) (hg:guardVal it.guard env=some true) (hN:Nat.blt d cf.N=true)
    (hx:evalO env x=some (.a (.v (.int .u8 (c.toNat:Int))))) (hk:OJ cf rest Q σ ((d,.a (.v (.int .u8 ((255 - c).toNat:Int))))::env) hp A nh):OJ cf (it::rest) Q σ env hp A nh:=by
  refine oj_val (.a (.v (.int .u8 ((255 - c).toNat:Int)))) hd hg hN trivial (fun _ a β ha w=>?_) hk
  have h1:a.eval x=.int .u8 (c.toNat:Int):=evalO_eval ha hx
  simp only [execOp,hop,h1,run_compl8,Sem.run_bind,Sem.run_pure,Result.andThen_ok]
  rfl
def maxOf:Op->Option (Operand×Operand)
  | .call c =>
    match c.callee,c.args.toList with
    | .builtin .max,[s,x]=>some (s,x)
    | _,_=>none
  | _=>none
theorem maxOf_run {o:Oper} {s x:Operand} (h:maxOf o.op=some (s,x)) {P:Program} {a:Act} {w w':World} {v:Value}
    (hr:∀ ts ty,(Builtin.max_ ts ty #[a.eval s,a.eval x]).run P w=.ok v w'):(execOp a.eval o).run P w=.ok (.value v) w':=by
  unfold maxOf at h
  split at h
  · rename_i c hop
    split at h
    · rename_i s' x' hcal hargs
      injection h with h
      simp only [Prod.mk.injEq] at h
      obtain ⟨rfl,rfl⟩:=h
      have e1:c.args=#[s',x']:=by
        cases hq:c.args with
        | mk l=>rw [hq] at hargs;simp only at hargs;rw [hargs]
      simp only [execOp,hop,resolve,hcal,e1,invoke,builtin,Sem.run_bind,Sem.run_pure,Result.andThen_ok,List.map_toArray,List.map_cons,List.map_nil,hr]
    · cases h
  · cases h
theorem oj_max {d:Nat} {x y:Operand} {k:IntKind} {m n:Int} (hop:maxOf it.o.op=some (x,y)) (hd:it.o.dst=some d) (hg:guardVal it.guard env=some true) (hN:Nat.blt d cf.N=true)
    (hx:evalO env x=some (.a (.v (.int k m)))) (hy:evalO env y=some (.a (.v (.int k n)))) (hk:OJ cf rest Q σ ((d,.a (.v (.int k (max m n))))::env) hp A nh):OJ cf (it::rest) Q σ env hp A nh:=by
  refine oj_val (.a (.v (.int k (max m n)))) hd hg hN trivial (fun _ a β ha w=>?_) hk
  have h1:a.eval x=.int k m:=evalO_eval ha hx
  have h2:a.eval y=.int k n:=evalO_eval ha hy
  refine maxOf_run hop fun ts ty=>?_
  rw [h1,h2]
  simp only [Builtin.max_,List.foldlM,Builtin.max2,Sem.run_bind,Sem.run_pure,Result.andThen_ok]
  have e:(if n > m then n else m)=max m n:=by split<;>omega
  rw [e]
  rfl
end
section
variable {cf:Cf} {Q:Exit->Act->World->Prop} {σ σb:Snap} {env:Env} {hp hpb:HP} {A:List AE} {nh nb cnt:Nat} {ops:Array Oper} {U bef:List Nat} {listed:Array Bool}
theorem gb_step {j d:Nat} {o:Oper} (hj:ops[j]?=some o) (hd:o.dst=some d) (hg:guardVal (slotOf ops o) env=some true) (hN:Nat.blt d cf.N=true)
    (h:Bd env hp nh->∀ a β,StA cf env β a->∀ w,StW cf σ hp A β w->∃ (y:SV) (A':List AE) (w':World),(execOp a.eval o).run cf.P w=.ok (.value (y.den β)) w'/\y.lt 0/\StW cf σ hp A' β w'/\GB cf ops U (bef++[j]) σb hpb nb cnt (listed.setIfInBounds j true) Q σ ((d,y)::env) hp A' nh) :
    GBK cf ops U bef σb hpb nb cnt listed j Q σ env hp A nh:=by
  refine ⟨fun hs hb hbb hnb hle hsub a β ha hex hex0 hcl hr=>?_⟩
  obtain ⟨w0,hw0⟩:=id hex0
  have hN':d<cf.N:=by simpa [Nat.blt_eq] using hN
  have hwant:Region.wanted o (yielded ops a.tmps)=true:=by rw [<-wantedS_slotOf];exact guardVal_ok ha hg
  unfold stepC
  simp only [hj]
  rw [if_pos hwant]
  intro w hw
  obtain ⟨y,A',w',hrun,hy,hw',hk⟩:=h hb a β ha w hw
  unfold Oper.wq
  rw [hrun]
  refine ⟨_,_,hw',fun x hx=>hw0.base hle hsub hx,.inl fun _ h=>h,?_⟩
  rw [hd]
  exact hk.run hs (hb.put (SV.lt_mono (Nat.zero_le _) hy) d) hbb hnb hle hsub (a.put (some d) (y.den β)) β (ha.put hN' y) ⟨_,hw'⟩ ⟨w0,hw0⟩ (hcl.set hr)
theorem gb_append_lit {q d:Nat} {o:Oper} {s x:Operand} {t u e:Nat} {T:List (Nat×TI)} (hT:TTok cf.P T) {ti tu te:TI} (i:Nat) {E:AE} {ao:Option Addr} {n cap j m:Nat} {k:HK} {cs:List AT}
    (hj:ops[q]?=some o) (hop:appendOf o.op=some (s,x,t,u)) (hd:o.dst=some d) (hg:guardVal (slotOf ops o) env=some true) (hN:Nat.blt d cf.N=true)
    (hs:evalO env s=some (.a (.v (.slice ao n cap)))) (hx:evalO env x=some (.a (.sl j m))) (hrow:hp.get j=some (k,cs)) (hA:A[i]?=some E) (hE:(E.ao,E.n,E.cap,E.e)=(ao,n,cap,e))
    (ht:tget T t=some ti) (hkt:ti.kind=.slice e) (hu:tget T u=some tu) (hku:slOrStr tu.kind=true) (hte:tget T e=some te) (hsz:E.sz=te.size) (hzl:te.zero.length=te.size) (hcs:cs.length=m*te.size)
    (hclo:∀ c∈cs,c.lt 0) (hone:cs.all AT.one=true) (hmax:n+m<=9223372036854775807) (hby:(n+m)*te.bytes<=140737488355328)
    (hk:∀ ao' cap',n+m<=cap'->GB cf ops U (bef++[q]) σb hpb nb cnt (listed.setIfInBounds q true) Q σ ((d,.a (.v (.slice ao' (n+m) cap')))::env) hp (A.set i ⟨ao',n+m,cap',E.e,E.sz,E.xs++cs.map AT.val⟩) nh):GBK cf ops U bef σb hpb nb cnt listed q Q σ env hp A nh:=by
  simp only [Prod.mk.injEq] at hE
  obtain ⟨rfl,rfl,rfl,rfl⟩:=hE
  refine gb_step hj hd hg hN fun hb a β ha w hw=>?_
  obtain ⟨i1,d1,z1,hs1⟩:=tiOf_spec (hT _ _ ht)
  obtain ⟨i2,d2,z2,hs2⟩:=tiOf_spec (hT _ _ hu)
  obtain ⟨i3,d3,z3,hs3⟩:=tiOf_spec (hT _ _ hte)
  have hut:cf.P.underlying t=some (.slice E.e):=by
    have h1:=hs1.kind
    rw [hkt] at h1
    have h2:=hs1.und
    cases d1<;>first
      | (simp only [kindD,TK.slice.injEq] at h1;subst h1;exact h2)
      | (simp only [kindD] at h1;cases h1)
  have hz3:z3.cells.size=E.sz:=by
    have:=zero_den hs3 β
    rw [<-this,hsz]
    simp [hzl]
  have hcells:∀ j' v,(cs.map AT.val)[j']?=some v->w.cell? ((β j).add j')=some v:=by
    intro j' v hv
    rw [List.getElem?_map] at hv
    obtain ⟨c,hc,rfl⟩:=map_some hv
    rw [<-AT.den_val (hclo c (List.mem_of_getElem? hc)) β]
    exact hw.cell hrow hc
  have hnl:(cs.map AT.val).length=m*E.sz:=by rw [List.length_map,hcs,hsz]
  have hxe:a.eval x=.slice (some (β j)) m m:=evalO_eval ha hx
  have hse:a.eval s=.slice E.ao E.n E.cap:=evalO_eval ha hs
  obtain ⟨ao',cap',w',hrun,hw',hc'⟩:=hw.append hA (t:=t) (u:=u) (ty:=o.type) (x:=.slice (some (β j)) m m) (m:=m) (news:=cs.map AT.val) hut hs2.und (slOrStr_ok (by rw [hs2.kind];exact hku)) hs3.info hs3.zero
    (by rw [hs3.size,hsz]) hz3 (fun _=>rfl) (fun w'' hh=>run_firstCells_some (P:=cf.P) w'' E.sz m (β j) m m _ hnl fun j' v hv=>by
      have:=hcells j' v hv
      rw [World.cell?,hh];exact this) hnl
    (fun v hv=>by obtain ⟨c,hc,rfl⟩:=List.mem_map.1 hv;exact AT.one_den β0 (List.all_eq_true.1 hone c hc)) (by simp only [maxLen];exact hmax) (by rw [hs3.bytes];exact hby)
  refine ⟨.a (.v (.slice ao' (E.n+m) cap')),_,w',?_,trivial,hw',hk ao' cap' hc'⟩
  exact appendOf_run hop (by rw [hse,hxe];exact hrun)
end
end Go.Sy
namespace Go.Sy
open Go.Proofs
def paCells (p:GPart):List AT:=[.v (.int .i64 p.kd),.b p.b,.b p.n.neg,.v (.string p.n.dg),.v (.int .i64 p.n.ex),.v (.string p.s),.v (.int .i64 p.i)]
theorem paCells_lt (n:Nat) (p:GPart):∀ c∈paCells p,c.lt n:=by simp [paCells,AT.lt]
def paRows (l:List GPart):List (List AT):=l.map paCells
theorem paRows_get {l:List GPart} {i:Nat} {x:GPart} (h:l[i]?=some x):(paRows l)[i]?=some (paCells x):=by unfold paRows;rw [List.getElem?_map,h];rfl
theorem paRows_all (l:List GPart):∀ r∈paRows l,r.length=7/\(∀ c∈r,c.lt 0)/\r.all AT.one=true:=by
  intro r hr
  obtain ⟨x,_,rfl⟩:=List.mem_map.1 hr
  exact ⟨rfl,paCells_lt 0 x,rfl⟩
def paXs (l:List GPart):List Value:=(paRows l).flatten.map AT.val
theorem paXs_append (a b:List GPart):paXs (a++b)=paXs a++paXs b:=by simp [paXs,paRows]
def paVals (p:GPart):Array Value:=#[.int .i64 p.kd,.bool p.b,.bool p.n.neg,.string p.n.dg,.int .i64 p.n.ex,.string p.s,.int .i64 p.i]
theorem run_partB {P:Program} {w:World} {t:TypeId} {xs:Array Value} {o n:Nat} {d:TypeDesc} (hu:P.underlying t=some d) (hd:aggD d=true) (hn:P.cellsOf t=n):(part t xs o).run P w=.ok (.agg (xs.extract o (o+n))) w:=by
  simp only [part,Sem.run_bind,run_isAgg hu,hd,Result.andThen_ok,if_true,run_sizeB hn hu,Sem.run_pure]
structure PartT (t:Nat):Prop where
  und:Tryd.prog.underlying t=some (.struct (Tryd.prog.fieldsOf t))
  held:Tryd.prog.stoodInHeld t=false
  grd:Tryd.prog.eqGuardType Tryd.prog.depth t=false
  fs:fieldsAre (Tryd.prog.fieldsOf t).toList [(3,0),(4,1),(40,2),(9,5),(3,6)]=true
theorem und23c:Tryd.prog.cellsOf 40=3:=by kernel_rfl
theorem eqPart_ok {t:Nat} (ht:PartT t) (m:Nat) (a b:GPart) (w:World):(Op.equalIn (m+1+1+1) t (.agg (paVals a)) (.agg (paVals b))).run Tryd.prog w=.ok (decide (a=b)) w:=by
  rw [run_equalIn_agg w (m+1+1) t _ _ ht.und ht.held]
  have h:=ht.fs
  generalize (Tryd.prog.fieldsOf t).toList=fl at h
  obtain ⟨f0,fl,rfl,n0,t0,o0,h⟩:=fieldsAre_cons h
  obtain ⟨f1,fl,rfl,n1,t1,o1,h⟩:=fieldsAre_cons h
  obtain ⟨f2,fl,rfl,n2,t2,o2,h⟩:=fieldsAre_cons h
  obtain ⟨f3,fl,rfl,n3,t3,o3,h⟩:=fieldsAre_cons h
  obtain ⟨f4,fl,rfl,n4,t4,o4,h⟩:=fieldsAre_cons h
  cases fl with
  | cons _ _=>cases h
  | nil =>
    have ii:∀ (f:Field) (o:Nat) (r:GPart) (x:Int),f.type=3->f.offset=o->(paVals r)[o]?=some (.int .i64 x)->(part f.type (paVals r) f.offset).run Tryd.prog w=.ok (.int .i64 x) w:=fun f o r x ht ho hx=>run_part1 (by rw [ht];exact und3) rfl (by rw [ho];exact hx)
    have bb:∀ (f:Field) (o:Nat) (r:GPart) (x:Bool),f.type=4->f.offset=o->(paVals r)[o]?=some (.bool x)->(part f.type (paVals r) f.offset).run Tryd.prog w=.ok (.bool x) w:=fun f o r x ht ho hx=>run_part1 (by rw [ht];exact und4) rfl (by rw [ho];exact hx)
    have ss:∀ (f:Field) (o:Nat) (r:GPart) (x:ByteArray),f.type=9->f.offset=o->(paVals r)[o]?=some (.string x)->(part f.type (paVals r) f.offset).run Tryd.prog w=.ok (.string x) w:=fun f o r x ht ho hx=>run_part1 (by rw [ht];exact und9) rfl (by rw [ho];exact hx)
    have dd:∀ (r:GPart),(part f2.type (paVals r) f2.offset).run Tryd.prog w=.ok (.agg #[.bool r.n.neg,.string r.n.dg,.int .i64 r.n.ex]) w:=fun r=>by
      rw [run_partB (n:=3) (by rw [t2];exact und23) rfl (by rw [t2];exact und23c),o2]
      rfl
    rw [eqFields_cons (r:=a.kd == b.kd) n0 (ii f0 0 a _ t0 o0 rfl) (ii f0 0 b _ t0 o0 rfl) (run_equalIn_int w (m+1) f0.type .i64 .i64 a.kd b.kd (by rw [t0];exact und3))]
    rw [eqFields_cons (r:=a.b == b.b) n1 (bb f1 1 a _ t1 o1 rfl) (bb f1 1 b _ t1 o1 rfl) (run_equalIn_bool' w (m+1) f1.type a.b b.b (by rw [t1];exact und4))]
    rw [eqFields_cons (r:=decide (a.n=b.n)) n2 (dd a) (dd b) (by rw [t2];exact eqDec_ok m a.n b.n w)]
    rw [eqFields_cons (r:=decide (a.s=b.s)) n3 (ss f3 5 a _ t3 o3 rfl) (ss f3 5 b _ t3 o3 rfl) (run_eqStr (m+1) f3.type a.s b.s (by rw [t3];exact und9))]
    rw [eqFields_cons (r:=a.i == b.i) n4 (ii f4 6 a _ t4 o4 rfl) (ii f4 6 b _ t4 o4 rfl) (run_equalIn_int w (m+1) f4.type .i64 .i64 a.i b.i (by rw [t4];exact und3))]
    simp only [Op.eqFields,Sem.run_pure]
    have:(decide (a=b))=(a.kd == b.kd&&(a.b == b.b&&(decide (a.n=b.n)&&(decide (a.s=b.s)&&a.i == b.i)))):=by
      rw [Bool.eq_iff_iff]
      cases a;cases b
      simp
    rw [this]
    cases (a.kd == b.kd)<;>cases (a.b == b.b)<;>cases decide (a.n=b.n)<;>cases decide (a.s=b.s)<;>cases (a.i == b.i)<;>rfl
section
variable {cf:Cf} {Q:Exit->Act->World->Prop} {σ:Snap} {env:Env} {hp:HP} {A:List AE} {nh:Nat} {it:Item} {rest:List Item}
theorem oj_eqPart {t:Nat} (ht:PartT t) {d:Nat} {x y:Operand} {yt:TypeId} {ca cb:List AT} (a b:GPart) (hP:cf.P=Tryd.prog)
    (hop:it.o.op=.binOp .eql t x y yt) (hd:it.o.dst=some d) (hg:guardVal it.guard env=some true) (hN:Nat.blt d cf.N=true) (hx:evalO env x=some (.agg ca)) (hy:evalO env y=some (.agg cb))
    (hca:∀ β,ca.map (AT.den β)=(paCells a).map (AT.den β)) (hcb:∀ β,cb.map (AT.den β)=(paCells b).map (AT.den β))
    (hk:OJ cf rest Q σ ((d,.a (.b (decide (a=b))))::env) hp A nh):OJ cf (it::rest) Q σ env hp A nh:=by
  refine oj_val (.a (.b (decide (a=b)))) hd hg hN trivial (fun _ ac β ha w=>?_) hk
  have h1:ac.eval x=.agg (paVals a):=(evalO_eval ha hx).trans (by simp only [SV.den,hca];rfl)
  have h2:ac.eval y=.agg (paVals b):=(evalO_eval ha hy).trans (by simp only [SV.den,hcb];rfl)
  rw [hP]
  have hG:(eqGuard .eql t x y (.agg (paVals a)) (.agg (paVals b))).run Tryd.prog w=.ok () w:=run_eqGuard_agg w _ _ _ _ _ _ ht.grd
  have hE:(Op.equalIn 10000 t (.agg (paVals a)) (.agg (paVals b))).run Tryd.prog w=.ok (decide (a=b)) w:=eqPart_ok ht 9997 a b w
  have hB:(binOp .eql t (.agg (paVals a)) (.agg (paVals b))).run Tryd.prog w=.ok (.bool (decide (a=b))) w:=by
    rw [run_eql_struct,hE]
    rfl
  simp only [execOp,hop,h1,h2,Sem.run_bind,hG,hB,Result.andThen_ok,Sem.run_pure]
  rfl
theorem oj_nePart {t:Nat} (ht:PartT t) {d:Nat} {x y:Operand} {yt:TypeId} {ca cb:List AT} (a b:GPart) (hP:cf.P=Tryd.prog)
    (hop:it.o.op=.binOp .neq t x y yt) (hd:it.o.dst=some d) (hg:guardVal it.guard env=some true) (hN:Nat.blt d cf.N=true) (hx:evalO env x=some (.agg ca)) (hy:evalO env y=some (.agg cb))
    (hca:∀ β,ca.map (AT.den β)=(paCells a).map (AT.den β)) (hcb:∀ β,cb.map (AT.den β)=(paCells b).map (AT.den β))
    (hk:OJ cf rest Q σ ((d,.a (.b (!decide (a=b))))::env) hp A nh):OJ cf (it::rest) Q σ env hp A nh:=by
  refine oj_val (.a (.b (!decide (a=b)))) hd hg hN trivial (fun _ ac β ha w=>?_) hk
  have h1:ac.eval x=.agg (paVals a):=(evalO_eval ha hx).trans (by simp only [SV.den,hca];rfl)
  have h2:ac.eval y=.agg (paVals b):=(evalO_eval ha hy).trans (by simp only [SV.den,hcb];rfl)
  rw [hP]
  have hG:(eqGuard .neq t x y (.agg (paVals a)) (.agg (paVals b))).run Tryd.prog w=.ok () w:=run_eqGuard_agg w _ _ _ _ _ _ ht.grd
  have hE:(Op.equalIn 10000 t (.agg (paVals a)) (.agg (paVals b))).run Tryd.prog w=.ok (decide (a=b)) w:=eqPart_ok ht 9997 a b w
  have hB:(binOp .neq t (.agg (paVals a)) (.agg (paVals b))).run Tryd.prog w=.ok (.bool (!decide (a=b))) w:=by
    rw [run_neq_struct,hE]
    rfl
  simp only [execOp,hop,h1,h2,Sem.run_bind,hG,hB,Result.andThen_ok,Sem.run_pure]
  rfl
end
theorem partT49:PartT 49:=⟨by kernel_rfl,by kernel_rfl,by kernel_rfl,by kernel_rfl⟩
set_option maxRecDepth 100000 in
set_option maxHeartbeats 2000000 in
theorem right_c (σ:Snap) (p:GPart) (hd:p.n.dg.size<=mostLen):PlainS Tryd.prog 25 [.agg (paCells p)] σ (fun v=>v=.bool (rightG p)):=by
  obtain ⟨kd,b,n,s,i⟩:=p
  refine enter_p Tryd.func25 rfl rfl ⟨paCells_lt 0 _,trivial⟩ fun w=>?_
  (repeat (first | refine cj_seq ?_ | refine cjr TT rfl ?_ | refine oj_then ?_ | refine cj_block ?_))
  refine cj_if rfl (fun h=>?_) (fun h0=>?_)
  · have h:=of_decide_eq_true (show decide (kd=0)=true from h)
    (repeat (first | refine cj_seq ?_ | refine cjr TT rfl ?_ | refine cj_skip ?_ | refine nj_then ?_ | refine nj_block ?_))
    refine oj_eqPart partT49 ⟨0,b,n,s,i⟩ part0 rfl rfl rfl rfl rfl rfl rfl (fun _=>rfl) (fun _=>rfl) (oj_run TT rfl ?_)
    (repeat (first | refine oj_then ?_ | refine cj_ret ?_))
    refine nj_ret TT rfl fun β w' _ _=>?_
    subst h
    rfl
  have h0:=of_decide_eq_false (show decide (kd=0)=false from h0)
  (repeat (first | refine cj_seq ?_ | refine cjr TT rfl ?_ | refine oj_then ?_))
  refine cj_if rfl (fun h=>?_) (fun h1=>?_)
  · have h:=of_decide_eq_true (show decide (kd=1)=true from h)
    (repeat (first | refine cj_seq ?_ | refine cjr TT rfl ?_ | refine oj_nil ?_ | refine nj_then ?_ | refine nj_block ?_))
    refine oj_eqPart partT49 ⟨0,false,n,s,i⟩ part0 rfl rfl rfl rfl rfl rfl rfl (fun _=>rfl) (fun _=>rfl) (oj_run TT rfl ?_)
    (repeat (first | refine oj_then ?_ | refine cj_ret ?_))
    refine nj_ret TT rfl fun β w' _ _=>?_
    subst h
    rfl
  have h1:=of_decide_eq_false (show decide (kd=1)=false from h1)
  (repeat (first | refine cj_seq ?_ | refine cjr TT rfl ?_ | refine oj_then ?_))
  refine cj_if rfl (fun h=>?_) (fun h2=>?_)
  · have h:=of_decide_eq_true (show decide (kd=2)=true from h)
    (repeat (first | refine cj_seq ?_ | refine cjr TT rfl ?_ | refine oj_then ?_))
    refine oj_eqPart partT49 ⟨0,b,dec0,s,i⟩ part0 rfl rfl rfl rfl rfl rfl rfl (fun _=>rfl) (fun _=>rfl) (oj_run TT rfl ?_)
    refine oj_split 20 rfl (fun hq=>?_) (fun hq=>?_)
    · have hq:decide ((⟨0,b,dec0,s,i⟩:GPart)=part0)=true:=hq
      refine oj_run TT rfl ?_
      refine oj_callP rfl rfl rfl rfl rfl Tryd.call34 (by (repeat' (first | exact trivial | exact decCells_lt _ _ | constructor))) (decSane_c σ n hd) fun v hv=>⟨.a (.b (decSane n)),trivial,hv.symm,?_⟩
      refine oj_run TT rfl ?_
      (repeat (first | refine oj_then ?_ | refine cj_ret ?_ | refine nj_then_ret ?_ | refine nj_block_ret ?_))
      refine nj_ret TT rfl fun β w' _ _=>?_
      subst h
      show Value.bool (decSane n)=.bool (decide ((⟨0,b,dec0,s,i⟩:GPart)=part0)&&decSane n)
      rw [hq,Bool.true_and]
    · have hq:decide ((⟨0,b,dec0,s,i⟩:GPart)=part0)=false:=hq
      refine oj_run TT rfl ?_
      (repeat (first | refine oj_then ?_ | refine cj_ret ?_ | refine nj_then_ret ?_ | refine nj_block_ret ?_))
      refine nj_ret TT rfl fun β w' _ _=>?_
      subst h
      show Value.bool false=.bool (decide ((⟨0,b,dec0,s,i⟩:GPart)=part0)&&decSane n)
      rw [hq,Bool.false_and]
  have h2:=of_decide_eq_false (show decide (kd=2)=false from h2)
  (repeat (first | refine cj_seq ?_ | refine cjr TT rfl ?_ | refine oj_then ?_))
  refine cj_if rfl (fun h=>?_) (fun h3=>?_)
  · have h:=of_decide_eq_true (show decide (kd=3)=true from h)
    (repeat (first | refine cj_seq ?_ | refine cjr TT rfl ?_ | refine oj_nil ?_ | refine nj_then ?_ | refine nj_block ?_))
    refine oj_eqPart partT49 ⟨0,b,n,emptyB,i⟩ part0 rfl rfl rfl rfl rfl rfl rfl (fun _=>rfl) (fun _=>rfl) (oj_run TT rfl ?_)
    (repeat (first | refine oj_then ?_ | refine cj_ret ?_))
    refine nj_ret TT rfl fun β w' _ _=>?_
    subst h
    rfl
  have h3:=of_decide_eq_false (show decide (kd=3)=false from h3)
  (repeat (first | refine cj_seq ?_ | refine cjr TT rfl ?_ | refine oj_then ?_))
  refine cj_if rfl (fun h=>?_) (fun h9=>?_)
  · have h:=of_decide_eq_true (show decide (kd=9)=true from h)
    (repeat (first | refine cj_seq ?_ | refine cjr TT rfl ?_ | refine oj_then ?_))
    refine oj_eqPart partT49 ⟨0,b,n,s,0⟩ part0 rfl rfl rfl rfl rfl rfl rfl (fun _=>rfl) (fun _=>rfl) (oj_run TT rfl ?_)
    refine oj_split 34 rfl (fun hq=>?_) (fun hq=>?_)
    · have hq:decide ((⟨0,b,n,s,0⟩:GPart)=part0)=true:=hq
      refine oj_run TT rfl ?_
      refine oj_split 39 rfl (fun hi=>?_) (fun hi=>?_)
      · have hi:decide (0<=i)=true:=hi
        refine oj_run TT rfl ?_
        (repeat (first | refine oj_then ?_ | refine cj_ret ?_ | refine nj_then_ret ?_ | refine nj_block_ret ?_))
        refine nj_ret TT rfl fun β w' _ _=>?_
        subst h
        show Value.bool (decide (i<=4294967295))=.bool (decide ((⟨0,b,n,s,0⟩:GPart)=part0)&&decide (0<=i)&&decide (i<=4294967295))
        rw [hq,hi,Bool.true_and,Bool.true_and]
      · have hi:decide (0<=i)=false:=hi
        refine oj_run TT rfl ?_
        (repeat (first | refine oj_then ?_ | refine cj_ret ?_ | refine nj_then_ret ?_ | refine nj_block_ret ?_))
        refine nj_ret TT rfl fun β w' _ _=>?_
        subst h
        show Value.bool false=.bool (decide ((⟨0,b,n,s,0⟩:GPart)=part0)&&decide (0<=i)&&decide (i<=4294967295))
        rw [hi,Bool.and_false,Bool.false_and]
    · have hq:decide ((⟨0,b,n,s,0⟩:GPart)=part0)=false:=hq
      refine oj_run TT rfl ?_
      (repeat (first | refine oj_then ?_ | refine cj_ret ?_ | refine nj_then_ret ?_ | refine nj_block_ret ?_))
      refine nj_ret TT rfl fun β w' _ _=>?_
      subst h
      show Value.bool false=.bool (decide ((⟨0,b,n,s,0⟩:GPart)=part0)&&decide (0<=i)&&decide (i<=4294967295))
      rw [hq,Bool.false_and,Bool.false_and]
  have h9:=of_decide_eq_false (show decide (kd=9)=false from h9)
  (repeat (first | refine cj_seq ?_ | refine cjr TT rfl ?_ | refine oj_then ?_ | refine cj_ret ?_ | refine nj_then_ret ?_ | refine nj_block_ret ?_))
  refine nj_ret TT rfl fun β w' _ _=>?_
  unfold rightG
  dsimp only
  rw [if_neg h0,if_neg h1,if_neg h2,if_neg h3,if_neg h9]
  rfl
end Go.Sy
namespace Go.Sy
open Go.Proofs
def fillK (l:List UInt8) (k:Nat):List UInt8:=l.take k++List.replicate (l.length - k) 0
theorem fillK_all (l:List UInt8):fillK l l.length=l:=by unfold fillK;simp
theorem fillK_set {l:List UInt8} {k:Nat} {x:UInt8} (h:l[k]?=some x):(fillK l k).set k x=fillK l (k+1):=by
  obtain ⟨hk,he⟩:=List.getElem?_eq_some_iff.1 h
  unfold fillK
  have hl:(l.take k).length=k:=by rw [List.length_take];omega
  rw [List.take_succ_eq_append_getElem hk,he,show l.length - k=(l.length - (k+1))+1 by omega,List.replicate_succ,List.set_append_right _ _ (by omega),hl,Nat.sub_self,List.set_cons_zero,List.append_assoc]
  rfl
theorem u8Xs_set (l:List UInt8) (k:Nat) (x:UInt8):(u8Xs l).set k (.int .u8 (x.toNat:Int))=u8Xs (l.set k x):=by
  unfold u8Xs
  rw [List.map_set]
theorem u8Xs_zeros (n:Nat):(List.replicate n ([.int .u8 0]:List Value)).flatten=u8Xs (List.replicate n 0):=by
  induction n with
  | zero=>rfl
  | succ n ih =>
    rw [List.replicate_succ,List.replicate_succ,List.flatten_cons,ih]
    rfl
theorem turnG_get {l:List UInt8} {k:Nat} {x:UInt8} (h:l[k]?=some x):(turnG l)[k]?=some (255 - x):=by unfold turnG;rw [List.getElem?_map,h];rfl
theorem turnG_len (l:List UInt8):(turnG l).length=l.length:=by simp [turnG]
set_option maxRecDepth 100000 in
set_option maxHeartbeats 2000000 in
theorem turned_c (σ:Snap) (l:List UInt8) (hl:l.length<=1000000) (ao:Option Addr) (cap:Nat) (H:SlAt σ ao l.length cap 1 (u8Rows l)) :
    PureS Tryd.prog 35 [.a (.v (.slice ao l.length cap))] σ (fun v σ'=>∃ bo bc,v=.slice bo l.length bc/\SlAt σ' bo l.length bc 1 (u8Rows (turnG l))):=by
  refine enter_s Tryd.func35 rfl rfl (by (repeat' (first | exact trivial | constructor))) fun w=>?_
  (repeat (first | refine cj_seq ?_ | refine cjr TT rfl ?_ | refine oj_then ?_))
  refine oj_makeSliceN (n:=l.length) TT _ rfl rfl rfl rfl rfl rfl rfl rfl rfl rfl (by show l.length*1<=_;omega) (by omega) (madeCells_rep [.int .u8 0] l.length) fun g=>?_
  rw [u8Xs_zeros]
  refine oj_run TT rfl ?_
  (repeat (first | refine cj_seq ?_ | refine cjr TT rfl ?_ | refine oj_then ?_ | refine cj_block ?_))
  refine cj_loop (fun (_:Nat)=>σ) (fun k=>[(3,.a (.v (.slice (some ⟨g,0,none⟩) l.length l.length))),(9,.a (.v (.slice ao l.length cap))),(10,.a (.v (.int .i64 l.length))),(11,.a (.v (.int .i64 (k:Nat))))]) (fun _=>[]) (fun k=>[⟨some ⟨g,0,none⟩,l.length,l.length,5,1,u8Xs (fillK (turnG l) k)⟩]) 0
    (fun k=>k<=l.length) (fun k=>l.length - k) 0 (Nat.zero_le _) rfl (by (repeat first | exact trivial | refine ⟨rfl,?_⟩)) (by (repeat first | exact trivial | refine ⟨rfl,?_⟩)) (by unfold fillK;rw [turnG_len];rfl) (by (repeat' (first | exact trivial | constructor))) (by (repeat' exact trivial)) fun k hk=>?_
  (repeat (first | refine cj_seq ?_ | refine cjr TT rfl ?_ | refine oj_then ?_))
  refine cj_if rfl (fun h=>?_) (fun h=>?_)
  rotate_left
  · have hk0:k=l.length:=by have:=of_decide_eq_false h;omega
    have e:fillK (turnG l) k=turnG l:=by rw [hk0,<-turnG_len l,fillK_all]
    rw [e]
    (repeat (first | refine cj_seq ?_ | refine cjr TT rfl ?_ | refine oj_then ?_ | refine cj_exit ?_ | refine cj_ret ?_ | refine nj_then ?_ | refine nj_then_exit ?_ | refine nj_block_out ?_))
    refine nj_seal 0 rfl rfl fun s1 hle1 hS=>?_
    refine nj_ret TT rfl fun β w' _ _=>?_
    have hS:ArrSealed s1 (u8E (some ⟨g,0,none⟩) l.length (turnG l)):=by unfold u8E;rw [turnG_len];exact hS
    have:=u8_sealed hS (by rw [turnG_len];exact Nat.le_refl _)
    rw [turnG_len] at this
    exact ⟨_,_,rfl,this⟩
  have hkl:k<l.length:=by have:=of_decide_eq_true h;omega
  have hx:=List.getElem?_eq_getElem hkl
  have hrow:=u8Rows_get hx
  have hset:=fillK_set (turnG_get hx)
  generalize l[k]=x at *
  (repeat (first | refine cj_seq ?_ | refine cjr TT rfl ?_ | refine cj_skip ?_ | refine cj_block ?_ | refine nj_then ?_))
  refine oj_idx TT rfl rfl rfl rfl rfl rfl rfl rfl rfl H (by omega) hrow (oj_run TT rfl ?_)
  (repeat (first | refine cjr TT rfl ?_ | refine oj_then ?_))
  refine oj_compl8 rfl rfl rfl rfl rfl (oj_run TT rfl ?_)
  refine oj_indexAddr TT rfl rfl rfl rfl rfl rfl rfl rfl rfl ⟨by omega,by omega⟩ (oj_run TT rfl ?_)
  refine oj_stA 0 (off:=k) (A':=[⟨some ⟨g,0,none⟩,l.length,l.length,5,1,u8Xs (fillK (turnG l) (k+1))⟩]) (c:=.v (.int .u8 ((255 - x).toNat:Int))) TT rfl rfl rfl rfl (by rw [add0];show some (SV.a (AT.v (.pointer (some ⟨g,((k:Nat):Int).toNat*1,none⟩))))=_;rw [Nat.mul_one];rfl) rfl rfl rfl rfl rfl (by show k<l.length*1;omega) trivial rfl (by rw [<-hset,<-u8Xs_set];rfl) (oj_run TT rfl ?_)
  (repeat (first | refine cjr TT rfl ?_ | refine oj_nil ?_ | refine nj_then ?_ | refine nj_block ?_ | (refine oj_add rfl rfl rfl rfl rfl rfl (by omega) ?_;refine oj_run TT rfl ?_)))
  refine nj_again (k+1) hkl (by omega) rfl (by (repeat first | exact trivial | refine ⟨rfl,?_⟩)) (by (repeat first | exact trivial | refine ⟨rfl,?_⟩)) rfl (by (repeat' (first | exact trivial | constructor))) (by (repeat' exact trivial))
theorem wrap8 (x:Int):IntKind.u8.wrap x=((byteOf x).toNat:Int):=by
  rw [byteOf_nat]
  rfl
theorem shr8 (h:Int):bShr .i64 h 8=h / 256:=by
  show h.fdiv 256=_
  rw [Int.fdiv_eq_ediv_of_nonneg _ (by decide)]
theorem wrap8_sub:∀ c:UInt8,IntKind.u8.wrap ((c.toNat:Int) - 48)=((c - 48).toNat:Int):=all8 (by decide +kernel)
theorem wrap8_inc:∀ c:UInt8,IntKind.u8.wrap ((c.toNat:Int)+1)=((c+1).toNat:Int):=all8 (by decide +kernel)
def szK (h:Int) (l:List UInt8) (k:Nat):List UInt8:=byteOf (h / 256)::byteOf h::(l.take k).map (fun c=>c - 48+1)
theorem szK_len (h:Int) (l:List UInt8) (k:Nat):(szK h l k).length<=2+l.length:=by
  unfold szK
  rw [List.length_cons,List.length_cons,List.length_map,List.length_take]
  omega
theorem szK_succ {h:Int} {l:List UInt8} {k:Nat} {c:UInt8} (hc:l[k]?=some c):szK h l (k+1)=szK h l k++[c - 48+1]:=by
  obtain ⟨hk,he⟩:=List.getElem?_eq_some_iff.1 hc
  unfold szK
  rw [List.take_succ_eq_append_getElem hk,he,List.map_append]
  rfl
structure SzS where
  k:Nat
  oo:Option Addr
  oc:Nat
set_option maxRecDepth 100000 in
set_option maxHeartbeats 2000000 in
theorem size_c (σ:Snap) (d:GDec) (hs:decSane d=true) (h0:d.dg.size≠0):PureS Tryd.prog 36 [.agg (decCells d)] σ (fun v σ'=>∃ ao cap,v=.slice ao (sizeG d).length cap/\SlAt σ' ao (sizeG d).length cap 1 (u8Rows (sizeG d))):=by
  obtain ⟨hdig,h1,h2⟩:=sane_size hs h0
  obtain ⟨ng,dg,ex⟩:=d
  obtain ⟨l,rfl⟩:=mkB_ex dg
  have hsz:=mkB_size l
  dsimp only at h0 h1 h2
  rw [hsz] at h0
  have hl40:l.length<=40:=by
    rw [decSane_mk _ _ _ h0] at hs
    simp only [Bool.and_eq_true,decide_eq_true_eq] at hs
    exact hs.1.1.1.1.1.1.1
  refine enter_s Tryd.func36 rfl rfl (by (repeat' (first | exact trivial | exact decCells_lt _ _ | constructor))) fun w=>?_
  (repeat (first | refine cj_seq ?_ | refine cjr TT rfl ?_ | refine oj_then ?_))
  refine oj_add rfl rfl rfl rfl rfl rfl (by dsimp only;omega) (oj_run TT rfl ?_)
  refine oj_add rfl rfl rfl rfl rfl rfl (by dsimp only;omega) (oj_run TT rfl ?_)
  dsimp only
  have hH1:0<=((mkB l).size:Int)+ex+1000:=by omega
  have hH2:((mkB l).size:Int)+ex+1000<=1400:=by omega
  have hsz0:sizeG ⟨ng,mkB l,ex⟩=byteOf ((((mkB l).size:Int)+ex+1000) / 256)::byteOf (((mkB l).size:Int)+ex+1000)::(l.map (fun c=>c - 48+1)++[0]):=by
    unfold sizeG
    dsimp only
    rw [mkB_list]
  generalize ((mkB l).size:Int)+ex+1000=h at *
  (repeat (first | refine cj_seq ?_ | refine cjr TT rfl ?_ | refine oj_then ?_ | (refine oj_conv TT _ rfl rfl rfl rfl rfl rfl rfl rfl rfl ?_;refine oj_run TT rfl ?_) | (refine oj_bshr rfl rfl rfl rfl rfl rfl (by decide) ?_;refine oj_run TT rfl ?_)))
  have e1:IntKind.u8.wrap (bShr .i64 h 8)=((byteOf (h / 256)).toNat:Int):=by rw [wrap8,shr8]
  have e2:IntKind.u8.wrap h=((byteOf h).toNat:Int):=wrap8 h
  rw [e1,e2]
  refine oj_own 1 2 1 rfl (by (repeat' (first | exact trivial | refine AllLt.of ?_ | constructor))) rfl (by decide) fun g=>?_
  refine oj_bytes (y:=mkB l) TT rfl rfl rfl rfl rfl rfl rfl rfl rfl rfl rfl fun ao cap s1 hle1 HB=>?_
  rw [byteRows_u8,mkB_list,hsz] at HB
  refine oj_set 22 (.a (.v (.slice ao l.length cap))) rfl trivial (fun β=>by rw [hsz]) (oj_run TT rfl ?_)
  (repeat (first | refine oj_then ?_ | refine cj_block ?_))
  refine cj_loop (fun (_:SzS)=>s1) (fun t=>[(4,.a (.v (.slice t.oo (szK h l t.k).length t.oc))),(22,.a (.v (.slice ao l.length cap))),(23,.a (.v (.int .i64 l.length))),(24,.a (.v (.int .i64 (t.k:Nat))))]) (fun _=>[]) (fun t=>[u8E t.oo t.oc (szK h l t.k)]) 0
    (fun t=>t.k<=l.length/\(szK h l t.k).length<=t.oc) (fun t=>l.length - t.k) ⟨0,some ⟨g,0,none⟩,2⟩ ⟨Nat.zero_le _,Nat.le_refl _⟩ rfl (by (repeat first | exact trivial | refine ⟨rfl,?_⟩)) (by (repeat first | exact trivial | refine ⟨rfl,?_⟩)) rfl (by (repeat' (first | exact trivial | constructor))) (by (repeat' exact trivial)) fun ⟨k,oo,oc⟩ ⟨hk,hoc⟩=>?_
  dsimp only at hk hoc ⊢
  have hlen:=szK_len h l k
  (repeat (first | refine cj_seq ?_ | refine cjr TT rfl ?_ | refine oj_then ?_))
  refine cj_if rfl (fun hc=>?_) (fun hc=>?_)
  rotate_left
  · have hk0:k=l.length:=by have:=of_decide_eq_false hc;omega
    have e:szK h l k++[0]=sizeG ⟨ng,mkB l,ex⟩:=by
      rw [hsz0,hk0]
      unfold szK
      rw [List.take_length]
      rfl
    (repeat (first | refine cj_seq ?_ | refine cjr TT rfl ?_ | refine cj_exit ?_ | refine nj_then ?_ | refine nj_then_exit ?_ | refine nj_block_out ?_))
    refine oj_append_lit TT 0 rfl rfl rfl rfl rfl rfl rfl rfl rfl rfl rfl rfl rfl rfl rfl rfl rfl rfl (by (repeat' (first | exact trivial | refine AllLt.of ?_ | constructor))) rfl (by omega) (by show ((szK h l k).length+1)*1<=_;omega) fun oo' oc' hoc'=>oj_run TT rfl ?_
    (repeat (first | refine oj_then ?_ | refine cj_ret ?_))
    refine nj_seal 0 rfl rfl fun s2 hle2 hS=>?_
    refine nj_ret TT rfl fun β w' _ _=>?_
    have hl1:(szK h l k++[0]).length=(szK h l k).length+1:=by simp
    have hS:ArrSealed s2 (u8E oo' oc' (szK h l k++[0])):=by unfold u8E;rw [hl1,u8Xs_append];exact hS
    have:=u8_sealed hS (by rw [hl1];exact hoc')
    rw [<-e]
    exact ⟨oo',oc',by rw [hl1];rfl,this⟩
  have hkl:k<l.length:=by have:=of_decide_eq_true hc;omega
  have hx:=List.getElem?_eq_getElem hkl
  have hrow:=u8Rows_get hx
  have hs1:=szK_succ (h:=h) hx
  generalize l[k]=c at *
  (repeat (first | refine cj_seq ?_ | refine cjr TT rfl ?_ | refine cj_skip ?_ | refine cj_block ?_ | refine nj_then ?_))
  refine oj_idx TT rfl rfl rfl rfl rfl rfl rfl rfl rfl HB (by omega) hrow (oj_run TT rfl ?_)
  (repeat (first | refine cjr TT rfl ?_ | refine oj_then ?_))
  refine oj_arith ((c - 48).toNat:Int) rfl rfl rfl rfl rfl rfl (run_sub (wrap8_sub c)) (oj_run TT rfl ?_)
  refine oj_arith ((c - 48+1).toNat:Int) rfl rfl rfl rfl rfl rfl (run_add (wrap8_inc (c - 48))) (oj_run TT rfl ?_)
  refine oj_append_lit TT 0 rfl rfl rfl rfl rfl rfl rfl rfl rfl rfl rfl rfl rfl rfl rfl rfl rfl rfl (by (repeat' (first | exact trivial | refine AllLt.of ?_ | constructor))) rfl (by omega) (by show ((szK h l k).length+1)*1<=_;omega) fun oo' oc' hoc'=>oj_run TT rfl ?_
  (repeat (first | refine cjr TT rfl ?_ | refine oj_nil ?_ | refine nj_then ?_ | refine nj_block ?_ | (refine oj_add rfl rfl rfl rfl rfl rfl (by omega) ?_;refine oj_run TT rfl ?_)))
  have hl1:(szK h l (k+1)).length=(szK h l k).length+1:=by rw [hs1];simp
  refine nj_again (⟨k+1,oo',oc'⟩:SzS) ⟨hkl,by dsimp only;omega⟩ (by dsimp only;omega) rfl ?_ (by (repeat first | exact trivial | refine ⟨rfl,?_⟩)) ?_ (by (repeat' (first | exact trivial | constructor))) (by (repeat' exact trivial))
  · dsimp only
    rw [hl1]
    (repeat first | exact trivial | refine ⟨rfl,?_⟩)
  · show [_]=[_]
    dsimp only
    unfold u8E
    rw [hl1,hs1,u8Xs_append]
    rfl
end Go.Sy
/- The library's strings.ReplaceAll at this program: the shelf's contract, laid by its program. -/
namespace Go.Proofs
open Go.Shelf
def Tryd.lays155_ren:Go.Shelf.Ren:=⟨fun | 155=>37 | 154=>49 | 138=>63 | 165=>64 | 143=>65 | 166=>66 | 197=>67 | 169=>68 | 195=>75 | 218=>76 | 240=>77 | 241=>78 | 219=>79 | 260=>80 | 276=>84 | 277=>85 | 217=>86 | 225=>87 | 224=>88 | 267=>89 | 266=>92 | 314=>93 | n=>n,fun | 9=>9 | 3=>3 | 4=>4 | 72=>97 | 0=>0 | 76=>101 | 105=>103 | 21=>21 | 5=>5 | 70=>95 | 20=>20 | 37=>22 | 75=>100 | 127=>111 | 164=>113 | 46=>73 | 119=>117 | 139=>120 | 138=>119 | 146=>123 | 51=>122 | 80=>105 | n=>n,fun | 1=>0 | 3=>1 | 4=>2 | n=>n⟩
theorem Tryd.lays155:Go.Proofs.Lays.n155 Tryd.prog Tryd.lays155_ren:={
  mixed:=by kernel_rfl
  f138:=Tryd.func63.trans (congrArg some (by kernel_rfl))
  f143:=Tryd.func65.trans (congrArg some (by kernel_rfl))
  f154:=Tryd.func49.trans (congrArg some (by kernel_rfl))
  f155:=Tryd.func37.trans (congrArg some (by kernel_rfl))
  f165:=Tryd.func64.trans (congrArg some (by kernel_rfl))
  f166:=Tryd.func66.trans (congrArg some (by kernel_rfl))
  f169:=Tryd.func68.trans (congrArg some (by kernel_rfl))
  f195:=Tryd.func75.trans (congrArg some (by kernel_rfl))
  f197:=Tryd.func67.trans (congrArg some (by kernel_rfl))
  f217:=Tryd.func86.trans (congrArg some (by kernel_rfl))
  f218:=Tryd.func76.trans (congrArg some (by kernel_rfl))
  f219:=Tryd.func79.trans (congrArg some (by kernel_rfl))
  f224:=Tryd.func88.trans (congrArg some (by kernel_rfl))
  f225:=Tryd.func87.trans (congrArg some (by kernel_rfl))
  f240:=Tryd.func77.trans (congrArg some (by kernel_rfl))
  f241:=Tryd.func78.trans (congrArg some (by kernel_rfl))
  f260:=Tryd.func80.trans (congrArg some (by kernel_rfl))
  f266:=Tryd.func92.trans (congrArg some (by kernel_rfl))
  f267:=Tryd.func89.trans (congrArg some (by kernel_rfl))
  f276:=Tryd.func84.trans (congrArg some (by kernel_rfl))
  f277:=Tryd.func85.trans (congrArg some (by kernel_rfl))
  f314:=Tryd.func93.trans (congrArg some (by kernel_rfl))
  t0:=Tryd.underlying0
  a0:=Tryd.isAgg0
  z0:=Tryd.sizeOf0
  v0:=Tryd.zeroValue0
  t3:=Tryd.underlying3
  a3:=Tryd.isAgg3
  z3:=Tryd.sizeOf3
  v3:=Tryd.zeroValue3
  t4:=Tryd.underlying4
  a4:=Tryd.isAgg4
  z4:=Tryd.sizeOf4
  v4:=Tryd.zeroValue4
  t5:=Tryd.underlying5
  a5:=Tryd.isAgg5
  z5:=Tryd.sizeOf5
  v5:=Tryd.zeroValue5
  t9:=Tryd.underlying9
  a9:=Tryd.isAgg9
  z9:=Tryd.sizeOf9
  v9:=Tryd.zeroValue9
  t20:=Tryd.underlying20
  a20:=Tryd.isAgg20
  z20:=Tryd.sizeOf20
  v20:=Tryd.zeroValue20
  t21:=Tryd.underlying21
  a21:=Tryd.isAgg21
  z21:=Tryd.sizeOf21
  v21:=Tryd.zeroValue21
  t37:=Tryd.underlying22
  a37:=Tryd.isAgg22
  z37:=Tryd.sizeOf22
  v37:=Tryd.zeroValue22
  t46:=Tryd.underlying73
  a46:=Tryd.isAgg73
  z46:=Tryd.sizeOf73
  v46:=Tryd.zeroValue73
  t51:=Tryd.underlying122
  a51:=Tryd.isAgg122
  z51:=Tryd.sizeOf122
  v51:=Tryd.zeroValue122
  t70:=Tryd.underlying95
  a70:=Tryd.isAgg95
  z70:=Tryd.sizeOf95
  v70:=Tryd.zeroValue95
  t72:=Tryd.underlying97
  a72:=Tryd.isAgg97
  z72:=Tryd.sizeOf97
  v72:=Tryd.zeroValue97
  t75:=Tryd.underlying100
  a75:=Tryd.isAgg100
  z75:=Tryd.sizeOf100
  v75:=Tryd.zeroValue100
  t76:=Tryd.underlying101
  a76:=Tryd.isAgg101
  z76:=Tryd.sizeOf101
  v76:=Tryd.zeroValue101
  t105:=Tryd.underlying103
  a105:=Tryd.isAgg103
  z105:=Tryd.sizeOf103
  v105:=Tryd.zeroValue103
  t119:=Tryd.underlying117
  a119:=Tryd.isAgg117
  z119:=Tryd.sizeOf117
  t127:=Tryd.underlying111
  a127:=Tryd.isAgg111
  z127:=Tryd.sizeOf111
  v127:=Tryd.zeroValue111
  t138:=Tryd.underlying119
  a138:=Tryd.isAgg119
  z138:=Tryd.sizeOf119
  v138:=Tryd.zeroValue119
  t139:=Tryd.underlying120
  a139:=Tryd.isAgg120
  z139:=Tryd.sizeOf120
  v139:=Tryd.zeroValue120
  t146:=Tryd.underlying123
  a146:=Tryd.isAgg123
  z146:=Tryd.sizeOf123
  v146:=Tryd.zeroValue123
  t164:=Tryd.underlying113
  a164:=Tryd.isAgg113
  z164:=Tryd.sizeOf113
  v164:=Tryd.zeroValue113
  g1:=by kernel_rfl
  g3:=by kernel_rfl
  g4:=by kernel_rfl }
theorem Tryd.Builder_Extra_155:Builder.Extra Tryd.prog Tryd.lays155_ren:={
  sizeBuilder:=by kernel_rfl
  liesBuilder:=by kernel_rfl
  t5:=Tryd.underlying5
  a5:=Tryd.isAgg5
  z5:=Tryd.sizeOf5
  v5:=Tryd.zeroValue5
  infoByte:=by kernel_rfl
  cellsByte:=by kernel_rfl
  sizeByte:=by kernel_rfl
  neB5:=by decide }
open Go.RowKit Go.Lib in
theorem Tryd.strings_ReplaceAll (s old new:ByteArray) (m:Int) (w:World) (hs:s.size<4294967281) (hm:w.cell? ⟨0,0,none⟩=some (.int .i64 m)) (h1:1<=old.size) (hlen:s.size+Lib.countB s old*new.size<=140737488355328) :
    Calls Tryd.prog 37 #[.string s,.string old,.string new] w fun e w' =>
      e=.returned (.string ⟨(Lib.replaceAll s.data.toList old.data.toList new.data.toList).toArray⟩)/\Below w.heap.size w w':=Any.strings_ReplaceAll Tryd.lays155 Tryd.Builder_Extra_155 s old new m w hs hm h1 hlen
end Go.Proofs
namespace Go.Sy
open Go.Proofs
theorem esc_none:∀ {s:List UInt8},(∀ c∈s,c≠0)->escG s=s
  | [],_=>rfl
  | c::s,h=>by
    rw [escG,if_neg (h c List.mem_cons_self),esc_none fun x hx=>h x (List.mem_cons_of_mem c hx)]
theorem esc_hit:∀ (a r:List UInt8),(∀ c∈a,c≠0)->escG (a++0::r)=a++[0,255]++escG r
  | [],r,_=>by rw [List.nil_append,escG,if_pos rfl];rfl
  | c::a,r,h=>by
    rw [List.cons_append,escG,if_neg (h c List.mem_cons_self),esc_hit a r fun x hx=>h x (List.mem_cons_of_mem c hx)]
    rfl
theorem idx_split (s:List UInt8):(Lib.index s [0] = -1/\∀ c∈s,c≠0)\/∃ a r,s=a++0::r/\(∀ c∈a,c≠0)/\Lib.index s [0]=(a.length:Nat):=by
  rw [Lib.index_one]
  have hge:=Lib.indexByte_ge s 0
  by_cases h:Lib.indexByte s 0 = -1
  · refine .inl ⟨h,fun c hc h0=>?_⟩
    obtain ⟨k,hk,rfl⟩:=List.mem_iff_getElem.1 hc
    exact Lib.indexByte_none h k (by rw [List.getElem?_eq_getElem hk,h0])
  · obtain ⟨o,ho⟩:∃ o:Nat,Lib.indexByte s 0=o:=⟨(Lib.indexByte s 0).toNat,by omega⟩
    obtain ⟨h1,h2⟩:=Lib.indexByte_some ho
    obtain ⟨hl,he⟩:=List.getElem?_eq_some_iff.1 h1
    refine .inr ⟨s.take o,s.drop (o+1),?_,fun c hc h0=>?_,by rw [ho,List.length_take,Nat.min_eq_left (by omega)]⟩
    · rw [<-he,<-List.drop_eq_getElem_cons hl,List.take_append_drop]
    · obtain ⟨k,hk,hk3⟩:=List.mem_iff_getElem.1 hc
      have hk2:=List.getElem?_eq_getElem hk
      rw [hk3] at hk2
      rw [List.length_take] at hk
      rw [List.getElem?_take,if_pos (by omega),h0] at hk2
      exact h2 k (by omega) hk2
theorem replaceK_esc:∀ (fuel:Nat) (s:List UInt8),s.length<fuel->Lib.replaceK [0] [0,255] (Lib.countFrom [0] fuel s) s=escG s
  | 0,s,h=>by omega
  | fuel+1,s,h=>by
    rcases idx_split s with ⟨h1,h2⟩ | ⟨a,r,rfl,h2,h3⟩
    · rw [Lib.countFrom,h1]
      exact (esc_none h2).symm
    · have hne:¬ (Lib.index (a++0::r) [0] == -1)=true:=by rw [h3];intro e;have:=beq_iff_eq.1 e;omega
      have hd:(a++0::r).drop (a.length+1)=r:=by
        rw [List.drop_append,List.drop_of_length_le (by omega)]
        simp
      have ih:=replaceK_esc fuel r (by simp at h;omega)
      rw [Lib.countFrom,if_neg hne,Nat.add_comm,Lib.replaceK_hit _ _ _ _ _ h3,h3]
      show (a++0::r).take a.length++[0,255]++Lib.replaceK [0] [0,255] (Lib.countFrom [0] fuel ((a++0::r).drop (a.length+1))) ((a++0::r).drop (a.length+1))=_
      rw [hd,ih,esc_hit a r h2,List.take_left]
theorem replaceAll_esc (s:List UInt8):Lib.replaceAll s [0] [0,255]=escG s:=replaceK_esc (s.length+1) s (Nat.lt_succ_self _)
theorem plain_of_below {P:Program} {f:FuncId} {svs:List SV} {σ:Snap} {Φ:Value->Prop} (h:∀ w,Sealed σ w->Calls P f (svs.map (SV.den β0)).toArray w fun e w'=>∃ v,e=.returned v/\Φ v/\Go.RowKit.Below w.heap.size w w'):PlainS P f svs σ Φ:=by
  intro w hw
  refine Calls.mono (h w hw) fun e w' ⟨v,he,hv,hb⟩=>⟨v,σ,he,⟨hb.os,hb.tape,hb.output,hb.size,fun b hb' _=>hb.block b hb'⟩,⟨Snap.le_refl _,fun b hb'=>.inl hb'⟩,fun b o ho=>?_,hv⟩
  have h1:=hw b o ho
  rw [hb.block b (Array.getElem?_eq_some_iff.1 h1).1]
  exact h1
theorem ReplaceAll_c (σ:Snap) (m:Int) (hm:σ.cell ⟨0,0,none⟩=some (.int .i64 m)) (s:ByteArray) (hs:s.size<=1000000) :
    PlainS Tryd.prog 37 [.a (.v (.string s)),.a (.v (.string ⟨#[0]⟩)),.a (.v (.string ⟨#[0,255]⟩))] σ (fun v=>v=.string (mkB (escG s.data.toList))):=by
  refine plain_of_below fun w hw=>?_
  have hc:=Lib.countB_mul_le ⟨#[0]⟩ (by decide) s.size s (Nat.le_refl _)
  have hz:(⟨#[0]⟩:ByteArray).size=1:=rfl
  have hz2:(⟨#[0,255]⟩:ByteArray).size=2:=rfl
  rw [hz,Nat.mul_one] at hc
  refine Calls.mono (Tryd.strings_ReplaceAll s ⟨#[0]⟩ ⟨#[0,255]⟩ m w (by omega) (sealed_cell hw hm) (by decide) (by rw [hz2];omega)) fun e w' ⟨he,hb⟩=>⟨_,he,?_,hb⟩
  show Value.string ⟨(Lib.replaceAll s.data.toList [0] [0,255]).toArray⟩=_
  rw [replaceAll_esc]
  rfl
end Go.Sy
namespace Go.Sy
open Go.Proofs
theorem u8E_app {ao:Option Addr} {cap:Nat} {a b:List UInt8} {n:Nat} (hn:n=(a++b).length):(⟨ao,n,cap,5,1,u8Xs a++u8Xs b⟩:AE)=u8E ao cap (a++b):=by
  subst hn
  unfold u8E
  rw [u8Xs_append]
theorem u8Xs_flat (l:List UInt8):(u8Rows l).flatten.map AT.val=u8Xs l:=(u8Xs_rows l).symm
theorem esc_len:∀ (l:List UInt8),(escG l).length<=2*l.length
  | []=>Nat.le_refl _
  | c::l=>by
    have:=esc_len l
    unfold escG
    split<;>simp only [List.length_cons]<;>omega
theorem size_le {d:GDec} (h:decSane d=true) (h0:d.dg.size≠0):(sizeG d).length<=43:=by
  rw [size_len]
  obtain ⟨ng,dg,ex⟩:=d
  obtain ⟨l,rfl⟩:=mkB_ex dg
  have hsz:=mkB_size l
  dsimp only at h0 ⊢
  rw [hsz] at h0 ⊢
  rw [decSane_mk _ _ _ h0] at h
  simp only [Bool.and_eq_true,decide_eq_true_eq] at h
  have:=h.1.1.1.1.1.1.1
  omega
theorem shrA (i:Int):bShr .i64 i 24=i / 16777216:=by
  show i.fdiv 16777216=_
  rw [Int.fdiv_eq_ediv_of_nonneg _ (by decide)]
theorem shrB (i:Int):bShr .i64 i 16=i / 65536:=by
  show i.fdiv 65536=_
  rw [Int.fdiv_eq_ediv_of_nonneg _ (by decide)]
set_option maxRecDepth 100000 in
set_option maxHeartbeats 4000000 in
theorem put_c (σ:Snap) (m:Int) (hm:σ.cell ⟨0,0,none⟩=some (.int .i64 m)) (p:GPart) (hp:Rt p) (hps:p.s.size<=1000000) (o:List UInt8) (ho:o.length<=100000000) (oo:Option Addr) (oc:Nat) (hoc:o.length<=oc) :
    FnS Tryd.prog 26 [.a (.v (.slice oo o.length oc)),.agg (paCells p)] σ [u8E oo oc o] (fun v _ A'=>∃ oo' oc',v=.slice oo' (o++putG p).length oc'/\(o++putG p).length<=oc'/\A'=[u8E oo' oc' (o++putG p)]):=by
  obtain ⟨kd,b,n,s,i⟩:=p
  dsimp only at hps
  have hnum:kd=2->decSane n=true:=fun h=>by
    have hr:=(right_iff _).2 hp
    subst h
    have:(decide ((⟨0,b,dec0,s,i⟩:GPart)=part0)&&decSane n)=true:=hr
    rw [Bool.and_eq_true] at this
    exact this.2
  have hfin:∀ (l:List UInt8) (e:putG ⟨kd,b,n,s,i⟩=l) {k:Nat} (hk:k=l.length) (oo':Option Addr) (oc':Nat),o.length+k<=oc'->∃ ao ac,Value.slice oo' (o.length+k) oc'=.slice ao (o++putG ⟨kd,b,n,s,i⟩).length ac/\(o++putG ⟨kd,b,n,s,i⟩).length<=ac/\[(⟨oo',o.length+k,oc',5,1,u8Xs o++u8Xs l⟩:AE)]=[u8E ao ac (o++putG ⟨kd,b,n,s,i⟩)]:=by
    intro l e k hk oo' oc' h
    have hl:o.length+k=(o++l).length:=by rw [List.length_append,hk]
    rw [e]
    rw [hl] at h ⊢
    exact ⟨oo',oc',rfl,h,congrArg (fun x=>[x]) (u8E_app rfl)⟩
  refine enter_f Tryd.func26 rfl rfl ⟨trivial,paCells_lt 0 _,trivial⟩ fun w=>?_
  (repeat (first | refine cj_seq ?_ | refine cjr TT rfl ?_ | refine oj_then ?_ | refine cj_block ?_))
  refine cj_if rfl (fun h=>?_) (fun h0=>?_)
  · have h:=of_decide_eq_true (show decide (kd=0)=true from h)
    (repeat (first | refine cj_seq ?_ | refine cjr TT rfl ?_))
    refine oj_append_lit TT 0 rfl rfl rfl rfl rfl rfl rfl rfl rfl rfl rfl rfl rfl rfl rfl rfl rfl rfl (by (repeat' (first | exact trivial | refine AllLt.of ?_ | constructor))) rfl (by omega) (by show (o.length+1)*1<=_;omega) fun oo' oc' hoc'=>oj_run TT rfl ?_
    (repeat (first | refine oj_then ?_ | refine cj_ret ?_ | refine nj_then_ret ?_ | refine nj_block_ret ?_))
    refine nj_fret TT rfl fun β w' _ _=>?_
    have e:putG ⟨kd,b,n,s,i⟩=[16]:=by unfold putG;dsimp only;rw [if_pos h]
    exact hfin _ e rfl oo' oc' hoc'
  have h0:=of_decide_eq_false (show decide (kd=0)=false from h0)
  (repeat (first | refine cj_seq ?_ | refine cjr TT rfl ?_))
  refine oj_split 16 rfl (fun h1=>?_) (fun h1=>?_)
  · have h1:=of_decide_eq_true (show decide (kd=1)=true from h1)
    refine oj_run TT rfl ?_
    (repeat refine oj_then ?_)
    refine cj_if rfl (fun hb=>?_) (fun hb=>?_)
    · have hb:b=true:=hb
      (repeat (first | refine cj_seq ?_ | refine cjr TT rfl ?_))
      refine oj_append_lit TT 0 rfl rfl rfl rfl rfl rfl rfl rfl rfl rfl rfl rfl rfl rfl rfl rfl rfl rfl (by (repeat' (first | exact trivial | refine AllLt.of ?_ | constructor))) rfl (by omega) (by show (o.length+1)*1<=_;omega) fun oo' oc' hoc'=>oj_run TT rfl ?_
      (repeat (first | refine oj_then ?_ | refine cj_ret ?_ | refine nj_then_ret ?_ | refine nj_block_ret ?_))
      refine nj_fret TT rfl fun β w' _ _=>?_
      have e:putG ⟨kd,b,n,s,i⟩=[33]:=by unfold putG;dsimp only;rw [if_neg h0,if_pos h1,hb];rfl
      exact hfin _ e rfl oo' oc' hoc'
    · have hb:b=false:=hb
      (repeat (first | refine cj_seq ?_ | refine cjr TT rfl ?_ | refine oj_then ?_))
      refine cj_if rfl (fun _=>?_) (fun h=>absurd h1 (of_decide_eq_false (show decide (kd=1)=false from h)))
      (repeat (first | refine cj_seq ?_ | refine cjr TT rfl ?_))
      refine oj_append_lit TT 0 rfl rfl rfl rfl rfl rfl rfl rfl rfl rfl rfl rfl rfl rfl rfl rfl rfl rfl (by (repeat' (first | exact trivial | refine AllLt.of ?_ | constructor))) rfl (by omega) (by show (o.length+1)*1<=_;omega) fun oo' oc' hoc'=>oj_run TT rfl ?_
      (repeat (first | refine oj_then ?_ | refine cj_ret ?_ | refine nj_then_ret ?_ | refine nj_block_ret ?_))
      refine nj_fret TT rfl fun β w' _ _=>?_
      have e:putG ⟨kd,b,n,s,i⟩=[32]:=by unfold putG;dsimp only;rw [if_neg h0,if_pos h1,hb];rfl
      exact hfin _ e rfl oo' oc' hoc'
  have h1:=of_decide_eq_false (show decide (kd=1)=false from h1)
  refine oj_run TT rfl ?_
  (repeat (first | refine cj_seq ?_ | refine cjr TT rfl ?_ | refine oj_then ?_ | refine cj_if_f rfl ?_))
  refine cj_if rfl (fun h=>absurd (of_decide_eq_true (show decide (kd=1)=true from h)) h1) (fun _=>?_)
  (repeat (first | refine cj_seq ?_ | refine cjr TT rfl ?_))
  refine oj_split 34 rfl (fun h2=>?_) (fun h2=>?_)
  · have h2:=of_decide_eq_true (show decide (kd=2)=true from h2)
    have hs:=hnum h2
    refine oj_run TT rfl ?_
    (repeat refine oj_then ?_)
    refine cj_if rfl (fun hz=>?_) (fun hz=>?_)
    · have hz:n.dg.size=0:=by have:=of_decide_eq_true hz;rw [this];rfl
      (repeat (first | refine cj_seq ?_ | refine cjr TT rfl ?_))
      refine oj_append_lit TT 0 rfl rfl rfl rfl rfl rfl rfl rfl rfl rfl rfl rfl rfl rfl rfl rfl rfl rfl (by (repeat' (first | exact trivial | refine AllLt.of ?_ | constructor))) rfl (by omega) (by show (o.length+1)*1<=_;omega) fun oo' oc' hoc'=>oj_run TT rfl ?_
      (repeat (first | refine oj_then ?_ | refine cj_ret ?_ | refine nj_then_ret ?_ | refine nj_block_ret ?_))
      refine nj_fret TT rfl fun β w' _ _=>?_
      have e:putG ⟨kd,b,n,s,i⟩=[49]:=by unfold putG;dsimp only;rw [if_neg h0,if_neg h1,if_pos h2,if_pos hz]
      exact hfin _ e rfl oo' oc' hoc'
    have hz:n.dg.size≠0:=fun h=>by
      refine absurd ?_ (of_decide_eq_false hz)
      obtain ⟨l,hl⟩:=mkB_ex n.dg
      show n.dg=_
      rw [hl,mkB_size] at h
      rw [hl,List.eq_nil_of_length_eq_zero h]
      rfl
    have hsl:=size_le hs hz
    (repeat (first | refine cj_seq ?_ | refine cjr TT rfl ?_))
    refine oj_split 47 rfl (fun _=>?_) (fun h=>absurd h2 (of_decide_eq_false (show decide (kd=2)=false from h)))
    refine oj_run TT rfl ?_
    (repeat refine oj_then ?_)
    refine cj_if rfl (fun hn=>?_) (fun hn=>?_)
    · have hn:n.neg=true:=hn
      (repeat refine cj_seq ?_)
      refine cj_drawB 9 [0,3,8] [(0,.loc 49,paCells ⟨kd,b,n,s,i⟩)] mixed (by kernel_rfl) rfl (subH_of (by (repeat first | exact trivial | refine ⟨rfl,?_⟩))) ?_
      refine gb_val (i:=0) TT rfl (by kernel_rfl) (by kernel_rfl) rfl rfl rfl rfl rfl ?_
      refine gb_val (i:=3) TT rfl (by kernel_rfl) (by kernel_rfl) rfl rfl rfl rfl rfl ?_
      refine gb_val (i:=4) TT rfl (by kernel_rfl) (by kernel_rfl) rfl rfl rfl rfl rfl ?_
      refine gb_one (i:=1) (by kernel_rfl) ?_
      refine gb_new TT rfl rfl rfl rfl rfl ?_
      refine gb_one (i:=2) (by kernel_rfl) ?_
      refine gb_append_lit TT 0 rfl rfl rfl rfl rfl rfl rfl rfl rfl rfl rfl rfl rfl rfl rfl rfl rfl rfl (by (repeat' (first | exact trivial | refine AllLt.of ?_ | constructor))) rfl (by omega) (by show (o.length+1)*1<=_;omega) fun o1 c1 hc1=>?_
      refine gb_order [(5,.keep),(6,.keep),(7,.sink),(8,.pure)] rfl rfl (by kernel_rfl) ?_
      refine oj_run TT rfl ?_
      refine oj_callS rfl rfl rfl rfl rfl Tryd.call36 ⟨decCells_lt 0 n,trivial⟩ (size_c σ n hs hz) fun v s1 hle1 ⟨ao,ac,hv,HS⟩=>⟨.a (.v (.slice ao (sizeG n).length ac)),trivial,hv.symm,?_⟩
      refine oj_run TT rfl ?_
      refine oj_callS rfl rfl rfl rfl rfl Tryd.call35 ⟨trivial,trivial⟩ (turned_c s1 (sizeG n) (by omega) ao ac HS) fun v s2 hle2 ⟨bo,bc,hv,HT⟩=>⟨.a (.v (.slice bo (sizeG n).length bc)),trivial,hv.symm,?_⟩
      refine oj_run TT rfl ?_
      refine oj_append_sl TT 0 rfl rfl rfl rfl rfl rfl rfl HT rfl rfl rfl rfl rfl rfl rfl rfl rfl (fun r hr=>(u8Rows_all _ r hr).2.2) (by omega) (by show (o.length+1+(sizeG n).length)*1<=_;omega) fun o2 c2 hc2=>oj_run TT rfl ?_
      (repeat (first | refine oj_then ?_ | refine cj_ret ?_ | refine nj_then_ret ?_ | refine nj_block_ret ?_))
      refine nj_fret TT rfl fun β w' _ _=>?_
      have e:putG ⟨kd,b,n,s,i⟩=48::turnG (sizeG n):=by unfold putG;dsimp only;rw [if_neg h0,if_neg h1,if_pos h2,if_neg hz,if_pos hn]
      have hx:(u8Xs o++[.int .u8 48])++(u8Rows (turnG (sizeG n))).flatten.map AT.val=u8Xs o++u8Xs (48::turnG (sizeG n)):=by rw [u8Xs_flat,List.append_assoc];rfl
      have hf:=hfin _ e (k:=1+(sizeG n).length) (by rw [List.length_cons,turnG_len];omega) o2 c2 (by omega)
      rw [<-hx,<-Nat.add_assoc] at hf
      exact hf
    · have hn:n.neg=false:=hn
      (repeat (first | refine cj_seq ?_ | refine cjr TT rfl ?_ | refine oj_then ?_))
      refine cj_if rfl (fun _=>?_) (fun h=>absurd h2 (of_decide_eq_false (show decide (kd=2)=false from h)))
      (repeat refine cj_seq ?_)
      refine cj_drawB 8 [0,3,7] [(0,.loc 49,paCells ⟨kd,b,n,s,i⟩)] mixed (by kernel_rfl) rfl (subH_of (by (repeat first | exact trivial | refine ⟨rfl,?_⟩))) ?_
      refine gb_val (i:=0) TT rfl (by kernel_rfl) (by kernel_rfl) rfl rfl rfl rfl rfl ?_
      refine gb_val (i:=3) TT rfl (by kernel_rfl) (by kernel_rfl) rfl rfl rfl rfl rfl ?_
      refine gb_val (i:=4) TT rfl (by kernel_rfl) (by kernel_rfl) rfl rfl rfl rfl rfl ?_
      refine gb_one (i:=1) (by kernel_rfl) ?_
      refine gb_new TT rfl rfl rfl rfl rfl ?_
      refine gb_one (i:=2) (by kernel_rfl) ?_
      refine gb_append_lit TT 0 rfl rfl rfl rfl rfl rfl rfl rfl rfl rfl rfl rfl rfl rfl rfl rfl rfl rfl (by (repeat' (first | exact trivial | refine AllLt.of ?_ | constructor))) rfl (by omega) (by show (o.length+1)*1<=_;omega) fun o1 c1 hc1=>?_
      refine gb_order [(5,.keep),(6,.sink),(7,.pure)] rfl rfl (by kernel_rfl) ?_
      refine oj_run TT rfl ?_
      refine oj_callS rfl rfl rfl rfl rfl Tryd.call36 ⟨decCells_lt 0 n,trivial⟩ (size_c σ n hs hz) fun v s1 hle1 ⟨ao,ac,hv,HS⟩=>⟨.a (.v (.slice ao (sizeG n).length ac)),trivial,hv.symm,?_⟩
      refine oj_run TT rfl ?_
      refine oj_append_sl TT 0 rfl rfl rfl rfl rfl rfl rfl HS rfl rfl rfl rfl rfl rfl rfl rfl rfl (fun r hr=>(u8Rows_all _ r hr).2.2) (by omega) (by show (o.length+1+(sizeG n).length)*1<=_;omega) fun o2 c2 hc2=>oj_run TT rfl ?_
      (repeat (first | refine oj_then ?_ | refine cj_ret ?_ | refine nj_then_ret ?_ | refine nj_block_ret ?_))
      refine nj_fret TT rfl fun β w' _ _=>?_
      have e:putG ⟨kd,b,n,s,i⟩=50::sizeG n:=by unfold putG;dsimp only;rw [if_neg h0,if_neg h1,if_pos h2,if_neg hz,if_neg (by rw [hn];decide)]
      have hx:(u8Xs o++[.int .u8 50])++(u8Rows (sizeG n)).flatten.map AT.val=u8Xs o++u8Xs (50::sizeG n):=by rw [u8Xs_flat,List.append_assoc];rfl
      have hf:=hfin _ e (k:=1+(sizeG n).length) (by rw [List.length_cons];omega) o2 c2 (by omega)
      rw [<-hx,<-Nat.add_assoc] at hf
      exact hf
  have h2:=of_decide_eq_false (show decide (kd=2)=false from h2)
  refine oj_run TT rfl ?_
  (repeat (first | refine cj_seq ?_ | refine cjr TT rfl ?_ | refine oj_then ?_ | refine cj_if_f rfl ?_))
  refine oj_split 47 rfl (fun h=>absurd (of_decide_eq_true (show decide (kd=2)=true from h)) h2) (fun _=>?_)
  refine oj_run TT rfl ?_
  (repeat (first | refine cj_seq ?_ | refine cjr TT rfl ?_ | refine oj_then ?_ | refine cj_if_f rfl ?_))
  refine cj_if rfl (fun h=>absurd (of_decide_eq_true (show decide (kd=2)=true from h)) h2) (fun _=>?_)
  (repeat (first | refine cj_seq ?_ | refine cjr TT rfl ?_ | refine oj_then ?_))
  refine cj_if rfl (fun h3=>?_) (fun h3=>?_)
  · have h3:=of_decide_eq_true (show decide (kd=3)=true from h3)
    (repeat (first | refine cj_seq ?_ | refine cjr TT rfl ?_))
    have hel:=esc_len s.data.toList
    have hsl:s.data.toList.length=s.size:=Array.length_toList
    rw [hsl] at hel
    refine oj_append_lit TT 0 rfl rfl rfl rfl rfl rfl rfl rfl rfl rfl rfl rfl rfl rfl rfl rfl rfl rfl (by (repeat' (first | exact trivial | refine AllLt.of ?_ | constructor))) rfl (by omega) (by show (o.length+1)*1<=_;omega) fun o1 c1 hc1=>oj_run TT rfl ?_
    (repeat (first | refine cj_seq ?_ | refine cjr TT rfl ?_ | refine oj_then ?_))
    refine oj_callP rfl rfl rfl rfl rfl Tryd.call37 (by (repeat' (first | exact trivial | constructor))) (ReplaceAll_c σ m hm s hps) fun v hv=>⟨.a (.v (.string (mkB (escG s.data.toList)))),trivial,hv.symm,?_⟩
    have e:putG ⟨kd,b,n,s,i⟩=64::(escG s.data.toList++[0,0]):=by unfold putG;dsimp only;rw [if_neg h0,if_neg h1,if_neg h2,if_pos h3]
    generalize escG s.data.toList=E at *
    have hE:=mkB_size E
    refine oj_run TT rfl ?_
    refine oj_append_str TT 0 rfl rfl rfl rfl rfl rfl rfl rfl rfl rfl rfl rfl rfl rfl rfl rfl rfl (by rw [hE];omega) (by rw [hE];show (o.length+1+E.length)*1<=_;omega) fun o2 c2 hc2=>?_
    rw [hE] at hc2 ⊢
    refine oj_run TT rfl ?_
    (repeat (first | refine cj_seq ?_ | refine cjr TT rfl ?_ | refine oj_then ?_))
    refine oj_append_lit TT 0 rfl rfl rfl rfl rfl rfl rfl rfl rfl rfl rfl rfl rfl rfl rfl rfl rfl rfl (by (repeat' (first | exact trivial | refine AllLt.of ?_ | constructor))) rfl (by omega) (by show (o.length+1+E.length+2)*1<=_;omega) fun o3 c3 hc3=>oj_run TT rfl ?_
    (repeat (first | refine oj_then ?_ | refine cj_ret ?_ | refine nj_then_ret ?_ | refine nj_block_ret ?_))
    refine nj_fret TT rfl fun β w' _ _=>?_
    have hx:(u8Xs o++[.int .u8 64])++u8Xs (mkB E).data.toList++[.int .u8 0,.int .u8 0]=u8Xs o++u8Xs (64::(E++[0,0])):=by
      rw [mkB_list,show (64:UInt8)::(E++[0,0])=[64]++E++[0,0] by simp,u8Xs_append,u8Xs_append,List.append_assoc,List.append_assoc,List.append_assoc]
      rfl
    have hf:=hfin _ e (k:=1+E.length+2) (by rw [List.length_cons,List.length_append];show _=E.length+2+1;omega) o3 c3 (by omega)
    rw [<-hx,<-Nat.add_assoc,<-Nat.add_assoc] at hf
    exact hf
  have h3:=of_decide_eq_false (show decide (kd=3)=false from h3)
  (repeat (first | refine cj_seq ?_ | refine cjr TT rfl ?_ | refine cj_skip ?_ | refine nj_then ?_ | refine nj_block ?_ | (refine oj_conv TT _ rfl rfl rfl rfl rfl rfl rfl rfl rfl ?_;refine oj_run TT rfl ?_) | (refine oj_bshr rfl rfl rfl rfl rfl rfl (by decide) ?_;refine oj_run TT rfl ?_)))
  have e1:IntKind.u8.wrap (bShr .i64 i 24)=((byteOf (i / 16777216)).toNat:Int):=by rw [wrap8,shrA]
  have e2:IntKind.u8.wrap (bShr .i64 i 16)=((byteOf (i / 65536)).toNat:Int):=by rw [wrap8,shrB]
  have e3:IntKind.u8.wrap (bShr .i64 i 8)=((byteOf (i / 256)).toNat:Int):=by rw [wrap8,shr8]
  have e4:IntKind.u8.wrap i=((byteOf i).toNat:Int):=wrap8 i
  dsimp only
  rw [e1,e2,e3,e4]
  refine oj_append_lit TT 0 rfl rfl rfl rfl rfl rfl rfl rfl rfl rfl rfl rfl rfl rfl rfl rfl rfl rfl (by (repeat' (first | exact trivial | refine AllLt.of ?_ | constructor))) rfl (by omega) (by show (o.length+5)*1<=_;omega) fun o1 c1 hc1=>oj_run TT rfl ?_
  (repeat (first | refine oj_then ?_ | refine cj_ret ?_))
  refine nj_fret TT rfl fun β w' _ _=>?_
  have e:putG ⟨kd,b,n,s,i⟩=[80,byteOf (i / 16777216),byteOf (i / 65536),byteOf (i / 256),byteOf i]:=by unfold putG;dsimp only;rw [if_neg h0,if_neg h1,if_neg h2,if_neg h3]
  exact hfin _ e rfl o1 c1 hc1
end Go.Sy
