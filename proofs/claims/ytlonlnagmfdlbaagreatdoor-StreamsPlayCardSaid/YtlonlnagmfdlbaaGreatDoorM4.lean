/- Parts of the proof of CStreamsPlay: SyS, SyU, SyX, SyY, SyZ, SyEx, SyYd, SyYe, SyYa, SyYb, Au, Ja, F1, F2. No conditions. -/
import Derived.Test.YtlonlnagmfdlbaaGreatDoorM3
import Derived.Laws.IdiomStrings
import Derived.Lib.BufferRead
import Derived.Laws.Externs
import Derived.Lib.BytesEntry
import Derived.Lib.Overlaps
set_option maxRecDepth 100000
set_option maxHeartbeats 16000000
namespace Go.Sy
theorem b9.mono{σ bD:al}{E:AE}(h:b9 σ E)(hle:σ.le bD): b9 bD E:=by
 rcases h with h | ⟨g,h1,h2⟩
 ·exact .inl h
 ·exact .inr ⟨g,h1,fun j x hx=>hle.cell (h2 j x hx)⟩
section
variable {cf:Cf} {hp:HP} {β:Nat->Addr} {w w':World}
theorem dy.MI: ∀ {A:List AE} {σ:al},dy cf σ hp A β w->∃ bD,σ.le bD/\(∀(i:Nat) E,A[i]?=some E->b9 bD E)/\dy cf bD hp [] β w
 | [],σ,h=>⟨σ,al.le_refl σ,fun i E hE=>by simp at hE,h⟩
 | E::A,σ,h=>by
  obtain⟨lQ,h1,h2,h3⟩:=h.tb (i:=0) (E:=E) rfl
  obtain⟨nC,h4,h5,h6⟩:=dy.MI (A:=A) h3
  refine⟨nC,al.le_trans h1 h4,fun i F hF=>?_,h6⟩
  cases i with
  | zero =>
   simp only[bn,bf] at hF
   subst hF
   exact h2.mono h4
  | succ i=>exact h5 i F (by simpa using hF)
theorem oF.Z1{σ bD:al}{E:AE}(h:oF cf bD w E)(hn:∀ {b},bD b=none->σ b=none): oF cf σ w E:=by
 refine⟨h.1,h.2.imp id ?_⟩
 rintro⟨g,cur,h3,h4,h5,h6,h7,h8,h9,uS⟩
 exact⟨g,cur,h3,h4,h5,h6,h7,h8,hn h9,uS⟩
theorem dy.XI{σ lQ nC:al}{A A':List AE}(h:dy cf σ hp A β w)(h1:dy cf lQ hp [] β w)(hle:σ.le lQ)(h':dy ⟨cf.P,w,lQ,lL [],0,[],none⟩ nC [] A' fy w'): dy cf σ hp (A++A') β w':=by
 have t:dy cf nC hp (A'++[]) β w':=dy.through (A0:=[]) (Ar:=[]) h1 h'
 rw[aL] at t
 have hold:∀ b,b<w.heap.size->w'.heap[b]?=w.heap[b]?:=fun b hb=>h'.fr b hb (by rintro⟨E,hE,_⟩;cases hE)
 have cw:σ.le nC:=al.le_trans hle h'.le
 have hn:∀ {b},nC b=none->σ b=none:=fun hb=>al.l7 cw hb
 have iG:∀ {j:Nat} {E:AE},(A++A')[j]?=some E->(j<A.length/\A[j]?=some E)\/(A.length<=j/\A'[j - A.length]?=some E):=by
  intro j E hj
  by_cases dj:j<A.length
  ·rw[aV dj] at hj;exact .inl ⟨dj,hj⟩
  ·rw[aW Zo] at hj;exact .inr ⟨by omega,hj⟩
 have old:∀ {j:Nat} {E:AE} {b:Nat},A[j]?=some E->E.rS=some b->b<w.heap.size:=fun hE hb=>((h.arr _ _ hE).lt hb).1
 have new:∀ {j:Nat} {E:AE} {b:Nat},A'[j]?=some E->E.rS=some b->w.heap.size<=b:=by
  intro j E b hE hb
  rcases((h'.arr _ _ hE).lt hb).2.2 with h1 | ⟨F,hF,_⟩
  ·exact h1
  ·cases hF
 refine⟨t.os,t.tape,t.output,t.size,t.fr,fun b o hb=>t.cQ b o (cw b o hb),h.le,h.grow,fun i e cs hi=>?_,h.ro,h.inj,fun i E hE=>?_,fun i j E F hE hF iP g hg=>?_,fun i j E e cs hE hj=>?_⟩
 ·obtain⟨q1,q2,q3,q4⟩:=t.loc i e cs hi
  exact⟨q1,q2,hn q3,q4⟩
 ·rcases iG hE with⟨_,hE⟩ | ⟨_,hE⟩
  ·exact(h.arr i E hE).dP fun g hg=>hold g (old hE hg)
  ·exact(t.arr _ E hE).Z1 hn
 ·rcases iG hE with⟨_,hE⟩ | ⟨_,hE⟩<;>rcases iG hF with⟨_,hF⟩ | ⟨_,hF⟩
  ·exact h.iR i j E F hE hF iP g hg
  ·intro hc
   have:=old hE hg
   have:=new hF hc
   omega
  ·intro hc
   have:=new hE hg
   have:=old hF hc
   omega
  ·exact t.iR _ _ E F hE hF Zo g hg
 ·rcases iG hE with⟨_,hE⟩ | ⟨_,hE⟩
  ·exact h.iL i j E e cs hE hj
  ·exact t.iL _ j E e cs hE hj
end
theorem Un.XR{P:Program}{f:FuncId}{args:Array Value}{σ:al}{Φ:Value->al->Prop}(h:qW P f args σ Φ): Un P f args σ [] (fun v bD A'=>Φ v bD/\A'=[]):=by
 intro w hw
 refine Calls.mono (h w hw.cQ) fun e w' ⟨v,bD,he,h1,h2,h3,h4⟩=>?_
 rw[yf]
 refine⟨v,bD,he,h1,h2,h3,[],⟨h4,rfl⟩,?_⟩
 rw[yf]
 exact(dy.start (M:=fun _=>False) hw.cQ fy).after h1 h2 h3
section
variable {cf:Cf} {Q:Exit->Act->World->Prop} {σ:al} {env:Env} {hp:HP} {A:List AE} {nh:Nat} {it:Item} {rest:List Item}
theorem I0{d:Nat}{f:FuncId}{ys:List SV}{Φ:Value->List AE->Prop}(hc:callee env it.o.op=some (f,ys))(hd:it.o.dst=some d)(hg:bt it.guard env=some true)(hN:Nat.blt d cf.N=true)(ec:iV it.tag=true)(gm:∀ args w,(callFunc f args).run cf.P w=.ok (.enter f args) w)(dj:jj ys)(hC:∀ bD,σ.le bD->(∀(i:Nat) E,A[i]?=some E->b9 bD E)->pV cf.P f ys bD [] (fun v _ A'=>Φ v A'))(k:∀ v A',Φ v A'->∃ y:SV,y.lt 0/\y.den fy=v/\OJ cf rest Q σ ((d,y)::env) hp (A++A') nh): OJ cf (it::rest) Q σ env hp A nh:=by
 refine⟨fun hb a β ha hex=>?_⟩
 have sx:d<cf.N:=by simpa[fD] using hN
 have pQ:∀ {y:SV},y.lt 0->y.den β=y.den fy:=fun hy=>SV.dM (n:=0) (fun i hi=>by omega) hy
 have fi:(ys.map (SV.den β)).toArray=(ys.map (SV.den fy)).toArray:=by
  rw[cY fun y hy=>pQ (dj.of y hy)]
 have key:∀ w,dy cf σ hp A β w->∀ Q',it.o.wq cf.P a w (fun a' w'=>∃ E' S':World->Prop,S' w'/\(∀ x,S' x->E' x)/\RunT cf.P Q rest E' S' a') Q':=by
  intro w hw Q'
  obtain⟨lQ,hle,hS,KD⟩:=hw.MI
  have AO:dy cf lQ hp ([]++[]) β w:=KD
  unfold Oper.wq
  rw[oX ha hc gm]
  simp only[Oper.uponIn]
  rw[fi]
  refine⟨fun h=>(by cases h),CallsIn.mono (jW.2 (hC lQ hle hS w AO.GQ)) fun e w' ⟨v,bD,he,h1,h2,h3,A',h4,h5⟩=>?_⟩
  subst he
  obtain⟨y,hy,Jx,hk⟩:=k v A' h4
  have gQ:=hw.XI KD hle h5
  refine⟨_,_,gQ,fun _ h=>h,?_⟩
  have:=hk.run (hb.put (SV.eT (ay _) hy) d) (a.put (some d) (y.den β)) β (ha.put sx y) ⟨_,gQ⟩
  rw[hd,<-Jx,<-pQ hy]
  exact this
 simp only[RunT]
 rw[au (da ha hg)]
 cases kL:it.tag with
 | pure=>rw[kL] at ec;cases ec
 | quiet=>rw[kL] at ec;cases ec
 | dP=>rw[kL] at ec;cases ec
 | sink=>exact fun w hw=>key w hw _
 | free=>exact fun w hw=>key w hw _
theorem uB{d:Nat}{f:FuncId}{ys:List SV}{Φ:Value->Prop}(hc:callee env it.o.op=some (f,ys))(hd:it.o.dst=some d)(hg:bt it.guard env=some true)(hN:Nat.blt d cf.N=true)(ec:iV it.tag=true)(gm:∀ args w,(callFunc f args).run cf.P w=.ok (.enter f args) w)(dj:jj ys)(hC:∀ bD,σ.le bD->(∀(i:Nat) E,A[i]?=some E->b9 bD E)->bZ cf.P f ys bD Φ)(k:∀ v,Φ v->∃ y:SV,y.lt 0/\y.den fy=v/\OJ cf rest Q σ ((d,y)::env) hp A nh): OJ cf (it::rest) Q σ env hp A nh:=by
 refine I0 (Φ:=fun v A'=>Φ v/\A'=[]) hc hd hg hN ec gm dj (fun bD h1 h2=>Un.XR (hC bD h1 h2)) fun v A' ⟨h1,h2⟩=>?_
 subst h2
 rw[aL]
 exact k v h1
theorem yX{d:Nat}{x y:Operand}{xt yt:TypeId}{s t:ByteArray}(fL:it.o.op=.binOp .add xt x y yt)(hd:it.o.dst=some d)(hg:bt it.guard env=some true)(hN:Nat.blt d cf.N=true)(hx:bP env x=some (.a (.v (.string s))))(hy:bP env y=some (.a (.v (.string t))))(hb:s.size+t.size<=9223372036854775807)(hk:OJ cf rest Q σ ((d,.a (.v (.string (s++t))))::env) hp A nh): OJ cf (it::rest) Q σ env hp A nh:=by
 refine jB (.a (.v (.string (s++t)))) hd hg hN trivial (fun _ a β ha w=>?_) hk
 have h1:a.eval x=.string s:=aD ha hx
 have h2:a.eval y=.string t:=aD ha hy
 have h3:¬ ((s.size+t.size:Nat):Int) > IntKind.i64.max:=by
  show ¬ ((s.size+t.size:Nat):Int) > 9223372036854775807
  omega
 simp only[execOp,fL,h1,h2]
 rw[Sem.run_bind]
 have:∀ P:Program,(do eqGuard .add xt x y (.string s) (.string t);binOp .add xt (.string s) (.string t):Sem Value).run P w=.ok (.string (s++t)) w:=by
  intro P
  simp only[eqGuard,binOp,Op.stringOp,ai h3,Sem.run_bind,Sem.run_pure]
  rfl
 rw[this]
 rfl
end
end Go.Sy
namespace Go.Sy
structure GJ (cf:Cf) (ops:Array Oper) (U je:List Nat) (n:Nat) (listed:Array Bool) (fst:Bool) (Q:Exit->Act->World->Prop) (σ:al) (env:Env) (hp:HP) (A:List AE) (nh:Nat):Prop where
 run:Region.noSelect ops=true->Bd env hp nh->∀ a β,nc cf env β a->(∃ w,dy cf σ hp A β w)->mO ops listed->∀ E0:World->Prop,(∀ x,dy cf σ hp A β x->E0 x) ->
  (fst=true->∀ x,E0 x->dy cf σ hp A β x)->qw cf.P ops U Q n listed a E0 (fun w=>dy cf σ hp A β w)
structure GK (cf:Cf) (ops:Array Oper) (U je:List Nat) (n:Nat) (listed:Array Bool) (j:Nat) (Q:Exit->Act->World->Prop) (σ:al) (env:Env) (hp:HP) (A:List AE) (nh:Nat):Prop where
 run:Region.noSelect ops=true->Bd env hp nh->∀ a β,nc cf env β a->(∃ w,dy cf σ hp A β w)->mO ops listed->j∈Region.ready .any ops listed->∀ E0:World->Prop,(∀ x,dy cf σ hp A β x->E0 x) ->
  ly cf.P ops U Q j (qw cf.P ops U Q n (listed.setIfInBounds j true)) a E0 (fun w=>dy cf σ hp A β w)
section
variable {cf:Cf} {Q:Exit->Act->World->Prop} {σ:al} {env:Env} {hp:HP} {A:List AE} {nh:Nat} {ops:Array Oper} {U je:List Nat} {n:Nat} {listed:Array Bool} {fst:Bool}
theorem sJ{id:Nat}(m:Nat)(U:List Nat)(hm:cf.P.follows .mixedOrders=true)(hs:Region.noSelect ops=true)(hn:ops.size=m)(h:GJ cf ops U [] m (Array.replicate m false) true Q σ env hp A nh)(hd:AL cf.rd ops=true:=by rfl): CJ cf (.region id ops true) Q σ env hp A nh:=by
 subst hn
 refine⟨fun hb a β w ha hw=>wpIn_region_any hm ?_⟩
 have hc:mO ops (Array.replicate ops.size false):=⟨by simp,fun j oj _ hl=>by
  exfalso
  rcases lV j ops.size with h | h
  ·simp[h] at hl
  ·simp[h] at hl⟩
 exact mn (xK hd) _ _ _ _ _ _ hw.drew (h.run hs hb a β ha ⟨_,hw⟩ hc _ (fun _ h=>h) (fun _ _ h=>h))
theorem NB{i d:Nat}{o:Oper}(y:SV)(hi:ops[i]?=some o)(hr:(Region.ready .any ops listed).contains i=true)(hf:Region.free .any ops listed i=true)(hk:(U.contains i||fst)=true)(hd:o.dst=some d)(hg:bt (j9 ops o) env=some true)(hN:Nat.blt d cf.N=true)(dj:y.lt nh)(ed:Bd env hp nh->∀ a β,nc cf env β a->∀ w,(U.contains i=false->dy cf σ hp A β w)->(execOp a.eval o).run cf.P w=.ok (.value (y.den β)) w)(k:GJ cf ops U (je++[i]) n (listed.setIfInBounds i true) fst Q σ ((d,y)::env) hp A nh): GJ cf ops U je (n+1) listed fst Q σ env hp A nh:=by
 refine⟨fun hs hb a β ha hex hc E0 hE hF=>?_⟩
 have sx:d<cf.N:=by simpa[fD] using hN
 have uo:i∈Region.ready .any ops listed:=by simpa using hr
 have hw:Region.wanted o (yielded ops a.tmps)=true:=by rw[<-fI];exact da ha hg
 have mS:=k.run hs (hb.put dj d) _ β (ha.put sx y) hex (hc.set uo) E0 hE hF
 refine k7 hi (Region.noSelect_spec hs) n listed a E0 _ hc hE (Region.free_spec hi hf) uo ⟨.inl ⟨hw,fun w x5=>.inl ?_⟩,fun hu=>.inl ⟨hw,fun w _=>.inl ?_⟩⟩ (by rw[hd];exact mS)
 ·refine ed hb a β ha w fun hu=>?_
  rw[hu,Bool.false_or] at hk
  exact hF hk w x5
 ·exact ed hb a β ha w fun hu'=>absurd (jP.2 hu) (by rw[hu'];simp)
theorem gw{i d:Nat}{o:Oper}{T:List (Nat×TI)}(hT:cu cf.P T){x:SV}(hi:ops[i]?=some o)(hr:(Region.ready .any ops listed).contains i=true)(hf:Region.free .any ops listed i=true)(hk:(bif U.contains i then !zi o.op else fst)=true)(hd:o.dst=some d)(hg:bt (j9 ops o) env=some true)(hN:Nat.blt d cf.N=true)(h:ev T o.op env hp nh=some (.val x))(k:GJ cf ops U (je++[i]) n (listed.setIfInBounds i true) fst Q σ ((d,x)::env) hp A nh): GJ cf ops U je (n+1) listed fst Q σ env hp A nh:=by
 refine⟨fun hs hb a β ha hex hc E0 hE hF=>?_⟩
 have hx:x.lt nh:=(k9 (o:=o) hT ha hb h).1
 refine(NB x hi hr hf ?_ hd hg hN hx (fun hb a β ha w hw=>?_) k).run hs hb a β ha hex hc E0 hE hF
 ·cases hu:U.contains i<;>rw[hu] at hk
  ·simpa using hk
  ·rfl
 ·refine(k9 (o:=o) hT ha hb h).2 w fun hl=>⟨σ,A,hw ?_⟩
  cases hu:U.contains i with
  | false=>rfl
  | true=>rw[hu,cond_true,hl] at hk;cases hk
theorem NC(js:List Nat)(hr:(Region.ready .any ops listed == js)=true)(jv:js.isEmpty=false)(k:∀ j,j∈js->GK cf ops U je n listed j Q σ env hp A nh): GJ cf ops U je (n+1) listed fst Q σ env hp A nh:=by
 refine⟨fun hs hb a β ha hex hc E0 hE hF=>?_⟩
 have uo:=eq_of_beq hr
 refine⟨fun h0=>?_,fun j hj=>(k j (by rw[<-uo];exact hj)).run hs hb a β ha hex hc hj E0 hE⟩
 rw[uo] at h0
 subst h0
 cases jv
theorem qM{i j:Nat}(hr:(Region.ready .any ops listed == [i,j])=true)(ki:GK cf ops U je n listed i Q σ env hp A nh)(kj:GK cf ops U je n listed j Q σ env hp A nh): GJ cf ops U je (n+1) listed fst Q σ env hp A nh :=
 NC [i,j] hr rfl fun m hm=>by
  simp only[bM,dA,or_false] at hm
  rcases hm with rfl | rfl
  ·exact ki
  ·exact kj
theorem oa{j d:Nat}{o:Oper}{f:FuncId}{ys:List SV}{Φ:Value->al->Prop}(hj:ops[j]?=some o)(hc:callee env o.op=some (f,ys))(hd:o.dst=some d)(hg:bt (j9 ops o) env=some true)(hN:Nat.blt d cf.N=true)(gm:∀ args w,(callFunc f args).run cf.P w=.ok (.enter f args) w)(dj:jj ys)(hC:fa cf.P f ys σ Φ)(k:∀ v bD,σ.le bD->Φ v bD->∃ y:SV,y.lt 0/\y.den fy=v/\GJ cf ops U (je++[j]) n (listed.setIfInBounds j true) false Q bD ((d,y)::env) hp A nh): GK cf ops U je n listed j Q σ env hp A nh:=by
 refine⟨fun hs hb a β ha hex nZ hr E0 hE=>?_⟩
 have sx:d<cf.N:=by simpa[fD] using hN
 have pQ:∀ {y:SV},y.lt 0->y.den β=y.den fy:=fun hy=>SV.dM (n:=0) (fun i hi=>by omega) hy
 have fi:(ys.map (SV.den β)).toArray=(ys.map (SV.den fy)).toArray:=by
  rw[cY fun y hy=>pQ (dj.of y hy)]
 have oB:Region.wanted o (yielded ops a.tmps)=true:=by rw[<-fI];exact da ha hg
 unfold ly
 simp only[hj]
 rw[au oB]
 intro w hw
 unfold Oper.wq
 rw[oX ha hc gm]
 simp only[Oper.uponIn]
 rw[fi]
 refine⟨fun h=>(by cases h),CallsIn.mono (jW.2 (hC w hw.cQ)) fun e w' ⟨v,bD,he,h1,h2,h3,h4⟩=>?_⟩
 subst he
 have gQ:=hw.after h1 h2 h3
 have qY:∀ {b},bD b=none->σ b=none:=fun hb=>al.l7 h2.le hb
 have gR:∀ x,dy cf bD hp A β x->dy cf σ hp A β x:=by
  intro x hx
  refine⟨hx.os,hx.tape,hx.output,hx.size,hx.fr,fun b o hb=>hx.cQ b o (h2.le b o hb),hw.le,hw.grow,fun i e cs hi=>?_,hw.ro,hx.inj,fun i E hE=>(hx.arr i E hE).Z1 qY,hx.iR,hx.iL⟩
  obtain⟨q1,q2,q3,q4⟩:=hx.loc i e cs hi
  exact⟨q1,q2,qY q3,q4⟩
 obtain⟨y,hy,Jx,hk⟩:=k v bD h2.le h4
 refine⟨E0,_,gQ,fun x hx=>hE x (gR x hx),.inl fun _ h=>h,?_⟩
 have:=hk.run hs (hb.put (SV.eT (ay _) hy) d) (a.put (some d) (y.den β)) β (ha.put sx y) ⟨_,gQ⟩ (nZ.set hr) E0 (fun x hx=>hE x (gR x hx)) (fun h=>by cases h)
 rw[hd,<-Jx,<-pQ hy]
 exact this
theorem n9{j d:Nat}{o:Oper}{T:List (Nat×TI)}(hT:cu cf.P T){e:TypeId}{cs:List AT}{x:AT}(hj:ops[j]?=some o)(h:ev T o.op env hp nh=some (.new e cs x))(hd:o.dst=some d)(hg:bt (j9 ops o) env=some true)(hN:Nat.blt d cf.N=true)(k:GJ cf ops U (je++[j]) n (listed.setIfInBounds j true) false Q σ ((d,.a x)::env) ((nh,.loc e,cs)::hp) A (nh+1)): GK cf ops U je n listed j Q σ env hp A nh:=by
 refine⟨fun hs hb a β ha hex nZ hr E0 hE=>?_⟩
 have sx:d<cf.N:=by simpa[fD] using hN
 have oB:Region.wanted o (yielded ops a.tmps)=true:=by rw[<-fI];exact da ha hg
 obtain⟨lY,hx,ed⟩:=k9 (o:=o) hT ha hb h
 have pa:(SV.a x).lt (nh+1):=by
  rcases hx with rfl | ⟨n,rfl⟩<;>exact db nh
 unfold ly
 simp only[hj]
 rw[au oB]
 intro w hw
 unfold Oper.wq
 rw[ed w]
 have gQ:=hw.alloc (e:=e) hb lY
 have jF:=mu β nh w
 have sQ:∀ {i k l},hp.get i=some (k,l)->HP.get ((nh,HK.loc e,cs)::hp) i=some (k,l):=by
  intro i k l hi
  have dj:=(hb.hp i k l hi).1
  rw[HP.ee,ai Zo]
  exact hi
 have Nb:∀ w',dy cf σ ((nh,.loc e,cs)::hp) A (Qn β nh w) w'->dy cf σ hp A β w':=by
  intro w' s
  refine⟨s.os,s.tape,s.output,s.size,s.fr,s.cQ,s.le,s.grow,fun i e' l hi=>?_,fun i l hi j c hc=>?_,fun i j e1 e2 l1 l2 hi hj heq=>?_,s.arr,s.iR,fun i j E e' l hE hj=>?_⟩
  ·obtain⟨dj,hl⟩:=hb.hp i _ l hi
   have:=s.loc i e' l (sQ hi)
   rw[jF i dj,AT.jU jF hl] at this
   exact this
  ·obtain⟨dj,hl⟩:=hb.hp i _ l hi
   have:=s.ro i l (sQ hi) j c hc
   rw[jF i dj,AT.dM jF (hl c (aC hc))] at this
   exact this
  ·have h1:=(hb.hp i _ l1 hi).1
   have h2:=(hb.hp j _ l2 hj).1
   exact s.inj i j e1 e2 l1 l2 (sQ hi) (sQ hj) (by rw[jF i h1,jF j h2];exact heq)
  ·have h1:=(hb.hp j _ l hj).1
   have:=s.iL i j E e' l hE (sQ hj)
   rw[jF j h1] at this
   exact this
 refine⟨E0,_,gQ,fun x hx=>hE x (Nb x hx),.inl fun _ h=>h,?_⟩
 rw[hd]
 exact k.run hs ((hb.mono (kT nh)).row (db nh) (fun c hc=>AT.eT (kT nh) (lY c hc)) |>.put pa d) _ (Qn β nh w) ((ha.congr hb jF).put sx (.a x)) ⟨_,gQ⟩ (nZ.set hr) E0 (fun x hx=>hE x (Nb x hx)) (fun h=>by cases h)
theorem iy(l:List (Nat×Tag))(hl:(l.all fun p=>decide (p.1<ops.size))=true)(hq:vw (qe ops l)=true)(ho:jh ops U je l listed=true)(h:OJ cf (qe ops l) Q σ env hp A nh):
  GJ cf ops U je l.length listed fst Q σ env hp A nh:=by
 refine⟨fun hs hb a β ha hex hc E0 hE _=>?_⟩
 have:=sa hE _ _ a hq (h.run hb a β ha hex)
 exact kF hs l je listed a E0 _ hc hE (fun p hp=>by simpa using dc.1 hl p hp) ho this
end
end Go.Sy
namespace Go.Sy
section
variable {cf:Cf} {Q:Exit->Act->World->Prop} {σ:al} {env:Env} {hp:HP} {A:List AE} {nh:Nat} {it:Item} {rest:List Item}
theorem yJ{len cap l h m:Nat}{k1 k2 k3:IntKind}(hl:l<=h)(hh:h<=m)(hm:m<=cap)(P:Program)(w:World):
  (Instr.sliceBounds true len cap (some (.int k1 (l:Int))) (some (.int k2 (h:Int))) (some (.int k3 (m:Int)))).run P w=.ok (l,h,m) w:=by
 simp[Instr.sliceBounds,Instr.sliceBound,asIntOf,hh,hl,hm]
theorem yY{d:Nat}{x lo hi mx:Operand}{k1 k2 k3:IntKind}{i1 i2 i3:Int}{t e:TypeId}{T:List (Nat×TI)}(hT:cu cf.P T){ti te:TI}{ao:Option Addr}{n cap:Nat}(l h m:Nat)(fL:it.o.op=.slice t x (some lo) (some hi) (some mx))(hd:it.o.dst=some d)(hg:bt it.guard env=some true)(hN:Nat.blt d cf.N=true)(hx:bP env x=some (.a (.v (.slice ao n cap))))(tA:bP env lo=some (.a (.v (.int k1 i1))))(yy:bP env hi=some (.a (.v (.int k2 i2))))(hmx:bP env mx=some (.a (.v (.int k3 i3))))(ht:eX T t=some ti)(xi:ti.kind=.slice e)(qf:eX T e=some te)(e1:i1=(l:Int))(e2:i2=(h:Int))(e3:i3=(m:Int))(VB:l<=h)(hhm:h<=m)(Yq:m<=cap)(k:OJ cf rest Q σ ((d,.a (.v (.slice (if m=l then ao else ao.map (·.add (l*te.size))) (h - l) (m - l))))::env) hp A nh): OJ cf (it::rest) Q σ env hp A nh:=by
 subst e1 e2 e3
 refine jB _ hd hg hN (by trivial) (fun _ a β ha w=>?_) k
 obtain⟨i2,d2,z2,mR⟩:=bK (hT _ _ ht)
 obtain⟨i3,d3,z3,lh⟩:=bK (hT _ _ qf)
 have h1:=mR.kind
 have Bn:cf.P.underlying t=some (.slice e):=by
  rw[xi] at h1
  have h2:=mR.qx
  cases d2<;>first
   | (simp only[fx,TK.slice.injEq] at h1;subst h1;exact h2)
   | (simp only[fx] at h1;cases h1)
 have h2:a.eval x=.slice ao n cap:=aD ha hx
 have h3:a.eval lo=.int k1 (l:Int):=aD ha tA
 have h4:a.eval hi=.int k2 (h:Int):=aD ha yy
 have h5:a.eval mx=.int k3 (m:Int):=aD ha hmx
 simp only[execOp,fL,h2,h3,h4,h5,Option.map_some,Instr.sliceAt,Instr.slice,Sem.run_bind,run_underlying Bn,Result.andThen_ok,yJ VB hhm Yq,gO lh.info,lh.size,Sem.run_pure]
 rfl
theorem rM{d:Nat}{s x:Operand}{t u e:Nat}{T:List (Nat×TI)}(hT:cu cf.P T){ti tu te:TI}(i:Nat){E:AE}{g:Nat}{xo:Option Addr}{xc:Nat}(p q:Nat)(fL:og it.o.op=some (s,x,t,u))(hd:it.o.dst=some d)(hg:bt it.guard env=some true)(hN:Nat.blt d cf.N=true)(Bo:iV it.tag=true)(hs:bP env s=some (.a (.v (.slice (some ⟨g,0,none⟩) p E.cap))))(hx:bP env x=some (.a (.v (.slice xo (E.n - q) xc))))(hA:A[i]?=some E)(hE:E.ao=some ⟨g,0,none⟩)(hEe:E.e=e)(Vx:p<=q)(hqn:q<=E.n)(Ni:q=E.n\/xo=some ⟨g,q*te.size,none⟩)(vF:xo.isSome=true)(ht:eX T t=some ti)(vU:ti.kind=.slice e)(hu:eX T u=some tu)(O7:sZ tu.kind=true)(qf:eX T e=some te)(jZ:E.sz=te.size)(mU:∀ v∈E.xs,v.oneCell'=true)(hk:OJ cf rest Q σ ((d,.a (.v (.slice (some ⟨g,0,none⟩) (p+(E.n - q)) E.cap)))::env) hp (A.set i ⟨E.ao,p+(E.n - q),E.cap,E.e,E.sz,E.xs.take (p*E.sz)++E.xs.drop (q*E.sz)⟩) nh): OJ cf (it::rest) Q σ env hp A nh:=by
 subst hEe
 refine pZ hd hg hN Bo fun hb a β ha w hw=>?_
 obtain⟨i1,d1,z1,m1⟩:=bK (hT _ _ ht)
 obtain⟨i2,d2,z2,mR⟩:=bK (hT _ _ hu)
 obtain⟨i3,d3,z3,lh⟩:=bK (hT _ _ qf)
 have tZ:cf.P.underlying t=some (.slice E.e):=by
  have h1:=m1.kind
  rw[vU] at h1
  have h2:=m1.qx
  cases d1<;>first
   | (simp only[fx,TK.slice.injEq] at h1;subst h1;exact h2)
   | (simp only[fx] at h1;cases h1)
 have yu:a.eval x=.slice xo (E.n - q) xc:=aD ha hx
 have Ep:a.eval s=.slice (some ⟨g,0,none⟩) p E.cap:=aD ha hs
 have x5:=hw.arr i E hA
 obtain⟨xa,rfl⟩:∃ xa,xo=some xa:=by cases xo with | none=>cases vF | some xa=>exact⟨xa,rfl⟩
 rcases x5.2 with h1 | ⟨g',cur,h3,bU,Fx,Qf,lY,mi,qY,tw⟩
 ·rw[h1.1] at hE;cases hE
 rw[hE] at h3
 injection h3 with h3
 simp only[Addr.mk.injEq,and_true] at h3
 subst h3
 have pa:E.xs.length=E.n*E.sz:=x5.1
 have hqs:q*E.sz<=E.n*E.sz:=cn _ hqn
 have ou:p*E.sz<=q*E.sz:=cn _ Vx
 have ar3:E.n*E.sz<=E.cap*E.sz:=cn _ Fx
 have DW:(E.xs.drop (q*E.sz)).length=(E.n - q)*E.sz:=by rw[bm,pa,Nat.sub_mul]
 have uc:p+(E.n - q)<=E.cap:=by omega
 have KF:(Builtin.firstCells E.sz (E.n - q) (.slice (some xa) (E.n - q) xc)).run cf.P w=.ok (E.xs.drop (q*E.sz)).toArray w:=by
  refine run_firstCells_some (P:=cf.P) w E.sz (E.n - q) xa (E.n - q) xc _ DW fun j v hv=>?_
  have hj:=(ah.1 hv).1
  rcases Ni with hq | hq
  ·rw[DW,hq,fM,Nat.zero_mul] at hj
   omega
  ·injection hq with hq
   subst hq
   rw[fF] at hv
   have:=x5.cell hE hv
   rw[jZ] at this
   rw[Addr.add_lit]
   exact this
 have hm:(E.n - q)*E.sz=E.n*E.sz - q*E.sz:=Nat.sub_mul _ _ _
 have WV:(p+(E.n - q))*E.sz=p*E.sz+(E.n - q)*E.sz:=eC _ _ _
 have pL:=run_storeCells_at cf.P g (p*E.sz) E.e (E.xs.drop (q*E.sz)) 0 cur w bU (by rw[DW,lY];omega) (fun v hv=>mU v (fZ hv))
 simp only[eM] at pL
 have nZ:cur.toList.length=E.cap*E.sz:=by rw[cZ,lY]
 refine⟨.a (.v (.slice (some ⟨g,0,none⟩) (p+(E.n - q)) E.cap)),σ,hp,_,nh,_,β,?_,ha,hb.put (x:=.a (.v (.slice (some ⟨g,0,none⟩) (p+(E.n - q)) E.cap))) trivial d,
  hw.wG (E':=⟨E.ao,p+(E.n - q),E.cap,E.e,E.sz,E.xs.take (p*E.sz)++E.xs.drop (q*E.sz)⟩) (qP:=(cur.toList.take (p*E.sz)++E.xs.drop (q*E.sz)++cur.toList.drop (p*E.sz+(E.xs.drop (q*E.sz)).length)).toArray) hA hE bU Z Z Z Z uc ?_ ?_ ?_,hk⟩
 ·refine lq fL ?_
  rw[Ep,yu]
  have hlen:∀ w',(Builtin.lenOf (.slice (some xa) (E.n - q) xc)).run cf.P w'=.ok (E.n - q) w':=fun _=>rfl
  rcases oJ (d:=d2) (by rw[mR.kind];exact O7) with⟨e',rfl⟩ | rfl<;>(
   simp only[Builtin.append_,eE,bn,bg,Sem.run_bind,run_underlying tZ,Result.andThen_ok,gO lh.info,lh.size,<-jZ,run_underlying mR.qx,dI,if_false,hlen,uc,if_true,Bool.not_false,KF,Sem.run_pure,jM,pL]
   rfl)
 ·dsimp only
  rw[af,DW,aE,pa,gA Zo,WV]
 ·dsimp only
  simp only[fw,af,aE,bm,nZ,pa]
  omega
 ·dsimp only
  rw[WV,<-DW]
  have e1:cur.toList.take (p*E.sz)=E.xs.take (p*E.sz):=by
   rw[<-mi,kc,gA Zo]
  rw[e1]
  have e2:p*E.sz+(E.xs.drop (q*E.sz)).length=(E.xs.take (p*E.sz)++E.xs.drop (q*E.sz)).length:=by
   rw[af,aE,pa,gA Zo]
  rw[e2]
  exact ke
def G4:Op->Option (Operand×TypeId)
 | .call c =>
  match c.callee,c.args.toList,c.argTypes.toList with
  | .builtin .clear,[x],[t]=>some (x,t)
  | _,_,_=>none
 | _=>none
theorem Ax{o:Oper}{x:Operand}{t:TypeId}(h:G4 o.op=some (x,t)){P:Program}{a:Act}{w w':World}{v:Value}(hr:(Builtin.clear_ #[t] o.type #[a.eval x]).run P w=.ok v w'): (execOp a.eval o).run P w=.ok (.value v) w':=by
 unfold G4 at h
 split at h
 ·rename_i c fL
  split at h
  ·rename_i x' t' su fi tv
   injection h with h
   simp only[cC] at h
   obtain⟨rfl,rfl⟩:=h
   have e1:c.args=#[x']:=by
    cases hq:c.args with
    | mk l=>rw[hq] at fi;simp only at fi;rw[fi]
   have e2:c.argTypes=#[t']:=by
    cases hq:c.argTypes with
    | mk l=>rw[hq] at tv;simp only at tv;rw[tv]
   simp only[execOp,fL,resolve,su,e1,e2,invoke,builtin,Sem.run_bind,Sem.run_pure,Result.andThen_ok,kY,bx,gi,hr]
  ·cases h
 ·cases h
theorem Eh{z:Array Value}{n:Nat}{v:Value}(h:v∈(Builtin.zeroCells z n).toList): v∈z.toList:=by
 unfold Builtin.zeroCells at h
 rw[Array.toList_map,bL] at h
 obtain⟨i,hi,rfl⟩:=h
 rw[Array.mem_toList_iff,Array.mem_range] at hi
 have hz:0<z.size:=by
  rcases nd z.size with h0 | h0
  ·rw[h0,Nat.mul_zero] at hi;omega
  ·exact h0
 have dj:=Nat.mod_lt i hz
 rw[getElem!_pos z (i % z.size) dj]
 exact Array.mem_toList_iff.2 (Array.getElem_mem dj)
theorem o9{x:Operand}{t e:Nat}{T:List (Nat×TI)}(hT:cu cf.P T){ti te:TI}(i:Nat){E:AE}{g:Nat}{xo:Option Addr}{m xc:Nat}(q:Nat)(fL:G4 it.o.op=some (x,t))(hd:it.o.dst=none)(hg:bt it.guard env=some true)(Bo:iV it.tag=true)(hx:bP env x=some (.a (.v (.slice xo m xc))))(hA:A[i]?=some E)(hE:E.ao=some ⟨g,0,none⟩)(hEe:E.e=e)(hq:E.n<=q)(hqm:q+m<=E.cap)(Ni:m=0\/xo=some ⟨g,q*te.size,none⟩)(ht:eX T t=some ti)(vU:ti.kind=.slice e)(qf:eX T e=some te)(jZ:E.sz=te.size)(Jw:te.zero.length=te.size)(hzo:te.zero.all AT.one=true)(k:OJ cf rest Q σ env hp A nh): OJ cf (it::rest) Q σ env hp A nh:=by
 subst hEe
 refine⟨fun hb a β ha hex=>?_⟩
 have key:∀ w,dy cf σ hp A β w->∀ Q',it.o.wq cf.P a w (fun a' w'=>∃ E' S':World->Prop,S' w'/\(∀ x,S' x->E' x)/\RunT cf.P Q rest E' S' a') Q':=by
  intro w hw Q'
  obtain⟨i1,d1,z1,m1⟩:=bK (hT _ _ ht)
  obtain⟨i3,d3,z3,lh⟩:=bK (hT _ _ qf)
  have tZ:cf.P.underlying t=some (.slice E.e):=by
   have h1:=m1.kind
   rw[vU] at h1
   have h2:=m1.qx
   cases d1<;>first
    | (simp only[fx,TK.slice.injEq] at h1;subst h1;exact h2)
    | (simp only[fx] at h1;cases h1)
  have yu:a.eval x=.slice xo m xc:=aD ha hx
  have x5:=hw.arr i E hA
  rcases x5.2 with h1 | ⟨g',cur,h3,bU,Fx,Qf,lY,mi,qY,tw⟩
  ·rw[h1.1] at hE;cases hE
  rw[hE] at h3
  injection h3 with h3
  simp only[Addr.mk.injEq,and_true] at h3
  subst h3
  rcases nd m with hm0 | hmp
  ·subst hm0
   have ed:(execOp a.eval it.o).run cf.P w=.ok (.value (.tuple #[])) w:=by
    refine Ax fL ?_
    rw[yu]
    cases xo<;>simp only[Builtin.clear_,eE,bn,Sem.run_bind,run_underlying tZ,Result.andThen_ok,Sem.run_pure]
   unfold Oper.wq
   rw[ed]
   refine⟨_,_,hw,fun _ h=>h,?_⟩
   rw[hd]
   exact k.run hb a β ha ⟨_,hw⟩
  ·have Ni:=Ni.resolve_left Zo
   subst Ni
   have Hr:z3.cells.size=E.sz:=by
    have:=zero_den lh β
    rw[<-this,jZ]
    simp[Jw]
   have ac2:∀ v∈z3.cells.toList,v.oneCell'=true:=fun v hv=>by
    have:=zero_den lh β
    rw[<-this] at hv
    simp only[bL] at hv
    obtain⟨c,hc,rfl⟩:=hv
    exact AT.one_den β (dc.1 hzo c hc)
   have X3:(Builtin.zeroCells z3.cells m).toList.length=m*E.sz:=by rw[cZ,size_zeroCells,Hr]
   have hle:q*E.sz+m*E.sz<=E.cap*E.sz:=by rw[<-eC];exact cn _ hqm
   have hnq:E.n*E.sz<=q*E.sz:=cn _ hq
   have pL:=run_storeCells_at cf.P g (q*E.sz) E.e (Builtin.zeroCells z3.cells m).toList 0 cur w bU (by rw[X3,lY];omega) (fun v hv=>ac2 v (Eh hv))
   simp only[eM] at pL
   have nZ:cur.toList.length=E.cap*E.sz:=by rw[cZ,lY]
   have ed:(execOp a.eval it.o).run cf.P w=.ok (.value (.tuple #[])) (w.setRow g (cur.toList.take (q*E.sz)++(Builtin.zeroCells z3.cells m).toList++cur.toList.drop (q*E.sz+(Builtin.zeroCells z3.cells m).toList.length)).toArray):=by
    refine Ax fL ?_
    rw[yu]
    obtain⟨m',rfl⟩:∃ m',m=m'+1:=⟨m - 1,by omega⟩
    rw[<-jZ]
    simp only[Builtin.clear_,eE,bn,Sem.run_bind,run_underlying tZ,Result.andThen_ok,pg lh.info lh.zero,pL,Sem.run_pure]
   unfold Oper.wq
   rw[ed]
   have pa:E.xs.length=E.n*E.sz:=x5.1
   have gQ:=hw.wG (E':=E) (qP:=(cur.toList.take (q*E.sz)++(Builtin.zeroCells z3.cells m).toList++cur.toList.drop (q*E.sz+(Builtin.zeroCells z3.cells m).toList.length)).toArray) hA hE bU Z Z Z Z Fx pa
    (by
     simp only[fw,af,aE,bm,nZ,X3]
     omega)
    (by
     dsimp only
     rw[av,fY (by rw[aE,nZ];omega),kc,gA hnq,mi])
   rw[Iq hA] at gQ
   refine⟨_,_,gQ,fun _ h=>h,?_⟩
   rw[hd]
   exact k.run hb a β ha ⟨_,gQ⟩
 simp only[RunT]
 rw[au (da ha hg)]
 cases kL:it.tag with
 | pure=>rw[kL] at Bo;cases Bo
 | quiet=>rw[kL] at Bo;cases Bo
 | dP=>rw[kL] at Bo;cases Bo
 | sink=>exact fun w hw=>key w hw _
 | free=>exact fun w hw=>key w hw _
theorem GS{ops:Array Oper}{U je:List Nat}{n:Nat}{listed:Array Bool}{fst:Bool}{i d:Nat}{o:Oper}{x ix:Operand}{t:TypeId}{T:List (Nat×TI)}(hT:cu cf.P T){ti te:TI}{e:Nat}{ad:Addr}{m c:Nat}{k:IntKind}{q:Int}(fL:o.op=.indexAddr t x ix)(hi:ops[i]?=some o)(hr:(Region.ready .any ops listed).contains i=true)(hf:Region.free .any ops listed i=true)(hk:(U.contains i||fst)=true)(hd:o.dst=some d)(hg:bt (j9 ops o) env=some true)(hN:Nat.blt d cf.N=true)(hx:bP env x=some (.a (.v (.slice (some ad) m c))))(ZN:bP env ix=some (.a (.v (.int k q))))(ht:eX T t=some ti)(xi:ti.kind=.slice e)(qf:eX T e=some te)(h0:0<=q/\q<m)(kk:GJ cf ops U (je++[i]) n (listed.setIfInBounds i true) fst Q σ ((d,.a (.v (.pointer (some (ad.add (q.toNat*te.size))))))::env) hp A nh): GJ cf ops U je (n+1) listed fst Q σ env hp A nh:=by
 refine NB (.a (.v (.pointer (some (ad.add (q.toNat*te.size)))))) hi hr hf hk hd hg hN trivial (fun _ a β ha w _=>?_) kk
 obtain⟨i2,d2,z2,mR⟩:=bK (hT _ _ ht)
 obtain⟨i3,d3,z3,lh⟩:=bK (hT _ _ qf)
 have h1:=mR.kind
 have Bn:cf.P.underlying t=some (.slice e):=by
  rw[xi] at h1
  have h2:=mR.qx
  cases d2<;>first
   | (simp only[fx,TK.slice.injEq] at h1;subst h1;exact h2)
   | (simp only[fx] at h1;cases h1)
 have h2:a.eval x=.slice (some ad) m c:=aD ha hx
 have h3:a.eval ix=.int k q:=aD ha ZN
 simp only[execOp,fL,h2,h3,Instr.indexAt,asIntOf,Sem.run_bind,Sem.run_pure,Result.andThen_ok,run_underlying Bn,h0,and_self,if_true,gO lh.info,lh.size]
 rfl
theorem YW{ops:Array Oper}{U je:List Nat}{n:Nat}{listed:Array Bool}{fst:Bool}(t:Nat){ad:Addr}(cs:List AT)(h:env.get t=some (.a (.v (.pointer (some ad)))))(dj:∀ c∈cs,c.lt 0)(qY:∀(j:Nat) c,cs[j]?=some c->σ.cell (ad.add j)=some (c.den fy))(k:GJ cf ops U je n listed fst Q σ ((t,.a (.p nh 0))::env) ((nh,.ro,cs)::hp) A (nh+1)): GJ cf ops U je n listed fst Q σ env hp A nh:=by
 refine⟨fun hs hb a β ha hex hc E0 hE hF=>?_⟩
 let nD:Nat->Addr:=fun i=>if i=nh then ad else β i
 have jF:∀ i,i<nh->nD i=β i:=fun i hi=>by simp only[nD];rw[ai Zo]
 have rP:nD nh=ad:=by simp only[nD,if_true]
 have GR:nc cf ((t,.a (.p nh 0))::env) nD a:=by
  refine⟨ha.size,ha.defers,fun i z hz=>?_⟩
  rw[Env.ee] at hz
  by_cases hi:t=i
  ·rw[au hi] at hz
   injection hz with hz
   subst hz;subst hi
   have:=ha.env t _ h
   simp only[SV.den,AT.den] at this
   simp only[SV.den,AT.den,rP,Addr.add_zero']
   exact this
  ·rw[ai hi] at hz;rw[SV.dM jF (hb.env i z hz)];exact ha.env i z hz
 have uR:Bd ((t,.a (.p nh 0))::env) ((nh,.ro,cs)::hp) (nh+1) :=
  ((hb.mono (kT nh)).put (x:=.a (.p nh 0)) (db nh) t).row (db nh) fun c hc=>AT.eT (ay _) (dj c hc)
 have iG:∀ {i:Nat} {q:HK} {r:List AT},HP.get ((nh,HK.ro,cs)::hp) i=some (q,r)->(i=nh/\q=.ro/\r=cs)\/(i<nh/\hp.get i=some (q,r)):=by
  intro i q r hi
  rw[HP.ee] at hi
  by_cases O9:nh=i
  ·rw[au O9] at hi
   injection hi with hi
   simp only[cC] at hi
   exact .inl ⟨O9.symm,hi.1.symm,hi.2.symm⟩
  ·rw[ai O9] at hi
   exact .inr ⟨(hb.hp i _ _ hi).1,hi⟩
 have oD:∀ {i q r},hp.get i=some (q,r)->HP.get ((nh,HK.ro,cs)::hp) i=some (q,r):=by
  intro i q r hi
  rw[HP.ee,ai (fun hc=>by have:=(hb.hp i q r hi).1;omega)];exact hi
 have hS:(fun w=>dy cf σ hp A β w)=fun w=>dy cf σ ((nh,.ro,cs)::hp) A nD w:=by
  funext w
  apply propext
  constructor
  ·intro hw
   refine⟨hw.os,hw.tape,hw.output,hw.size,hw.fr,hw.cQ,hw.le,hw.grow,fun i e' l hi=>?_,fun i l hi j c hc=>?_,fun i j e1 e2 l1 l2 hi hj iP=>?_,hw.arr,hw.iR,fun i j E e' l hE hj=>?_⟩
   ·rcases iG hi with⟨_,hk,_⟩ | ⟨hl,rU⟩
    ·cases hk
    ·rw[jF i hl,AT.jU jF (hb.hp i _ l rU).2];exact hw.loc i e' l rU
   ·rcases iG hi with⟨rfl,_,rfl⟩ | ⟨hl,rU⟩
    ·rw[rP,qY j c hc]
     congr 1
     exact AT.dM (n:=0) (fun i hi=>by omega) (dj c (aC hc))
    ·rw[jF i hl,AT.dM jF ((hb.hp i _ l rU).2 c (aC hc))];exact hw.ro i l rU j c hc
   ·rcases iG hi with⟨_,hk,_⟩ | ⟨hl,rU⟩
    ·cases hk
    ·rcases iG hj with⟨_,hk,_⟩ | ⟨AS,tC⟩
     ·cases hk
     ·rw[jF i hl,jF j AS] at iP;exact hw.inj i j _ _ _ _ rU tC iP
   ·rcases iG hj with⟨_,hk,_⟩ | ⟨AS,tC⟩
    ·cases hk
    ·rw[jF j AS];exact hw.iL i j E e' l hE tC
  ·intro hw
   refine⟨hw.os,hw.tape,hw.output,hw.size,hw.fr,hw.cQ,hw.le,hw.grow,fun i e' l hi=>?_,fun i l hi j c hc=>?_,fun i j e1 e2 l1 l2 hi hj iP=>?_,hw.arr,hw.iR,fun i j E e' l hE hj=>?_⟩
   ·have:=hw.loc i e' l (oD hi)
    rw[jF i (hb.hp i _ _ hi).1,AT.jU jF (hb.hp i _ l hi).2] at this;exact this
   ·have:=hw.ro i l (oD hi) j c hc
    rw[jF i (hb.hp i _ _ hi).1,AT.dM jF ((hb.hp i _ l hi).2 c (aC hc))] at this;exact this
   ·refine hw.inj i j _ _ _ _ (oD hi) (oD hj) ?_
    rw[jF i (hb.hp i _ _ hi).1,jF j (hb.hp j _ _ hj).1];exact iP
   ·have:=hw.iL i j E e' l hE (oD hj)
    rw[jF j (hb.hp j _ _ hj).1] at this;exact this
 have vG:∀ w,dy cf σ hp A β w↔dy cf σ ((nh,.ro,cs)::hp) A nD w:=fun w=>by rw[show dy cf σ hp A β w=(fun w=>dy cf σ hp A β w) w from rfl,hS]
 rw[hS]
 exact k.run hs uR a nD GR ⟨hex.choose,(vG _).1 hex.choose_spec⟩ hc E0 (fun x hx=>hE x ((vG x).2 hx)) (fun hf x hx=>(vG x).1 (hF hf x hx))
theorem Mb{ops:Array Oper}{U je:List Nat}{n:Nat}{listed:Array Bool}{fst:Bool}{i d:Nat}{o:Oper}{x ix:Operand}{t:TypeId}{T:List (Nat×TI)}(hT:cu cf.P T){ti te:TI}{e:Nat}{ao:Option Addr}{m c:Nat}{k:IntKind}{q:Int}{rows:List (List AT)}{r:List AT}(fL:o.op=.indexAddr t x ix)(hi:ops[i]?=some o)(hr:(Region.ready .any ops listed).contains i=true)(hf:Region.free .any ops listed i=true)(hk:(U.contains i||fst)=true)(hd:o.dst=some d)(hg:bt (j9 ops o) env=some true)(hN:Nat.blt d cf.N=true)(hx:bP env x=some (.a (.v (.slice ao m c))))(ZN:bP env ix=some (.a (.v (.int k q))))(ht:eX T t=some ti)(xi:ti.kind=.slice e)(qf:eX T e=some te)(H:bu σ ao m c te.size rows)(h0:0<=q)(bU:rows[q.toNat]?=some r)(kk:GJ cf ops U (je++[i]) n (listed.setIfInBounds i true) fst Q σ ((d,.a (.p nh 0))::(d,.a (.v (.pointer (some ((ao.getD ⟨0,0,none⟩).add (q.toNat*te.size))))))::env) ((nh,.ro,r)::hp) A (nh+1)): GJ cf ops U je (n+1) listed fst Q σ env hp A nh:=by
 have dj:q.toNat<m:=by rw[<-H.len];exact(ah.1 bU).1
 rcases H.at_ with h1 | ⟨ad,rfl,h2⟩
 ·omega
 ·refine GS hT fL hi hr hf hk hd hg hN hx ZN ht xi qf ⟨h0,by omega⟩ ?_
  refine YW d r (by rw[Env.ee,au rfl]) (H.qv r (aC bU)).2 (fun j c hc=>?_) kk
  rw[Addr.add_add]
  exact h2 q.toNat r j c bU hc
end
end Go.Sy
namespace Go.Sy
section
variable {cf:Cf} {σ mY:al} {hp kM:HP} {A:List AE} {β:Nat->Addr} {w0 x:World}
theorem dy.base(h0:dy cf mY kM [] β w0)(hle:mY.le σ)(hs:yE kM hp)(h:dy cf σ hp A β x): dy cf mY kM [] β x:=by
 refine⟨h.os,h.tape,h.output,h.size,h.fr,fun b o hb=>h.cQ b o (hle b o hb),h0.le,h0.grow,fun i e cs hi=>?_,h0.ro,fun i j e1 e2 l1 l2 hi hj heq=>h.inj i j e1 e2 l1 l2 (hs _ _ hi) (hs _ _ hj) heq,
  fun i E hi=>(by simp at hi),fun i j E F hi=>(by simp at hi),fun i j E e cs hi=>(by simp at hi)⟩
 obtain⟨q1,q2,q3,q4⟩:=h.loc i e cs (hs _ _ hi)
 exact⟨q1,q2,al.l7 hle q3,q4⟩
theorem dy.aa4{nD:Nat->Addr}{nb:Nat}(hb:Bd [] kM nb)(jF:∀ i,i<nb->nD i=β i)(h:dy cf mY kM [] β x): dy cf mY kM [] nD x:=by
 refine⟨h.os,h.tape,h.output,h.size,h.fr,h.cQ,h.le,h.grow,fun i e cs hi=>?_,fun i cs hi j c hc=>?_,fun i j e1 e2 l1 l2 hi hj heq=>?_,fun i E hi=>(by simp at hi),fun i j E F hi=>(by simp at hi),fun i j E e cs hi=>(by simp at hi)⟩
 ·obtain⟨dj,hl⟩:=hb.hp i _ cs hi
  have:=h.loc i e cs hi
  rw[jF i dj,AT.jU jF hl]
  exact this
 ·obtain⟨dj,hl⟩:=hb.hp i _ cs hi
  have:=h.ro i cs hi j c hc
  rw[jF i dj,AT.dM jF (hl c (aC hc))]
  exact this
 ·have h1:=(hb.hp i _ l1 hi).1
  have h2:=(hb.hp j _ l2 hj).1
  exact h.inj i j e1 e2 l1 l2 hi hj (by rw[<-jF i h1,<-jF j h2];exact heq)
end
structure GB (cf:Cf) (ops:Array Oper) (U je:List Nat) (mY:al) (kM:HP) (nb n:Nat) (listed:Array Bool) (Q:Exit->Act->World->Prop) (σ:al) (env:Env) (hp:HP) (A:List AE) (nh:Nat):Prop where
 run:Region.noSelect ops=true->Bd env hp nh->Bd [] kM nb->nb<=nh->mY.le σ->yE kM hp->∀ a β,nc cf env β a->(∃ w,dy cf σ hp A β w)->(∃ w,dy cf mY kM [] β w)->mO ops listed ->
  qw cf.P ops U Q n listed a (fun w=>dy cf mY kM [] β w) (fun w=>dy cf σ hp A β w)
structure Kx (cf:Cf) (ops:Array Oper) (U je:List Nat) (mY:al) (kM:HP) (nb n:Nat) (listed:Array Bool) (j:Nat) (Q:Exit->Act->World->Prop) (σ:al) (env:Env) (hp:HP) (A:List AE) (nh:Nat):Prop where
 run:Region.noSelect ops=true->Bd env hp nh->Bd [] kM nb->nb<=nh->mY.le σ->yE kM hp->∀ a β,nc cf env β a->(∃ w,dy cf σ hp A β w)->(∃ w,dy cf mY kM [] β w)->mO ops listed->j∈Region.ready .any ops listed ->
  ly cf.P ops U Q j (qw cf.P ops U Q n (listed.setIfInBounds j true)) a (fun w=>dy cf mY kM [] β w) (fun w=>dy cf σ hp A β w)
section
variable {cf:Cf} {Q:Exit->Act->World->Prop} {σ mY:al} {env:Env} {hp kM:HP} {A:List AE} {nh nb:Nat} {ops:Array Oper} {U je:List Nat} {n:Nat} {listed:Array Bool}
theorem ky{id:Nat}(m:Nat)(U:List Nat)(kM:HP)(hm:cf.P.follows .mixedOrders=true)(hs:Region.noSelect ops=true)(hn:ops.size=m)(gR:yE kM hp)(h:GB cf ops U [] σ kM nh m (Array.replicate m false) Q σ env hp A nh)(hd:AL cf.rd ops=true:=by rfl): CJ cf (.region id ops true) Q σ env hp A nh:=by
 subst hn
 refine⟨fun hb a β w ha hw=>wpIn_region_any hm ?_⟩
 have hc:mO ops (Array.replicate ops.size false):=⟨by simp,fun j oj _ hl=>by
  exfalso
  rcases lV j ops.size with h | h
  ·simp[h] at hl
  ·simp[h] at hl⟩
 have xk:Bd [] kM nh:=⟨fun i x h=>(by cases h),fun i k cs hi=>hb.hp i k cs (gR _ _ hi)⟩
 have hb0:dy cf σ kM [] β w:=by
  have:=hw.Xg
  exact this.sub gR
 exact mn (xK hd) _ _ _ _ _ _ hw.drew (h.run hs hb xk (aq _) (al.le_refl _) gR a β ha ⟨_,hw⟩ ⟨_,hb0⟩ hc)
theorem bQ{i d:Nat}{o:Oper}{T:List (Nat×TI)}(hT:cu cf.P T){x:SV}(hi:ops[i]?=some o)(hr:(Region.ready .any ops listed).contains i=true)(hf:Region.free .any ops listed i=true)(hk:(U.contains i&&zi o.op)=false)(hd:o.dst=some d)(hg:bt (j9 ops o) env=some true)(hN:Nat.blt d cf.N=true)(h:ev T o.op env kM nh=some (.val x))(k:GB cf ops U (je++[i]) mY kM nb n (listed.setIfInBounds i true) Q σ ((d,x)::env) hp A nh): GB cf ops U je mY kM nb (n+1) listed Q σ env hp A nh:=by
 refine⟨fun hs hb xk ov hle gR a β ha hex oW hc=>?_⟩
 obtain⟨w0,CW⟩:=id oW
 have sx:d<cf.N:=by simpa[fD] using hN
 have uR:Bd env kM nh:=hb.sub (fun i x h=>h) gR
 have hx:x.lt nh:=(k9 (o:=o) hT ha uR h).1
 have uo:i∈Region.ready .any ops listed:=by simpa using hr
 have hw:Region.wanted o (yielded ops a.tmps)=true:=by rw[<-fI];exact da ha hg
 have mS:=k.run hs (hb.put hx d) xk ov hle gR _ β (ha.put sx x) hex oW (hc.set uo)
 refine k7 hi (Region.noSelect_spec hs) n listed a _ _ hc (fun y hy=>CW.base hle gR hy) (Region.free_spec hi hf) uo ⟨.inl ⟨hw,fun w x5=>.inl ?_⟩,fun hu=>.inl ⟨hw,fun w _=>.inl ?_⟩⟩ (by rw[hd];exact mS)
 ·exact(k9 (o:=o) hT ha uR h).2 w fun _=>⟨mY,[],x5⟩
 ·refine(k9 (o:=o) hT ha uR h).2 w fun hl=>?_
  rw[hl,mh] at hk
  rw[jP.2 hu] at hk
  cases hk
theorem GW(js:List Nat)(hr:(Region.ready .any ops listed == js)=true)(jv:js.isEmpty=false)(k:∀ j,j∈js->Kx cf ops U je mY kM nb n listed j Q σ env hp A nh): GB cf ops U je mY kM nb (n+1) listed Q σ env hp A nh:=by
 refine⟨fun hs hb xk ov hle gR a β ha hex oW hc=>?_⟩
 have uo:=eq_of_beq hr
 refine⟨fun h0=>?_,fun j hj=>(k j (by rw[<-uo];exact hj)).run hs hb xk ov hle gR a β ha hex oW hc hj⟩
 rw[uo] at h0
 subst h0
 cases jv
theorem dp{i:Nat}(hr:(Region.ready .any ops listed == [i])=true)(k:Kx cf ops U je mY kM nb n listed i Q σ env hp A nh): GB cf ops U je mY kM nb (n+1) listed Q σ env hp A nh :=
 GW [i] hr rfl fun j hj=>by rw[aU] at hj;subst hj;exact k
theorem od{i j:Nat}(hr:(Region.ready .any ops listed == [i,j])=true)(ki:Kx cf ops U je mY kM nb n listed i Q σ env hp A nh)(kj:Kx cf ops U je mY kM nb n listed j Q σ env hp A nh): GB cf ops U je mY kM nb (n+1) listed Q σ env hp A nh :=
 GW [i,j] hr rfl fun m hm=>by
  simp only[bM,dA,or_false] at hm
  rcases hm with rfl | rfl
  ·exact ki
  ·exact kj
theorem SM{i j l:Nat}(hr:(Region.ready .any ops listed == [i,j,l])=true)(ki:Kx cf ops U je mY kM nb n listed i Q σ env hp A nh)(kj:Kx cf ops U je mY kM nb n listed j Q σ env hp A nh)(kl:Kx cf ops U je mY kM nb n listed l Q σ env hp A nh):
  GB cf ops U je mY kM nb (n+1) listed Q σ env hp A nh :=
 GW [i,j,l] hr rfl fun m hm=>by
  simp only[bM,dA,or_false] at hm
  rcases hm with rfl | rfl | rfl
  ·exact ki
  ·exact kj
  ·exact kl
theorem eg{j d:Nat}{o:Oper}{f:FuncId}{ys:List SV}{Φ:Value->al->List AE->Prop}(is:List Nat){A0 Ar:List AE}(hA:zV is A=A0++Ar)(hn:nodupB is=true)(hj:ops[j]?=some o)(hc:callee env o.op=some (f,ys))(hd:o.dst=some d)(hg:bt (j9 ops o) env=some true)(hN:Nat.blt d cf.N=true)(gm:∀ args w,(callFunc f args).run cf.P w=.ok (.enter f args) w)(dj:jj ys)(hC:pV cf.P f ys σ A0 Φ)(k:∀ v bD A',σ.le bD->Φ v bD A'->∃ y:SV,y.lt 0/\y.den fy=v/\GB cf ops U (je++[j]) mY kM nb n (listed.setIfInBounds j true) Q bD ((d,y)::env) hp (A'++Ar) nh): Kx cf ops U je mY kM nb n listed j Q σ env hp A nh:=by
 refine⟨fun hs hb xk ov hle gR a β ha hex oW nZ hr=>?_⟩
 obtain⟨w0,CW⟩:=id oW
 have sx:d<cf.N:=by simpa[fD] using hN
 have pQ:∀ {y:SV},y.lt 0->y.den β=y.den fy:=fun hy=>SV.dM (n:=0) (fun i hi=>by omega) hy
 have fi:(ys.map (SV.den β)).toArray=(ys.map (SV.den fy)).toArray:=by
  rw[cY fun y hy=>pQ (dj.of y hy)]
 have oB:Region.wanted o (yielded ops a.tmps)=true:=by rw[<-fI];exact da ha hg
 unfold ly
 simp only[hj]
 rw[au oB]
 intro w hw
 have AO:dy cf σ hp (A0++Ar) β w:=by rw[<-hA];exact hw.zV hn
 unfold Oper.wq
 rw[oX ha hc gm]
 simp only[Oper.uponIn]
 rw[fi]
 refine⟨fun h=>(by cases h),CallsIn.mono (jW.2 (hC w AO.GQ)) fun e w' ⟨v,bD,he,h1,h2,h3,A',h4,h5⟩=>?_⟩
 subst he
 obtain⟨y,hy,Jx,hk⟩:=k v bD A' h2.le h4
 have gQ:=AO.through h5
 have nY:=al.le_trans hle h2.le
 refine⟨_,_,gQ,fun x hx=>CW.base nY gR hx,.inl fun _ h=>h,?_⟩
 have:=hk.run hs (hb.put (SV.eT (ay _) hy) d) xk ov nY gR (a.put (some d) (y.den β)) β (ha.put sx y) ⟨_,gQ⟩ ⟨w0,CW⟩ (nZ.set hr)
 rw[hd,<-Jx,<-pQ hy]
 exact this
theorem gG{j d:Nat}{o:Oper}{T:List (Nat×TI)}(hT:cu cf.P T){e:TypeId}{cs:List AT}{x:AT}(hj:ops[j]?=some o)(h:ev T o.op env hp nh=some (.new e cs x))(hd:o.dst=some d)(hg:bt (j9 ops o) env=some true)(hN:Nat.blt d cf.N=true)(k:GB cf ops U (je++[j]) mY kM nb n (listed.setIfInBounds j true) Q σ ((d,.a x)::env) ((nh,.loc e,cs)::hp) A (nh+1)): Kx cf ops U je mY kM nb n listed j Q σ env hp A nh:=by
 refine⟨fun hs hb xk ov hle gR a β ha hex oW nZ hr=>?_⟩
 obtain⟨w0,CW⟩:=id oW
 have sx:d<cf.N:=by simpa[fD] using hN
 have oB:Region.wanted o (yielded ops a.tmps)=true:=by rw[<-fI];exact da ha hg
 obtain⟨lY,hx,ed⟩:=k9 (o:=o) hT ha hb h
 have pa:(SV.a x).lt (nh+1):=by
  rcases hx with rfl | ⟨n,rfl⟩<;>exact db nh
 unfold ly
 simp only[hj]
 rw[au oB]
 intro w hw
 unfold Oper.wq
 rw[ed w]
 have gQ:=hw.alloc (e:=e) hb lY
 have jF:=mu β nh w
 have ac1:∀ i,i<nb->Qn β nh w i=β i:=fun i hi=>jF i Zo
 have ac0:∀ i,i<nb->β i=Qn β nh w i:=fun i hi=>(ac1 i hi).symm
 have CX:yE kM ((nh,HK.loc e,cs)::hp):=by
  intro i y hy
  have dj:=(hb.hp i y.1 y.2 (gR i y hy)).1
  rw[HP.ee,ai Zo]
  exact gR i y hy
 have R9:=CW.aa4 xk ac1
 refine⟨_,_,gQ,fun x hx=>R9.base hle CX hx,.inl fun _ h=>h.aa4 xk ac0,?_⟩
 rw[hd]
 exact k.run hs ((hb.mono (kT nh)).row (db nh) (fun c hc=>AT.eT (kT nh) (lY c hc)) |>.put pa d) xk Zo hle CX _ (Qn β nh w) ((ha.congr hb jF).put sx (.a x)) ⟨_,gQ⟩ ⟨_,R9⟩ (nZ.set hr)
theorem eS(l:List (Nat×Tag))(hl:(l.all fun p=>decide (p.1<ops.size))=true)(hq:vw (qe ops l)=true)(ho:jh ops U je l listed=true)(h:OJ cf (qe ops l) Q σ env hp A nh):
  GB cf ops U je mY kM nb l.length listed Q σ env hp A nh:=by
 refine⟨fun hs hb xk ov hle gR a β ha hex oW hc=>?_⟩
 obtain⟨w0,CW⟩:=oW
 have:=sa (fun x hx=>CW.base hle gR hx) _ _ a hq (h.run hb a β ha hex)
 exact kF hs l je listed a _ _ hc (fun x hx=>CW.base hle gR hx) (fun p hp=>by simpa using dc.1 hl p hp) ho this
theorem mZ{P:Program}: ∀(n:Nat) (listed:Array Bool) (a:Act) (E S:World->Prop),(∃ w,S w)->(∀ w,S w->∃ S':World->Prop,S' w/\qw P ops U Q n listed a E S')->qw P ops U Q n listed a E S
 | 0,listed,a,E,S,⟨w0,h0⟩,h=>by
  obtain⟨S0,h1,h2⟩:=h w0 h0
  refine⟨h2.1,fun w hw=>?_⟩
  obtain⟨S',h3,h4⟩:=h w hw
  exact h4.2 w h3
 | n+1,listed,a,E,S,hex,h=>by
  refine⟨fun hr w hw=>?_,fun j hj=>?_⟩
  ·obtain⟨S',h3,h4⟩:=h w hw
   exact h4.1 hr w h3
  ·unfold ly
   cases fL:ops[j]? with
   | none =>
    refine mZ n _ a E S hex fun w hw=>?_
    obtain⟨S',h3,h4⟩:=h w hw
    have:=h4.2 j hj
    unfold ly at this
    rw[fL] at this
    exact⟨S',h3,this⟩
   | some o =>
    dsimp only
    by_cases oB:Region.wanted o (yielded ops a.tmps)=true
    ·rw[au oB]
     intro w hw
     obtain⟨S',h3,h4⟩:=h w hw
     have:=h4.2 j hj
     unfold ly at this
     rw[fL] at this
     dsimp only at this
     rw[au oB] at this
     exact this w h3
    ·rw[ai oB]
     refine mZ n _ _ E S hex fun w hw=>?_
     obtain⟨S',h3,h4⟩:=h w hw
     have:=h4.2 j hj
     unfold ly at this
     rw[fL] at this
     dsimp only at this
     rw[ai oB] at this
     exact⟨S',h3,this⟩
theorem gW(i:Nat){E:AE}{A':List AE}(hi:A[i]?=some E)(hA:A.eraseIdx i=A')(h:∀ bD,σ.le bD->b9 bD E->GB cf ops U je mY kM nb n listed Q bD env hp A' nh): GB cf ops U je mY kM nb n listed Q σ env hp A nh:=by
 refine⟨fun hs hb xk ov hle gR a β ha hex oW hc=>mZ _ _ _ _ _ hex fun w hw=>?_⟩
 obtain⟨bD,h1,h2,h3⟩:=hw.tb hi
 rw[hA] at h3
 exact⟨_,h3,(h bD h1 h2).run hs hb xk ov (al.le_trans hle h1) gR a β ha ⟨_,h3⟩ oW hc⟩
theorem jk(h:Nat){e:TypeId}{cs:List AT}(n' sz:Nat)(bU:hp.get h=some (.loc e,cs))(lY:∀ c∈cs,c.lt 0)(hlen:cs.length=n'*sz)(hn:n'<=9223372036854775807)(hsb:kM.get h=none)(k:∀ g,GB cf ops U je mY kM nb n listed Q σ (ya h g env) (HP.del h hp) (A++[⟨some ⟨g,0,none⟩,n',n',e,sz,cs.map AT.val⟩]) nh): GB cf ops U je mY kM nb n listed Q σ env hp A nh:=by
 refine⟨fun hs hb xk ov hle gR a β ha hex oW hc=>?_⟩
 obtain⟨w,hw⟩:=hex
 obtain⟨g,hg⟩:∃ g,β h=⟨g,0,none⟩:=by
  obtain⟨q1,-,-,-⟩:=hw.loc h e cs bU
  exact⟨_,q1⟩
 have CX:yE kM (HP.del h hp):=by
  intro i y hy
  rw[HP.G0]
  split
  ·rename_i he
   subst he
   rw[hsb] at hy
   cases hy
  ·exact gR i y hy
 have e1:(fun w=>dy cf σ hp A β w)=fun w=>dy cf σ (HP.del h hp) (A++[⟨some ⟨g,0,none⟩,n',n',e,sz,cs.map AT.val⟩]) β w:=by
  funext w
  exact propext (dy.own bU lY hg hlen hn)
 have:=(k g).run hs hb.qQ xk ov hle CX a β (ha.qQ hg) ⟨w,(dy.own bU lY hg hlen hn).1 hw⟩ oW hc
 rw[e1]
 exact this
end
end Go.Sy
namespace Go.Sy
theorem qz{P:Program}{t e:TypeId}{ti:TI}(h:KP P t=some ti)(hk:ti.kind=.slice e): P.underlying t=some (.slice e):=by
 obtain⟨i1,d1,z1,m1⟩:=bK h
 have h1:=m1.kind
 rw[hk] at h1
 have h2:=m1.qx
 cases d1<;>first
  | (simp only[fx,TK.slice.injEq] at h1;subst h1;exact h2)
  | (simp only[fx] at h1;cases h1)
theorem Z7{P:Program}{t:TypeId}{ti:TI}(h:KP P t=some ti)(hk:ti.kind=.int .u8): P.underlying t=some (.int .u8):=by
 obtain⟨i1,d1,z1,m1⟩:=bK h
 have h1:=m1.kind
 rw[hk] at h1
 have h2:=m1.qx
 cases d1<;>first
  | (simp only[fx,TK.int.injEq] at h1;subst h1;exact h2)
  | (simp only[fx] at h1;cases h1)
theorem Xy{P:Program}{t:TypeId}{ti:TI}(h:KP P t=some ti)(hk:ti.kind=.str): P.underlying t=some .string:=by
 obtain⟨i1,d1,z1,m1⟩:=bK h
 have h1:=m1.kind
 rw[hk] at h1
 have h2:=m1.qx
 cases d1<;>first
  | exact h2
  | (simp only[fx] at h1;cases h1)
def gM (l:List UInt8):List (List AT):=l.map fun u=>[.v (.int .u8 u.toNat)]
def kA (l:List UInt8):List Value:=l.map fun u=>.int .u8 u.toNat
def rI (ao:Option Addr) (cap:Nat) (l:List UInt8):AE:=⟨ao,l.length,cap,5,1,kA l⟩
theorem Kh(s:ByteArray): qT s=gM s.data.toList:=rfl
theorem wB(l:List UInt8): (gM l).length=l.length:=by simp[gM]
theorem yB(l:List UInt8): kA l=(gM l).flatten.map AT.val:=by
 induction l with
 | nil=>rfl
 | cons u l ih =>
  show _::kA l=_
  rw[ih]
  rfl
theorem kh(a b:List UInt8): kA (a++b)=kA a++kA b:=by simp[kA]
theorem qy(l:List UInt8): ∀ r∈gM l,r.length=1/\(∀ c∈r,c.lt 0)/\r.all AT.one=true:=by
 intro r hr
 obtain⟨u,_,rfl⟩:=bL.1 hr
 exact⟨rfl,fun c hc=>by rw[aU] at hc;subst hc;trivial,rfl⟩
theorem sV{l:List UInt8}{i:Nat}{u:UInt8}(h:l[i]?=some u): (gM l)[i]?=some [.v (.int .u8 u.toNat)]:=by unfold gM;rw[aO,h];rfl
theorem BN{l:List UInt8}{i:Nat}{u:UInt8}(h:l[i]?=some u): (kA l)[i]?=some (.int .u8 u.toNat):=by unfold kA;rw[aO,h];rfl
theorem rW{σ:al}{ao:Option Addr}{cap:Nat}{l:List UInt8}(hS:b9 σ (rI ao cap l))(hc:l.length<=cap): bu σ ao l.length cap 1 (gM l) :=
 hS.sl (yB l) (fun r hr=>⟨(qy l r hr).1,(qy l r hr).2.1⟩) (wB l) rfl hc
section
variable {cf:Cf} {Q:Exit->Act->World->Prop} {σ:al} {env:Env} {hp:HP} {A:List AE} {nh:Nat} {it:Item} {rest:List Item}
theorem sf{d n cap:Nat}{x:Operand}{s t e:TypeId}{T:List (Nat×TI)}(hT:cu cf.P T){ts ti te:TI}{ao:Option Addr}{l:List UInt8}(fL:it.o.op=.convert s t x)(hd:it.o.dst=some d)(hg:bt it.guard env=some true)(hN:Nat.blt d cf.N=true)(ec:(match it.tag with | .pure=>false | _=>true)=true)(hx:bP env x=some (.a (.v (.slice ao n cap))))(hs:eX T s=some ts)(Yt:ts.kind=.slice e)(qf:eX T e=some te)(W4:te.kind=.int .u8)(ht:eX T t=some ti)(vU:ti.kind=.str)(H:bu σ ao n cap 1 (gM l))(k:OJ cf rest Q σ ((d,.a (.v (.string ⟨l.toArray⟩)))::env) hp A nh): OJ cf (it::rest) Q σ env hp A nh:=by
 refine tk (.a (.v (.string ⟨l.toArray⟩))) hd hg hN trivial ec (fun _ a β ha w hw=>?_) k
 have us:=qz (hT _ _ hs) Yt
 have ue:=Z7 (hT _ _ qf) W4
 have ut:=Xy (hT _ _ ht) vU
 have Eo:a.eval x=.slice ao n cap:=aD ha hx
 have hn:l.length=n:=by rw[<-H.len,wB]
 have ed:(convert s t (.slice ao n cap)).run cf.P w=.ok (.string ⟨l.toArray⟩) w:=by
  subst hn
  cases ao with
  | none =>
   have h0:l.length=0:=by
    rcases H.at_ with h | ⟨ad,h,_⟩
    ·exact h
    ·cases h
   have:l=[]:=aY h0
   subst this
   exact Lib.run_convert_nil_bytes w s t e cap us ue ut
  | some ad =>
   refine run_convert_bytes_back w s t e ad cap l us ue ut fun j hj=>?_
   rcases H.at_ with h | ⟨ad',h,h2⟩
   ·omega
   ·injection h with h
    subst h
    have h3:=al.mb hw (h2 j _ 0 _ (sV (aa hj)) rfl)
    rw[kS,eM] at h3
    exact h3
 simp only[execOp,fL,Eo,ed,Sem.run_bind,Result.andThen_ok,Sem.run_pure]
 rfl
theorem Ee{d:Nat}{s x:Operand}{t u e:Nat}{T:List (Nat×TI)}(hT:cu cf.P T){ti tu te:TI}(i:Nat){E:AE}{ao:Option Addr}{n cap:Nat}{y:ByteArray}(fL:og it.o.op=some (s,x,t,u))(hd:it.o.dst=some d)(hg:bt it.guard env=some true)(hN:Nat.blt d cf.N=true)(Bo:iV it.tag=true)(hs:bP env s=some (.a (.v (.slice ao n cap))))(hx:bP env x=some (.a (.v (.string y))))(hA:A[i]?=some E)(hE:(E.ao,E.n,E.cap,E.e)=(ao,n,cap,e))(ht:eX T t=some ti)(vU:ti.kind=.slice e)(hu:eX T u=some tu)(O7:sZ tu.kind=true)(qf:eX T e=some te)(jZ:E.sz=te.size)(m1:te.size=1)(Jw:te.zero.length=te.size)(sq:n+y.size<=9223372036854775807)(Pj:(n+y.size)*te.bytes<=140737488355328)(hk:∀ iB dk,n+y.size<=dk->OJ cf rest Q σ ((d,.a (.v (.slice iB (n+y.size) dk)))::env) hp (A.set i ⟨iB,n+y.size,dk,E.e,E.sz,E.xs++kA y.data.toList⟩) nh): OJ cf (it::rest) Q σ env hp A nh:=by
 simp only[cC] at hE
 obtain⟨rfl,rfl,rfl,rfl⟩:=hE
 refine pZ hd hg hN Bo fun hb a β ha w hw=>?_
 have tZ:=qz (hT _ _ ht) vU
 obtain⟨i2,d2,z2,mR⟩:=bK (hT _ _ hu)
 obtain⟨i3,d3,z3,lh⟩:=bK (hT _ _ qf)
 have Hr:z3.cells.size=E.sz:=by
  have:=zero_den lh β
  rw[<-this,jZ]
  simp[Jw]
 have yu:a.eval x=.string y:=aD ha hx
 have Ep:a.eval s=.slice E.ao E.n E.cap:=aD ha hs
 have wk:(kA y.data.toList).length=y.size*E.sz:=by
  rw[jZ,m1,kS]
  simp only[kA,aR,cZ]
  rfl
 obtain⟨iB,dk,w',ed,gQ,DY⟩:=hw.append hA (t:=t) (u:=u) (ty:=it.o.type) (x:=.string y) (m:=y.size) (news:=kA y.data.toList) tZ mR.qx (oJ (by rw[mR.kind];exact O7)) lh.info lh.zero
  (by rw[lh.size,jZ]) Hr (fun _=>rfl) (fun BJ _=>by
   have e1:(y.extract 0 y.size)=y:=ByteArray.extract_zero_size
   simp only[Builtin.firstCells,Sem.run_pure,e1]
   congr 1
   apply Array.ext'
   simp[kA]) wk
  (fun v hv=>by obtain⟨c,_,rfl⟩:=bL.1 hv;rfl) (by simp only[maxLen];exact sq) (by rw[lh.bytes];exact Pj)
 refine⟨.a (.v (.slice iB (E.n+y.size) dk)),σ,hp,_,nh,w',β,?_,ha,hb.put (x:=.a (.v (.slice iB (E.n+y.size) dk))) trivial d,gQ,hk iB dk DY⟩
 exact lq fL (by rw[Ep,yu];exact ed)
end
theorem K0(c:UInt8)(w:World)(P:Program): (Op.unary .xor (.int .u8 (c.toNat:Int))).run P w=.ok (.int .u8 ((255 - c).toNat:Int)) w:=by
 have h:∀ n:Fin 256,IntKind.u8.wrap ((BitVec.ofInt 8 255 ^^^ BitVec.ofInt 8 (n.val:Int)).toNat:Int)=((255 - UInt8.ofNat n.val).toNat:Int):=by decide +kernel
 have h2:=h ⟨c.toNat,c.toNat_lt⟩
 have e:UInt8.ofNat c.toNat=c:=by simp
 rw[e] at h2
 show(Op.intBits .xor .u8 255 (c.toNat:Int)).run P w=_
 have h3:(Op.intBits .xor .u8 255 (c.toNat:Int)).run P w=.ok (.int .u8 (IntKind.u8.wrap ((BitVec.ofInt 8 255 ^^^ BitVec.ofInt 8 (c.toNat:Int)).toNat:Int))) w:=rfl
 rw[h3,h2]
section
variable {cf:Cf} {Q:Exit->Act->World->Prop} {σ:al} {env:Env} {hp:HP} {A:List AE} {nh:Nat} {it:Item} {rest:List Item}
theorem OM{d:Nat}{x:Operand}{t:TypeId}{c:UInt8}(fL:it.o.op=.unOp .xor t x)(hd:it.o.dst=some d)(hg:bt it.guard env=some true)(hN:Nat.blt d cf.N=true)(hx:bP env x=some (.a (.v (.int .u8 (c.toNat:Int)))))(hk:OJ cf rest Q σ ((d,.a (.v (.int .u8 ((255 - c).toNat:Int))))::env) hp A nh): OJ cf (it::rest) Q σ env hp A nh:=by
 refine jB (.a (.v (.int .u8 ((255 - c).toNat:Int)))) hd hg hN trivial (fun _ a β ha w=>?_) hk
 have h1:a.eval x=.int .u8 (c.toNat:Int):=aD ha hx
 simp only[execOp,fL,h1,K0,Sem.run_bind,Sem.run_pure,Result.andThen_ok]
 rfl
end
section
variable {cf:Cf} {Q:Exit->Act->World->Prop} {σ mY:al} {env:Env} {hp kM:HP} {A:List AE} {nh nb ln:Nat} {ops:Array Oper} {U je:List Nat} {listed:Array Bool}
theorem ND{j d:Nat}{o:Oper}(hj:ops[j]?=some o)(hd:o.dst=some d)(hg:bt (j9 ops o) env=some true)(hN:Nat.blt d cf.N=true)(h:Bd env hp nh->∀ a β,nc cf env β a->∀ w,dy cf σ hp A β w->∃(y:SV) (A':List AE) (w':World),(execOp a.eval o).run cf.P w=.ok (.value (y.den β)) w'/\y.lt 0/\dy cf σ hp A' β w'/\GB cf ops U (je++[j]) mY kM nb ln (listed.setIfInBounds j true) Q σ ((d,y)::env) hp A' nh):
  Kx cf ops U je mY kM nb ln listed j Q σ env hp A nh:=by
 refine⟨fun hs hb xk ov hle gR a β ha hex oW nZ hr=>?_⟩
 obtain⟨w0,CW⟩:=id oW
 have sx:d<cf.N:=by simpa[fD] using hN
 have oB:Region.wanted o (yielded ops a.tmps)=true:=by rw[<-fI];exact da ha hg
 unfold ly
 simp only[hj]
 rw[au oB]
 intro w hw
 obtain⟨y,A',w',ed,hy,gQ,hk⟩:=h hb a β ha w hw
 unfold Oper.wq
 rw[ed]
 refine⟨_,_,gQ,fun x hx=>CW.base hle gR hx,.inl fun _ h=>h,?_⟩
 rw[hd]
 exact hk.run hs (hb.put (SV.eT (ay _) hy) d) xk ov hle gR (a.put (some d) (y.den β)) β (ha.put sx y) ⟨_,gQ⟩ ⟨w0,CW⟩ (nZ.set hr)
theorem wu{q d:Nat}{o:Oper}{s x:Operand}{t u e:Nat}{T:List (Nat×TI)}(hT:cu cf.P T){ti tu te:TI}(i:Nat){E:AE}{ao:Option Addr}{n cap j m:Nat}{k:HK}{cs:List AT}(hj:ops[q]?=some o)(fL:og o.op=some (s,x,t,u))(hd:o.dst=some d)(hg:bt (j9 ops o) env=some true)(hN:Nat.blt d cf.N=true)(hs:bP env s=some (.a (.v (.slice ao n cap))))(hx:bP env x=some (.a (.sl j m)))(bU:hp.get j=some (k,cs))(hA:A[i]?=some E)(hE:(E.ao,E.n,E.cap,E.e)=(ao,n,cap,e))(ht:eX T t=some ti)(vU:ti.kind=.slice e)(hu:eX T u=some tu)(O7:sZ tu.kind=true)(qf:eX T e=some te)(jZ:E.sz=te.size)(Jw:te.zero.length=te.size)(lY:cs.length=m*te.size)(YN:∀ c∈cs,c.lt 0)(mU:cs.all AT.one=true)(sq:n+m<=9223372036854775807)(Pj:(n+m)*te.bytes<=140737488355328)(hk:∀ iB dk,n+m<=dk->GB cf ops U (je++[q]) mY kM nb ln (listed.setIfInBounds q true) Q σ ((d,.a (.v (.slice iB (n+m) dk)))::env) hp (A.set i ⟨iB,n+m,dk,E.e,E.sz,E.xs++cs.map AT.val⟩) nh): Kx cf ops U je mY kM nb ln listed q Q σ env hp A nh:=by
 simp only[cC] at hE
 obtain⟨rfl,rfl,rfl,rfl⟩:=hE
 refine ND hj hd hg hN fun hb a β ha w hw=>?_
 obtain⟨i1,d1,z1,m1⟩:=bK (hT _ _ ht)
 obtain⟨i2,d2,z2,mR⟩:=bK (hT _ _ hu)
 obtain⟨i3,d3,z3,lh⟩:=bK (hT _ _ qf)
 have tZ:cf.P.underlying t=some (.slice E.e):=by
  have h1:=m1.kind
  rw[vU] at h1
  have h2:=m1.qx
  cases d1<;>first
   | (simp only[fx,TK.slice.injEq] at h1;subst h1;exact h2)
   | (simp only[fx] at h1;cases h1)
 have Hr:z3.cells.size=E.sz:=by
  have:=zero_den lh β
  rw[<-this,jZ]
  simp[Jw]
 have pO:∀ j' v,(cs.map AT.val)[j']?=some v->w.cell? ((β j).add j')=some v:=by
  intro j' v hv
  rw[aO] at hv
  obtain⟨c,hc,rfl⟩:=map_some hv
  rw[<-AT.qi (YN c (aC hc)) β]
  exact hw.cell bU hc
 have wk:(cs.map AT.val).length=m*E.sz:=by rw[aR,lY,jZ]
 have yu:a.eval x=.slice (some (β j)) m m:=aD ha hx
 have Ep:a.eval s=.slice E.ao E.n E.cap:=aD ha hs
 obtain⟨iB,dk,w',ed,gQ,DY⟩:=hw.append hA (t:=t) (u:=u) (ty:=o.type) (x:=.slice (some (β j)) m m) (m:=m) (news:=cs.map AT.val) tZ mR.qx (oJ (by rw[mR.kind];exact O7)) lh.info lh.zero
  (by rw[lh.size,jZ]) Hr (fun _=>rfl) (fun BJ hh=>run_firstCells_some (P:=cf.P) BJ E.sz m (β j) m m _ wk fun j' v hv=>by
   have:=pO j' v hv
   rw[World.cell?,hh];exact this) wk
  (fun v hv=>by obtain⟨c,hc,rfl⟩:=bL.1 hv;exact AT.one_den fy (dc.1 mU c hc)) (by simp only[maxLen];exact sq) (by rw[lh.bytes];exact Pj)
 refine⟨.a (.v (.slice iB (E.n+m) dk)),_,w',?_,trivial,gQ,hk iB dk DY⟩
 exact lq fL (by rw[Ep,yu];exact ed)
theorem mE{q d:Nat}{o:Oper}{s x:Operand}{t u e:Nat}{T:List (Nat×TI)}(hT:cu cf.P T){ti tu te:TI}(i:Nat){E:AE}{ao:Option Addr}{n cap:Nat}{xo:Option Addr}{m xc:Nat}{rows:List (List AT)}(hj:ops[q]?=some o)(fL:og o.op=some (s,x,t,u))(hd:o.dst=some d)(hg:bt (j9 ops o) env=some true)(hN:Nat.blt d cf.N=true)(hs:bP env s=some (.a (.v (.slice ao n cap))))(hx:bP env x=some (.a (.v (.slice xo m xc))))(H:bu σ xo m xc te.size rows)(hA:A[i]?=some E)(hE:(E.ao,E.n,E.cap,E.e)=(ao,n,cap,e))(ht:eX T t=some ti)(vU:ti.kind=.slice e)(hu:eX T u=some tu)(O7:sZ tu.kind=true)(qf:eX T e=some te)(jZ:E.sz=te.size)(Jw:te.zero.length=te.size)(mU:∀ r∈rows,r.all AT.one=true)(sq:n+m<=9223372036854775807)(Pj:(n+m)*te.bytes<=140737488355328)(hk:∀ iB dk,n+m<=dk->GB cf ops U (je++[q]) mY kM nb ln (listed.setIfInBounds q true) Q σ ((d,.a (.v (.slice iB (n+m) dk)))::env) hp (A.set i ⟨iB,n+m,dk,E.e,E.sz,E.xs++rows.flatten.map AT.val⟩) nh): Kx cf ops U je mY kM nb ln listed q Q σ env hp A nh:=by
 simp only[cC] at hE
 obtain⟨rfl,rfl,rfl,rfl⟩:=hE
 refine ND hj hd hg hN fun hb a β ha w hw=>?_
 obtain⟨i1,d1,z1,m1⟩:=bK (hT _ _ ht)
 obtain⟨i2,d2,z2,mR⟩:=bK (hT _ _ hu)
 obtain⟨i3,d3,z3,lh⟩:=bK (hT _ _ qf)
 have tZ:cf.P.underlying t=some (.slice E.e):=by
  have h1:=m1.kind
  rw[vU] at h1
  have h2:=m1.qx
  cases d1<;>first
   | (simp only[fx,TK.slice.injEq] at h1;subst h1;exact h2)
   | (simp only[fx] at h1;cases h1)
 have Hr:z3.cells.size=E.sz:=by
  have:=zero_den lh β
  rw[<-this,jZ]
  simp[Jw]
 have Sn:∀(l:List (List AT)),(∀ r∈l,r.length=te.size)->l.flatten.length=l.length*te.size:=by
  intro l hl
  induction l with
  | nil=>simp
  | cons r l ih=>simp[hl r (a8 ..),ih fun q hq=>hl q (ba _ hq),eC];omega
 have wk:(rows.flatten.map AT.val).length=m*E.sz:=by
  rw[aR,Sn rows fun r hr=>(H.qv r hr).1,H.len,jZ]
 have iG:∀(l:List (List AT)),(∀ r∈l,r.length=te.size)->∀ q c,l.flatten[q]?=some c->∃ i r j,l[i]?=some r/\r[j]?=some c/\q=i*te.size+j:=by
  intro l hl
  induction l with
  | nil=>intro q c hq;simp at hq
  | cons r l ih =>
   intro q c hq
   have hr:=hl r (a8 ..)
   rw[dx] at hq
   by_cases dj:q<te.size
   ·rw[aV Zo] at hq
    exact⟨0,r,q,rfl,hq,by omega⟩
   ·rw[aW Zo] at hq
    obtain⟨i,r',j,h1,h2,h3⟩:=ih (fun q hq=>hl q (ba _ hq)) _ c hq
    exact⟨i+1,r',j,by simpa using h1,h2,by rw[eC];omega⟩
 have yu:a.eval x=.slice xo m xc:=aD ha hx
 have Ep:a.eval s=.slice E.ao E.n E.cap:=aD ha hs
 have KF:∀ BJ:World,BJ.heap=w.heap->(Builtin.firstCells E.sz m (.slice xo m xc)).run cf.P BJ=.ok (rows.flatten.map AT.val).toArray BJ:=by
  intro BJ hh
  rcases H.at_ with h0 | ⟨ad,rfl,h2⟩
  ·subst h0
   have Es:rows=[]:=aY H.len
   subst Es
   cases xo with
   | none=>rfl
   | some ad=>simp[Builtin.firstCells,loadCells,loadCellsFrom]
  ·refine run_firstCells_some (P:=cf.P) BJ E.sz m ad m xc _ wk fun q v hv=>?_
   rw[aO] at hv
   obtain⟨c,hc,rfl⟩:=map_some hv
   obtain⟨i,r,j,h3,h4,rfl⟩:=iG rows (fun r hr=>(H.qv r hr).1) q c hc
   have:=al.mb hw (h2 i r j c h3 h4)
   rw[World.cell?,hh];exact this
 obtain⟨iB,dk,w',ed,gQ,DY⟩:=hw.append hA (t:=t) (u:=u) (ty:=o.type) (x:=.slice xo m xc) (m:=m) (news:=rows.flatten.map AT.val) tZ mR.qx (oJ (by rw[mR.kind];exact O7)) lh.info lh.zero
  (by rw[lh.size,jZ]) Hr (fun _=>rfl) KF wk
  (fun v hv=>by
   obtain⟨c,hc,rfl⟩:=bL.1 hv
   obtain⟨r,hr,VM⟩:=kX.1 hc
   exact AT.one_den fy (dc.1 (mU r hr) c VM)) (by simp only[maxLen];exact sq) (by rw[lh.bytes];exact Pj)
 refine⟨.a (.v (.slice iB (E.n+m) dk)),_,w',?_,trivial,gQ,hk iB dk DY⟩
 exact lq fL (by rw[Ep,yu];exact ed)
end
end Go.Sy
namespace Go.Sy
theorem Mi{cf:Cf}{env:Env}{β:Nat->Addr}{a:Act}{w:World}(ha:nc cf env β a){o:Oper}{f:FuncId}{ys:List SV}{v:Value}(h:callee env o.op=some (f,ys))(gm:(callFunc f (ys.map (SV.den β)).toArray).run cf.P w=.ok (.value v) w): (execOp a.eval o).run cf.P w=.ok (.value v) w:=by
 unfold callee at h
 split at h
 ·rename_i c fL
  split at h
  ·rename_i fo su
   split at h
   ·rename_i g cap zs hf hz
    injection h with h
    simp only[cC] at h
    obtain⟨rfl,rfl⟩:=h
    have h1:a.eval fo=.func (.func g) #[] (cap.map (PT.den β)).toArray:=aD ha hf
    have h2:c.args.map a.eval=(zs.map (SV.den β)).toArray:=by
     have:=x8 ha _ _ hz
     rw[<-this,<-Array.toList_map]
    have h3:(zs.map (SV.den β)).toArray++(cap.map (PT.den β)).toArray=((zs++cap.map lR).map (SV.den β)).toArray:=by
     have:cap.map (SV.den β ∘ lR)=cap.map (PT.den β):=cY fun p _=>Cr β p
     rw[aF,jm,this]
     exact List.append_toArray _ _
    simp only[execOp,fL,resolve,su,h1,h2,Deferred.ofValue,Sem.run_bind,Sem.run_pure,Result.andThen_ok,invoke,Array.empty_append,h3,gm]
   ·cases h
  ·cases h
 ·cases h
section
variable {cf:Cf} {Q:Exit->Act->World->Prop} {σ:al} {env:Env} {hp:HP} {A:List AE} {nh:Nat} {it:Item} {rest:List Item}
theorem Fb{d:Nat}{f:FuncId}{ys:List SV}(y:SV)(hc:callee env it.o.op=some (f,ys))(hd:it.o.dst=some d)(hg:bt it.guard env=some true)(hN:Nat.blt d cf.N=true)(ec:(match it.tag with | .pure=>false | _=>true)=true)(hy:y.lt nh)(ed:∀(β:Nat->Addr) (w:World),dy cf σ hp A β w->(callFunc f (ys.map (SV.den β)).toArray).run cf.P w=.ok (Next.value (y.den β)) w)(k:OJ cf rest Q σ ((d,y)::env) hp A nh): OJ cf (it::rest) Q σ env hp A nh :=
 tk y hd hg hN hy ec (fun _ _ β ha w hw=>Mi ha hc (ed β w hw)) k
end
end Go.Sy
namespace Go.Sy
def G3:Op->Option (Operand×Operand×TypeId×TypeId)
 | .call c =>
  match c.callee,c.args.toList,c.argTypes.toList with
  | .builtin .copy,[x,y],[t,u]=>some (x,y,t,u)
  | _,_,_=>none
 | _=>none
theorem Du{o:Oper}{x y:Operand}{t u:TypeId}(h:G3 o.op=some (x,y,t,u)){P:Program}{a:Act}{w w':World}{v:Value}(hr:(Builtin.copy_ #[t,u] o.type #[a.eval x,a.eval y]).run P w=.ok v w'): (execOp a.eval o).run P w=.ok (.value v) w':=by
 unfold G3 at h
 split at h
 ·rename_i c fL
  split at h
  ·rename_i x' y' t' u' su fi tv
   injection h with h
   simp only[cC] at h
   obtain⟨rfl,rfl,rfl,rfl⟩:=h
   have e1:c.args=#[x',y']:=by
    cases hq:c.args with
    | mk l=>rw[hq] at fi;simp only at fi;rw[fi]
   have e2:c.argTypes=#[t',u']:=by
    cases hq:c.argTypes with
    | mk l=>rw[hq] at tv;simp only at tv;rw[tv]
   simp only[execOp,fL,resolve,su,e1,e2,invoke,builtin,Sem.run_bind,Sem.run_pure,Result.andThen_ok,kY,bx,gi,hr]
  ·cases h
 ·cases h
theorem NI{sz:Nat}: ∀(l:List (List AT)),(∀ r∈l,r.length=sz)->∀ q c,l.flatten[q]?=some c->∃ i r j,l[i]?=some r/\r[j]?=some c/\q=i*sz+j
 | [],_,q,c,hq=>by simp at hq
 | r::l,hl,q,c,hq=>by
  have hr:=hl r (a8 ..)
  rw[dx] at hq
  by_cases dj:q<sz
  ·rw[aV Zo] at hq
   exact⟨0,r,q,rfl,hq,by omega⟩
  ·rw[aW Zo] at hq
   obtain⟨i,r',j,h1,h2,h3⟩:=NI l (fun q hq=>hl q (ba _ hq)) _ c hq
   exact⟨i+1,r',j,by simpa using h1,h2,by rw[eC];omega⟩
section
variable {cf:Cf} {Q:Exit->Act->World->Prop} {σ:al} {env:Env} {hp:HP} {A:List AE} {nh:Nat} {it:Item} {rest:List Item}
theorem bu.first{β:Nat->Addr}{w:World}{ao:Option Addr}{n cap sz:Nat}{rows:List (List AT)}(H:bu σ ao n cap sz rows)(hw:dy cf σ hp A β w)(ad:Addr)(ha:ao=some ad)(n' c':Nat):
  (Builtin.firstCells sz n (.slice (some ad) n' c')).run cf.P w=.ok (rows.flatten.map AT.val).toArray w/\(rows.flatten.map AT.val).length=n*sz:=by
 have wk:(rows.flatten.map AT.val).length=n*sz:=by rw[aR,pA (sz:=sz) (fun r hr=>(H.qv r hr).1),H.len]
 refine⟨run_firstCells_some (P:=cf.P) w sz n ad n' c' _ wk fun q v hv=>?_,wk⟩
 rw[aO] at hv
 obtain⟨c,hc,rfl⟩:=map_some hv
 obtain⟨i,r,j,h3,h4,rfl⟩:=NI rows (fun r hr=>(H.qv r hr).1) q c hc
 rcases H.at_ with h0 | ⟨ad',h1,h2⟩
 ·have Es:rows=[]:=aY (by rw[H.len,h0])
  rw[Es] at h3
  simp at h3
 ·rw[ha] at h1
  injection h1 with h1
  subst h1
  exact al.mb hw (h2 i r j c h3 h4)
theorem dy.wide{β:Nat->Addr}{w:World}(h:dy cf σ hp A β w){i:Nat}{E:AE}(hi:A[i]?=some E){g:Nat}(hE:E.ao=some ⟨g,0,none⟩){n':Nat}(h1:E.n<=n')(h2:n'<=E.cap):
  ∃ ys:List Value,ys.length=(n' - E.n)*E.sz/\dy cf σ hp (A.set i ⟨E.ao,n',E.cap,E.e,E.sz,E.xs++ys⟩) β w:=by
 have x5:=h.arr i E hi
 rcases x5.2 with h3 | ⟨g',cur,h3,bU,Fx,Qf,lY,mi,qY,tw⟩
 ·rw[h3.1] at hE;cases hE
 rw[hE] at h3
 injection h3 with h3
 simp only[Addr.mk.injEq,and_true] at h3
 subst h3
 have pa:E.xs.length=E.n*E.sz:=x5.1
 have nZ:cur.toList.length=E.cap*E.sz:=by rw[cZ,lY]
 have hm1:E.n*E.sz<=n'*E.sz:=cn _ h1
 have Nn:n'*E.sz<=E.cap*E.sz:=cn _ h2
 have hm3:(n' - E.n)*E.sz=n'*E.sz - E.n*E.sz:=Nat.sub_mul _ _ _
 have Zu:((cur.toList.drop (E.n*E.sz)).take ((n' - E.n)*E.sz)).length=(n' - E.n)*E.sz:=by
  rw[aE,bm,nZ]
  omega
 have aj7:cur.toList.take (n'*E.sz)=E.xs++(cur.toList.drop (E.n*E.sz)).take ((n' - E.n)*E.sz):=by
  rw[<-mi,show n'*E.sz=E.n*E.sz+(n' - E.n)*E.sz by omega,List.take_add]
 refine⟨_,Zu,?_⟩
 have:=h.wG (E':=⟨E.ao,n',E.cap,E.e,E.sz,E.xs++(cur.toList.drop (E.n*E.sz)).take ((n' - E.n)*E.sz)⟩) (qP:=cur) hi hE bU Z Z Z Z h2 (by dsimp only;rw[af,Zu,pa];omega) lY aj7
 rw[setRow_self w g cur E.e (0,0) bU] at this
 exact this
theorem NR{c:Code}(i n':Nat){E:AE}{g:Nat}(hi:A[i]?=some E)(hE:E.ao=some ⟨g,0,none⟩)(h1:E.n<=n')(h2:n'<=E.cap)(k:∀ ys:List Value,ys.length=(n' - E.n)*E.sz->CJ cf c Q σ env hp (A.set i ⟨E.ao,n',E.cap,E.e,E.sz,E.xs++ys⟩) nh): CJ cf c Q σ env hp A nh :=
 ⟨fun hb a β w ha hw=>by
  obtain⟨ys,hy,gQ⟩:=hw.wide hi hE h1 h2
  exact(k ys hy).run hb a β w ha gQ⟩
theorem dy.over{β:Nat->Addr}{w:World}(h:dy cf σ hp A β w){i:Nat}{E:AE}(hi:A[i]?=some E){g:Nat}(hE:E.ao=some ⟨g,0,none⟩)(p m:Nat){vs:List Value}(hv:vs.length=m*E.sz)(WV:p+m<=E.n)(h1:∀ v∈vs,v.oneCell'=true):
  ∃ w',(storeCells ⟨g,p*E.sz,none⟩ vs).run cf.P w=.ok () w'/\dy cf σ hp (A.set i ⟨E.ao,E.n,E.cap,E.e,E.sz,E.xs.take (p*E.sz)++vs++E.xs.drop ((p+m)*E.sz)⟩) β w':=by
 have x5:=h.arr i E hi
 rcases x5.2 with h3 | ⟨g',cur,h3,bU,Fx,Qf,lY,mi,qY,tw⟩
 ·rw[h3.1] at hE;cases hE
 rw[hE] at h3
 injection h3 with h3
 simp only[Addr.mk.injEq,and_true] at h3
 subst h3
 have pa:E.xs.length=E.n*E.sz:=x5.1
 have nZ:cur.toList.length=E.cap*E.sz:=by rw[cZ,lY]
 have Nn:(p+m)*E.sz<=E.n*E.sz:=cn _ WV
 have hm3:(p+m)*E.sz=p*E.sz+m*E.sz:=eC _ _ _
 have hm4:E.n*E.sz<=E.cap*E.sz:=cn _ Fx
 have pL:=run_storeCells_at cf.P g (p*E.sz) E.e vs 0 cur w bU (by rw[hv,lY];omega) h1
 simp only[eM] at pL
 refine⟨_,pL,?_⟩
 refine h.wG (E':=⟨E.ao,E.n,E.cap,E.e,E.sz,E.xs.take (p*E.sz)++vs++E.xs.drop ((p+m)*E.sz)⟩) hi hE bU Z Z Z Z Fx ?_ ?_ ?_
 ·dsimp only
  simp only[af,aE,bm,pa,hv]
  omega
 ·simp only[fw,af,aE,bm,nZ,hv]
  omega
 ·dsimp only
  have e1:cur.toList.take (p*E.sz)=E.xs.take (p*E.sz):=by rw[<-mi,kc,gA Zo]
  have e2:E.xs.drop ((p+m)*E.sz)=(cur.toList.drop ((p+m)*E.sz)).take (E.n*E.sz - (p+m)*E.sz):=by rw[<-mi,List.drop_take]
  rw[e1,e2,hv,<-hm3]
  have e3:(E.xs.take (p*E.sz)++vs).length=(p+m)*E.sz:=by rw[af,aE,pa,hv];omega
  have e4:E.n*E.sz=(E.xs.take (p*E.sz)++vs).length+(E.n*E.sz - (p+m)*E.sz):=by rw[e3];omega
  conv=>lhs;rw[e4]
  rw[List.take_length_add_append]
theorem si{d:Nat}{x y:Operand}{t u e:Nat}{T:List (Nat×TI)}(hT:cu cf.P T){ti te:TI}(i:Nat){E:AE}{g:Nat}(p:Nat){n1 c1 m c2:Nat}{xo yo:Option Addr}{rows:List (List AT)}(fL:G3 it.o.op=some (x,y,t,u))(hd:it.o.dst=some d)(hg:bt it.guard env=some true)(hN:Nat.blt d cf.N=true)(Bo:iV it.tag=true)(hx:bP env x=some (.a (.v (.slice xo n1 c1))))(hy:bP env y=some (.a (.v (.slice yo m c2))))(ht:eX T t=some ti)(vU:ti.kind=.slice e)(qf:eX T e=some te)(H:bu σ yo m c2 te.size rows)(hA:A[i]?=some E)(hE:E.ao=some ⟨g,0,none⟩)(Ni:xo=some ⟨g,p*te.size,none⟩)(hm:0<m)(O5:m<=n1)(WV:p+m<=E.n)(jZ:E.sz=te.size)(mU:∀ r∈rows,r.all AT.one=true)(hk:OJ cf rest Q σ ((d,.a (.v (.int .i64 m)))::env) hp (A.set i ⟨E.ao,E.n,E.cap,E.e,E.sz,E.xs.take (p*E.sz)++rows.flatten.map AT.val++E.xs.drop ((p+m)*E.sz)⟩) nh): OJ cf (it::rest) Q σ env hp A nh:=by
 refine pZ hd hg hN Bo fun hb a β ha w hw=>?_
 obtain⟨i3,d3,z3,lh⟩:=bK (hT _ _ qf)
 have tZ:=qz (hT _ _ ht) vU
 have yu:a.eval x=.slice xo n1 c1:=aD ha hx
 have X6:a.eval y=.slice yo m c2:=aD ha hy
 obtain⟨ad,rfl⟩:∃ ad,yo=some ad:=by
  rcases H.at_ with h0 | ⟨ad,h1,_⟩
  ·omega
  ·exact⟨ad,h1⟩
 obtain⟨KF,hlen⟩:=H.first hw ad rfl m c2
 rw[<-jZ] at KF hlen
 obtain⟨w',pL,gQ⟩:=hw.over hA hE p m hlen WV (fun v hv=>by
  obtain⟨c,hc,rfl⟩:=bL.1 hv
  obtain⟨r,hr,VM⟩:=kX.1 hc
  exact AT.one_den fy (dc.1 (mU r hr) c VM))
 refine⟨.a (.v (.int .i64 m)),σ,hp,_,nh,w',β,?_,ha,hb.put (x:=.a (.v (.int .i64 m))) trivial d,gQ,hk⟩
 refine Du fL ?_
 rw[yu,X6,Ni,<-jZ]
 have tA:(Builtin.lenOf (.slice (some ad) m c2)).run cf.P w=.ok m w:=rfl
 have al9:Nat.min m n1=m:=gA O5
 simp only[Builtin.copy_,eE,bn,bg,Sem.run_bind,run_underlying tZ,Result.andThen_ok,tA,al9,gO lh.info,lh.size,<-jZ,KF,pL,Sem.run_pure]
 rfl
theorem I4{d:Nat}{x y:Operand}{t u e:Nat}{T:List (Nat×TI)}(hT:cu cf.P T){ti te:TI}(i:Nat){E:AE}{g:Nat}(p q m:Nat){n1 c1 n2 c2:Nat}{xo yo:Option Addr}(fL:G3 it.o.op=some (x,y,t,u))(hd:it.o.dst=some d)(hg:bt it.guard env=some true)(hN:Nat.blt d cf.N=true)(Bo:iV it.tag=true)(hx:bP env x=some (.a (.v (.slice xo n1 c1))))(hy:bP env y=some (.a (.v (.slice yo n2 c2))))(ht:eX T t=some ti)(vU:ti.kind=.slice e)(qf:eX T e=some te)(hA:A[i]?=some E)(hE:E.ao=some ⟨g,0,none⟩)(Ni:xo=some ⟨g,p*te.size,none⟩)(hyo:yo=some ⟨g,q*te.size,none⟩)(O5:Nat.min n2 n1=m)(WV:p+m<=E.n)(hqm:q+m<=E.n)(jZ:E.sz=te.size)(mU:∀ v∈(E.xs.drop (q*E.sz)).take (m*E.sz),v.oneCell'=true)(hk:OJ cf rest Q σ ((d,.a (.v (.int .i64 m)))::env) hp (A.set i ⟨E.ao,E.n,E.cap,E.e,E.sz,E.xs.take (p*E.sz)++(E.xs.drop (q*E.sz)).take (m*E.sz)++E.xs.drop ((p+m)*E.sz)⟩) nh): OJ cf (it::rest) Q σ env hp A nh:=by
 refine pZ hd hg hN Bo fun hb a β ha w hw=>?_
 obtain⟨i3,d3,z3,lh⟩:=bK (hT _ _ qf)
 have tZ:=qz (hT _ _ ht) vU
 have yu:a.eval x=.slice xo n1 c1:=aD ha hx
 have X6:a.eval y=.slice yo n2 c2:=aD ha hy
 have x5:=hw.arr i E hA
 have pa:E.xs.length=E.n*E.sz:=x5.1
 have Nn:(q+m)*E.sz<=E.n*E.sz:=cn _ hqm
 have hm3:(q+m)*E.sz=q*E.sz+m*E.sz:=eC _ _ _
 have hlen:((E.xs.drop (q*E.sz)).take (m*E.sz)).length=m*E.sz:=by rw[aE,bm,pa];omega
 have KF:(Builtin.firstCells E.sz m (.slice (some ⟨g,q*E.sz,none⟩) n2 c2)).run cf.P w=.ok ((E.xs.drop (q*E.sz)).take (m*E.sz)).toArray w:=by
  refine run_firstCells_some (P:=cf.P) w E.sz m _ n2 c2 _ hlen fun j v hv=>?_
  rw[fE] at hv
  split at hv
  ·rw[fF] at hv
   have:=x5.cell hE hv
   rw[Addr.add_lit]
   exact this
  ·cases hv
 obtain⟨w',pL,gQ⟩:=hw.over hA hE p m hlen WV mU
 refine⟨.a (.v (.int .i64 m)),σ,hp,_,nh,w',β,?_,ha,hb.put (x:=.a (.v (.int .i64 m))) trivial d,gQ,hk⟩
 refine Du fL ?_
 rw[yu,X6,Ni,hyo,<-jZ]
 have tA:(Builtin.lenOf (.slice (some ⟨g,q*E.sz,none⟩) n2 c2)).run cf.P w=.ok n2 w:=rfl
 simp only[Builtin.copy_,eE,bn,bg,Sem.run_bind,run_underlying tZ,Result.andThen_ok,tA,O5,gO lh.info,lh.size,<-jZ,KF,pL,Sem.run_pure]
 rfl
theorem dy.TF{β:Nat->Addr}{w:World}(h:dy cf σ hp A β w){i:Nat}{e sz:Nat}(hi:A[i]?=some ⟨none,0,0,e,sz,[]⟩){t u ty:TypeId}{ie:TypeInfo}{z:Value}{m n c:Nat}{k:IntKind}{ad:Addr}{rows:List (List AT)}(H:bu σ (some ad) n c sz rows)(Fx:c<n+m)(ht:cf.P.underlying t=some (.slice e))(hu:cf.P.underlying u=some (.int k))(Pb:cf.P.info? e=some ie)(hz:ie.zero=some z)(jZ:ie.size=sz)(X3:z.cells.size=sz)(hs0:0<sz)(hm:0<m)(sq:n+m<=maxLen)(L7:(n+m)*ie.bytes<=140737488355328):
  ∃ g dk w',(Builtin.append_ #[t,u] ty #[.slice (some ad) n c,.int .i64 m]).run cf.P w=.ok (.slice (some ⟨g,0,none⟩) (n+m) dk) w'/\dy cf σ hp (A.set i ⟨some ⟨g,0,none⟩,n+m,dk,e,sz,rows.flatten.map AT.val++(Builtin.zeroCells z.cells m).toList⟩) β w'/\n+m<=dk:=by
 have af1:=growslice_fits (old:=c) (need:=n+m) (bytes:=ie.bytes) Zo L7
 have Pc:=grownCap_ge w (n+m) c e
 have hgm:=grownCap_le_maxLen w (n+m) c e sq
 have hmi:¬ (9223372036854775807<((n+m:Nat):Int)):=by simp only[maxLen] at sq;omega
 have aj4:IntKind.i64.wrap (m:Int)=m:=IntWalk.i64_in _ (by simp only[maxLen] at sq;omega)
 have JD:¬ ((m:Int)<0):=by omega
 have hmb:m*ie.bytes<=(n+m)*ie.bytes:=cn _ Zo
 have Ue:¬ ((2:Int) ^ 48<(m:Int)*(ie.bytes:Int)):=by rw[<-Int.natCast_mul];omega
 have an7:¬ (2 ^ 48<Builtin.nextslicecap (n+m) c*ie.bytes):=by omega
 have uc:¬ (n+m<=c):=by omega
 refine⟨w.heap.size,grownCap w (n+m) c e,w.drew.alloc (.cells ((rows.flatten.map AT.val).toArray++Builtin.zeroCells z.cells m++Builtin.zeroCells z.cells (grownCap w (n+m) c e - (n+m))) e),?_,?_,Pc⟩
 ·have hms:¬ (m*sz=0):=by
   intro h
   rcases Nat.mul_eq_zero.1 h with h | h<;>omega
  simp only[Builtin.append_,eE,bn,bg,Sem.run_bind,run_underlying ht,Result.andThen_ok,gO Pb,jZ,run_underlying hu,if_true,Sem.run_pure]
  have ha:Sem.run cf.P (asInt (Value.int IntKind.i64 m)) w=.ok (m:Int) w:=rfl
  have hf0:Sem.run cf.P (Builtin.firstCells sz n (.slice (some ad) n c)) { heap:=w.heap,tape:=w.tape,drawn:=w.drawn+1,os:=w.os,output:=w.output }=.ok (rows.flatten.map AT.val).toArray w.drew:=(H.first h.ag5 ad rfl n c).1
  simp only[ha,Result.andThen_ok,aj4,JD,if_false,Sem.run_bind,sb Pb,gt_iff_lt,Ue,Sem.run_pure,cd,uc,IntKind.max_i64,hmi,false_and,an7,run_choose,Question.forced,dI,run_askRoom,Bool.not_true,hms,pg Pb hz,newRow,run_newObj]
  rw[hf0]
  rfl
 ·have P9:(rows.flatten.map AT.val).length=n*sz:=(H.first h ad rfl n c).2
  have pa:(rows.flatten.map AT.val++(Builtin.zeroCells z.cells m).toList).length=(n+m)*sz:=by rw[af,P9,cZ,size_zeroCells,X3,eC]
  refine h.Bj hi rfl Pc hgm pa ?_ ?_
  ·simp only[Array.size_append,size_zeroCells,X3,fw,P9,<-eC]
   congr 1
   omega
  ·simp only[Array.toList_append]
   rw[<-pa]
   exact ke
theorem z8{d:Nat}{s x:Operand}{t u e:Nat}{T:List (Nat×TI)}(hT:cu cf.P T){ti tu te:TI}(i:Nat){m n c:Nat}{k:IntKind}{ad:Addr}{rows:List (List AT)}(fL:og it.o.op=some (s,x,t,u))(hd:it.o.dst=some d)(hg:bt it.guard env=some true)(hN:Nat.blt d cf.N=true)(Bo:iV it.tag=true)(hs:bP env s=some (.a (.v (.slice (some ad) n c))))(hx:bP env x=some (.a (.v (.int .i64 m))))(hA:A[i]?=some ⟨none,0,0,e,te.size,[]⟩)(ht:eX T t=some ti)(vU:ti.kind=.slice e)(hu:eX T u=some tu)(O7:tu.kind=.int k)(qf:eX T e=some te)(H:bu σ (some ad) n c te.size rows)(Fx:c<n+m)(Jw:te.zero.length=te.size)(hs0:0<te.size)(hm:0<m)(sq:n+m<=9223372036854775807)(Pj:(n+m)*te.bytes<=140737488355328)(hk:∀ g dk (xs:List Value),n+m<=dk->xs.length=m*te.size->OJ cf rest Q σ ((d,.a (.v (.slice (some ⟨g,0,none⟩) (n+m) dk)))::env) hp (A.set i ⟨some ⟨g,0,none⟩,n+m,dk,e,te.size,rows.flatten.map AT.val++xs⟩) nh): OJ cf (it::rest) Q σ env hp A nh:=by
 refine pZ hd hg hN Bo fun hb a β ha w hw=>?_
 obtain⟨i3,d3,z3,lh⟩:=bK (hT _ _ qf)
 have tZ:=qz (hT _ _ ht) vU
 obtain⟨i2,d2,z2,mR⟩:=bK (hT _ _ hu)
 have huu:cf.P.underlying u=some (.int k):=by
  have h1:=mR.kind
  rw[O7] at h1
  have h2:=mR.qx
  cases d2<;>first
   | (simp only[fx,TK.int.injEq] at h1;subst h1;exact h2)
   | (simp only[fx] at h1;cases h1)
 have Hr:z3.cells.size=te.size:=by
  have:=aN Array.size (zero_den lh fy)
  rw[<-this]
  simp only[fw,aR]
  exact Jw
 have Ep:a.eval s=.slice (some ad) n c:=aD ha hs
 have yu:a.eval x=.int .i64 m:=aD ha hx
 obtain⟨g,dk,w',ed,gQ,DY⟩:=hw.TF (ty:=it.o.type) hA H Fx tZ huu lh.info lh.zero lh.size Hr hs0 hm (by simp only[maxLen];exact sq) (by rw[lh.bytes];exact Pj)
 refine⟨.a (.v (.slice (some ⟨g,0,none⟩) (n+m) dk)),σ,hp,_,nh,w',β,?_,ha,hb.put (x:=.a (.v (.slice (some ⟨g,0,none⟩) (n+m) dk))) trivial d,gQ,hk g dk _ DY (by rw[cZ,size_zeroCells,Hr])⟩
 exact lq fL (by rw[Ep,yu];exact ed)
def pd (σ:al) (g:Nat):Prop:=∃ cur e,σ g=some (.cells cur e (0,0))
theorem pd.mono{σ bD:al}{g:Nat}(h:pd σ g)(hle:σ.le bD): pd bD g:=by
 obtain⟨cur,e,h⟩:=h
 exact⟨cur,e,hle _ _ h⟩
theorem dy.aa0{β:Nat->Addr}{w:World}(h:dy cf σ hp A β w){i:Nat}{E:AE}(hi:A[i]?=some E){g:Nat}(hE:E.ao=some ⟨g,0,none⟩)(hx:0<E.xs.length):
  ∃ bD,σ.le bD/\b9 bD E/\pd bD g/\dy cf bD hp (A.eraseIdx i) β w:=by
 obtain⟨bD,h1,h2,h3⟩:=h.tb hi
 refine⟨bD,h1,h2,?_,h3⟩
 rcases(h.arr i E hi).2 with h4 | ⟨g',cur,h4,bU,_⟩
 ·rw[h4.1] at hE;cases hE
 rw[hE] at h4
 injection h4 with h4
 simp only[Addr.mk.injEq,and_true] at h4
 subst h4
 rcases h2 with h5 | ⟨g2,h5,h6⟩
 ·rw[h5.1] at hE;cases hE
 rw[hE] at h5
 injection h5 with h5
 simp only[Addr.mk.injEq,and_true] at h5
 subst h5
 have h7:=h6 0 _ (aa hx)
 unfold al.cell at h7
 split at h7
 ·rename_i c e f hc
  have:=h3.cQ _ _ hc
  rw[bU] at this
  injection this with this
  injection this with e1 e2 e3
  subst e1 e2 e3
  exact⟨_,_,hc⟩
 ·cases h7
theorem ku{mY:al}{kM:HP}{nb:Nat}{ops:Array Oper}{U je:List Nat}{n:Nat}{listed:Array Bool}(i:Nat){E:AE}{A':List AE}{g:Nat}(hi:A[i]?=some E)(hE:E.ao=some ⟨g,0,none⟩)(hx:0<E.xs.length)(hA:A.eraseIdx i=A')(h:∀ bD,σ.le bD->b9 bD E->pd bD g->GB cf ops U je mY kM nb n listed Q bD env hp A' nh): GB cf ops U je mY kM nb n listed Q σ env hp A nh:=by
 refine⟨fun hs hb xk ov hle gR a β ha hex oW hc=>mZ _ _ _ _ _ hex fun w hw=>?_⟩
 obtain⟨bD,h1,h2,h3,h4⟩:=hw.aa0 hi hE hx
 rw[hA] at h4
 exact⟨_,h4,(h bD h1 h2 h3).run hs hb xk ov (al.le_trans hle h1) gR a β ha ⟨_,h4⟩ oW hc⟩
theorem z6{d : Nat}{f : FuncId}{fn : Func}{tS tR e : TypeId}{T : List (Nat × TI)}(hT : cu cf.P T){ti te : TI}(j : Nat){F : AE}{g g' n cap m dk o : Nat}{xo yo : Option Addr}(hc : callee env it.o.op = some (f, [.a (.v (.slice xo n cap)), .a (.v (.slice yo m dk))]))(hd : it.o.dst = some d)(hg : bt it.guard env = some true)(hN : Nat.blt d cf.N = true)(ec : (match it.tag with | .pure => false | _ => true) = true)(hf : cf.P.funcs[f]? = some fn)(h1 : (fn.name == "runtime.NumGoroutine") = false)(h2 : fn.body.isNone = true)(h3 : Extern.findNext fn = none)(h4 : Extern.find fn = some (Extern.SlicesOverlaps.overlaps #[tS, tS] #[tR]))(ht : eX T tS = some ti)(vU : ti.kind = .slice e)(qf : eX T e = some te)(hV : pd σ g)(hB : A[j]? = some F)(hF : F.ao = some ⟨g', 0, none⟩)(Ni : xo = some ⟨g, 0, none⟩)(hyo : yo = some ⟨g', o, none⟩)(hFc : 0 < F.cap * F.sz)(k : OJ cf rest Q σ ((d, .a .ff) :: env) hp A nh): OJ cf (it :: rest) Q σ env hp A nh := by
 refine Fb (.a .ff) hc hd hg hN ec trivial (fun β w hw=>?_) k
 rw[run_callFunc_extern hf h1 h2 h3 h4]
 obtain⟨i3,d3,z3,lh⟩:=bK (hT _ _ qf)
 have tZ:=qz (hT _ _ ht) vU
 have hF0:=hw.arr j F hB
 obtain⟨cur,eV,X2⟩:=hV
 have bU:=hw.cQ _ _ X2
 rcases hF0.2 with h6 | ⟨gf,qP,h6,ad6,ar4,_,VL,_,ai9,_⟩
 ·rw[h6.1] at hF;cases hF
 rw[hF] at h6
 injection h6 with h6
 simp only[Addr.mk.injEq,and_true] at h6
 subst h6
 have jv:g≠g':=fun h=>by
  subst h
  rw[ai9] at X2
  cases X2
 subst Ni hyo
 have hov:=Lib.run_overlaps_apart (P:=cf.P) w tS tR e tZ te.size (fun w=>by rw[gO lh.info,lh.size]) ⟨g,0,none⟩ ⟨g',o,none⟩ n cap m dk jv eV F.e cur.size qP.size (by simp[World.shape?,bU]) (by simp[World.shape?,ad6]) (by rw[VL];omega) (by simp[World.frozen?,bU]) (by simp[World.frozen?,bU])
 show((Extern.SlicesOverlaps.overlaps #[tS,tS] #[tR] #[.slice (some ⟨g,0,none⟩) n cap,.slice (some ⟨g',o,none⟩) m dk]).run cf.P w).andThen _=_
 rw[hov]
 rfl
theorem JN{mY:al}{kM:HP}{nb:Nat}{ops:Array Oper}{U je:List Nat}{n:Nat}{listed:Array Bool}{j:Nat}(h:Kx cf ops U je mY kM nb n listed j Q σ env hp A (nh+1)): Kx cf ops U je mY kM nb n listed j Q σ env hp A nh :=
 ⟨fun hs hb xk ov=>h.run hs (hb.mono (kT nh)) xk (Nat.le_succ_of_le ov)⟩
end
end Go.Sy
namespace Go.Sy
section
variable {cf:Cf} {Q:Exit->Act->World->Prop} {σ mY:al} {env:Env} {hp kM:HP} {A:List AE} {nh nb:Nat} {ops:Array Oper} {U je:List Nat} {n:Nat} {listed:Array Bool}
theorem lB{j i:Nat}{o:Oper}{T:List (Nat×TI)}(hT:cu cf.P T){e:TypeId}{cs:List AT}(hj:ops[j]?=some o)(h:ev T o.op env hp nh=some (.put i e cs))(hd:o.dst=none)(hg:bt (j9 ops o) env=some true)(hsb:kM.get i=none)(k:GB cf ops U (je++[j]) mY kM nb n (listed.setIfInBounds j true) Q σ env ((i,.loc e,cs)::hp) A nh): Kx cf ops U je mY kM nb n listed j Q σ env hp A nh:=by
 refine⟨fun hs hb xk ov hle gR a β ha hex oW nZ hr=>?_⟩
 obtain⟨w0,CW⟩:=id oW
 have oB:Region.wanted o (yielded ops a.tmps)=true:=by rw[<-fI];exact da ha hg
 obtain⟨lY,⟨Uj,hi⟩,ed⟩:=k9 (o:=o) hT ha hb h
 unfold ly
 simp only[hj]
 rw[au oB]
 intro w hw
 unfold Oper.wq
 rw[ed σ A w hw]
 have gQ:=hw.store (cs:=cs) hi
 have CX:yE kM ((i,HK.loc e,cs)::hp):=by
  intro q y hy
  rw[HP.ee]
  by_cases hq:i=q
  ·subst hq
   rw[hsb] at hy
   cases hy
  ·rw[ai hq]
   exact gR q y hy
 refine⟨_,_,gQ,fun x hx=>CW.base hle CX hx,.inl fun _ h=>h,?_⟩
 rw[hd]
 exact k.run hs (hb.row (hb.hp i _ _ hi).1 lY) xk ov hle CX _ β ha ⟨_,gQ⟩ ⟨_,CW⟩ (nZ.set hr)
end
section
variable {cf:Cf} {Q:Exit->Act->World->Prop} {σ:al} {env:Env} {hp:HP} {A:List AE} {nh:Nat} {ops:Array Oper} {U je:List Nat} {n:Nat} {listed:Array Bool} {fst:Bool}
theorem SK{i j l:Nat}(hr:(Region.ready .any ops listed == [i,j,l])=true)(ki:GK cf ops U je n listed i Q σ env hp A nh)(kj:GK cf ops U je n listed j Q σ env hp A nh)(kl:GK cf ops U je n listed l Q σ env hp A nh):
  GJ cf ops U je (n+1) listed fst Q σ env hp A nh :=
 NC [i,j,l] hr rfl fun m hm=>by
  simp only[bM,dA,or_false] at hm
  rcases hm with rfl | rfl | rfl
  ·exact ki
  ·exact kj
  ·exact kl
end
end Go.Sy
namespace Go.Sy
section
variable {cf:Cf} {Q:Exit->Act->World->Prop} {σ mY:al} {env:Env} {hp kM:HP} {A:List AE} {nh nb:Nat} {ops:Array Oper} {U je:List Nat} {n:Nat} {listed:Array Bool}
theorem GV(t:Nat){x:SV}(y:SV)(h:env.get t=some x)(hy:y.lt nh)(AN:∀ β,x.den β=y.den β)(k:GB cf ops U je mY kM nb n listed Q σ ((t,y)::env) hp A nh): GB cf ops U je mY kM nb n listed Q σ env hp A nh:=by
 refine⟨fun hs hb xk ov hle gR a β ha hex oW hc=>k.run hs (hb.put hy t) xk ov hle gR a β ⟨ha.size,ha.defers,fun i z hz=>?_⟩ hex oW hc⟩
 rw[Env.ee] at hz
 by_cases hi:t=i
 ·rw[au hi] at hz
  injection hz with hz
  subst hz;subst hi
  rw[<-AN β];exact ha.env t _ h
 ·rw[ai hi] at hz;exact ha.env i z hz
theorem SN{i d:Nat}{o:Oper}(y:SV)(hi:ops[i]?=some o)(hr:(Region.ready .any ops listed).contains i=true)(hf:Region.free .any ops listed i=true)(hk:U.contains i=false)(hd:o.dst=some d)(hg:bt (j9 ops o) env=some true)(hN:Nat.blt d cf.N=true)(hy:y.lt nh)(ed:∀ a β,nc cf env β a->∀ w,dy cf mY kM [] β w->(execOp a.eval o).run cf.P w=.ok (.value (y.den β)) w)(k:GB cf ops U (je++[i]) mY kM nb n (listed.setIfInBounds i true) Q σ ((d,y)::env) hp A nh): GB cf ops U je mY kM nb (n+1) listed Q σ env hp A nh:=by
 refine⟨fun hs hb xk ov hle gR a β ha hex oW hc=>?_⟩
 obtain⟨w0,CW⟩:=id oW
 have sx:d<cf.N:=by simpa[fD] using hN
 have uo:i∈Region.ready .any ops listed:=by simpa using hr
 have hw:Region.wanted o (yielded ops a.tmps)=true:=by rw[<-fI];exact da ha hg
 have mS:=k.run hs (hb.put hy d) xk ov hle gR _ β (ha.put sx y) hex oW (hc.set uo)
 exact k7 hi (Region.noSelect_spec hs) n listed a _ _ hc (fun y hy=>CW.base hle gR hy) (Region.free_spec hi hf) uo ⟨.inl ⟨hw,fun w x5=>.inl (ed a β ha w x5)⟩,fun hu=>absurd (jP.2 hu) (by rw[hk];decide)⟩ (by rw[hd];exact mS)
theorem pz{j d:Nat}{o:Oper}{f:FuncId}{ys:List SV}{Φ:Value->al->Prop}(hj:ops[j]?=some o)(hc:callee env o.op=some (f,ys))(hd:o.dst=some d)(hg:bt (j9 ops o) env=some true)(hN:Nat.blt d cf.N=true)(gm:∀ args w,(callFunc f args).run cf.P w=.ok (.enter f args) w)(dj:jj ys)(hC:fa cf.P f ys σ Φ)(k:∀ v bD,σ.le bD->Φ v bD->∃ y:SV,y.lt 0/\y.den fy=v/\GB cf ops U (je++[j]) bD kM nb n (listed.setIfInBounds j true) Q bD ((d,y)::env) hp A nh): Kx cf ops U je mY kM nb n listed j Q σ env hp A nh:=by
 refine⟨fun hs hb xk ov hle gR a β ha hex oW nZ hr=>?_⟩
 obtain⟨w0,CW⟩:=id oW
 have sx:d<cf.N:=by simpa[fD] using hN
 have pQ:∀ {y:SV},y.lt 0->y.den β=y.den fy:=fun hy=>SV.dM (n:=0) (fun i hi=>by omega) hy
 have fi:(ys.map (SV.den β)).toArray=(ys.map (SV.den fy)).toArray:=by
  rw[cY fun y hy=>pQ (dj.of y hy)]
 have oB:Region.wanted o (yielded ops a.tmps)=true:=by rw[<-fI];exact da ha hg
 unfold ly
 simp only[hj]
 rw[au oB]
 intro w hw
 unfold Oper.wq
 rw[oX ha hc gm]
 simp only[Oper.uponIn]
 rw[fi]
 refine⟨fun h=>(by cases h),CallsIn.mono (jW.2 (hC w hw.cQ)) fun e w' ⟨v,bD,he,h1,h2,h3,h4⟩=>?_⟩
 subst he
 have gQ:=hw.after h1 h2 h3
 obtain⟨y,hy,Jx,hk⟩:=k v bD h2.le h4
 have R9:dy cf bD kM [] β w':=by
  have:=gQ.Xg
  exact this.sub gR
 refine⟨fun x=>dy cf bD kM [] β x,_,gQ,fun x hx=>R9.base (al.le_refl _) gR hx,.inl fun x hx=>CW.base (al.le_trans hle h2.le) (fun i y h=>h) hx,?_⟩
 have:=hk.run hs (hb.put (SV.eT (ay _) hy) d) xk ov (al.le_refl _) gR (a.put (some d) (y.den β)) β (ha.put sx y) ⟨_,gQ⟩ ⟨w',R9⟩ (nZ.set hr)
 rw[hd,<-Jx,<-pQ hy]
 exact this
theorem uT{j d:Nat}{o:Oper}{f:FuncId}{ys:List SV}{Φ:Value->Prop}(hj:ops[j]?=some o)(hc:callee env o.op=some (f,ys))(hd:o.dst=some d)(hg:bt (j9 ops o) env=some true)(hN:Nat.blt d cf.N=true)(gm:∀ args w,(callFunc f args).run cf.P w=.ok (.enter f args) w)(dj:jj ys)(hC:bZ cf.P f ys σ Φ)(k:∀ v bD,σ.le bD->Φ v->∃ y:SV,y.lt 0/\y.den fy=v/\GB cf ops U (je++[j]) bD kM nb n (listed.setIfInBounds j true) Q bD ((d,y)::env) hp A nh): Kx cf ops U je mY kM nb n listed j Q σ env hp A nh :=
 pz (Φ:=fun v _=>Φ v) hj hc hd hg hN gm dj hC k
end
end Go.Sy
namespace Go.Sy
theorem DA{cf:Cf}{σ:al}{hp:HP}{A:List AE}{β:Nat->Addr}{w:World}(hw:dy cf σ hp A β w){ao:Option Addr}{n cap:Nat}{l:List UInt8}(H:bu σ ao n cap 1 (gM l)):
  (Extern.Bytes.bytesOf (.slice ao n cap)).run cf.P w=.ok ⟨l.toArray⟩ w:=by
 have hn:l.length=n:=by rw[<-H.len,wB]
 by_cases h0:n=0
 ·have hl:l=[]:=aY Zo
  subst hl
  subst h0
  cases ao<;>rfl
 rcases H.at_ with h1 | ⟨ad,rfl,h⟩
 ·exact absurd h1 h0
 have h5:=Lib.run_loadBytesX (P:=cf.P) w (l.map fun u=>(u.toNat:Int)) ad .empty fun j x hx=>by
  rw[aO] at hx
  cases hl:l[j]? with
  | none=>rw[hl] at hx;cases hx
  | some u =>
   rw[hl] at hx
   obtain rfl:=bI hx
   have:=al.mb hw (h j _ 0 _ (sV hl) rfl)
   rw[kS,eM] at this
   exact this
 have h9:Lib.bytesOf (l.map fun u=>(u.toNat:Int))=l:=by
  unfold Lib.bytesOf
  rw[jm]
  conv=>rhs;rw[<-List.map_id l]
  exact cY fun u _=>by simp
 rw[aR,hn,h9] at h5
 show(Extern.Bytes.loadBytes ad n .empty).run cf.P w=_
 rw[h5]
 congr 1
 apply ByteArray.ext
 show(#[]:Array UInt8)++l.toArray=l.toArray
 simp
section
variable {cf:Cf} {Q:Exit->Act->World->Prop} {σ:al} {env:Env} {hp:HP} {A:List AE} {nh:Nat} {it:Item} {rest:List Item}
theorem I6{d : Nat}{f : FuncId}{fn : Func}{ao bo : Option Addr}{n m cap bap : Nat}{l k : List UInt8}(hc : callee env it.o.op = some (f, [.a (.v (.slice ao n cap)), .a (.v (.slice bo m bap))]))(hd : it.o.dst = some d)(hg : bt it.guard env = some true)(hN : Nat.blt d cf.N = true)(ec : (match it.tag with | .pure => false | _ => true) = true)(hf : cf.P.funcs[f]? = some fn)(h1 : (fn.name == "runtime.NumGoroutine") = false)(h2 : fn.body.isNone = true)(h3 : Extern.findNext fn = none)(h4 : Extern.find fn = some Extern.BytealgCompare.compare)(H : bu σ ao n cap 1 (gM l))(K : bu σ bo m bap 1 (gM k))(kk : OJ cf rest Q σ ((d, .a (.v (.int .i64 (Lib.compareBytes l k)))) :: env) hp A nh): OJ cf (it :: rest) Q σ env hp A nh := by
 refine Fb (.a (.v (.int .i64 (Lib.compareBytes l k)))) hc hd hg hN ec trivial (fun β w hw=>?_) kk
 rw[run_callFunc_extern hf h1 h2 h3 h4]
 show((Extern.BytealgCompare.compare #[.slice ao n cap,.slice bo m bap]).run cf.P w).andThen _=.ok (Next.value (.int .i64 (Lib.compareBytes l k))) w
 have e1:=DA hw H
 have e2:=DA hw K
 have h5:(Extern.BytealgCompare.compare #[.slice ao n cap,.slice bo m bap]).run cf.P w=.ok (.int .i64 (Lib.compareBytes l k)) w:=by
  change Sem.run cf.P (do pure (goInt (Extern.BytealgCompare.cmp (<-Extern.Bytes.bytesOf (.slice ao n cap)) (<-Extern.Bytes.bytesOf (.slice bo m bap))))) w=_
  simp only[Sem.run_bind,Sem.run_pure,e1,e2,Result.andThen]
  rw[Lib.cmp_eq]
  rfl
 rw[h5]
 rfl
end
end Go.Sy
namespace Go.Sy
structure Bx (q:Prop):Prop where
 run:q
theorem Zr{p q:Prop}(k:q)(h:Bx q->p:=by
 intro x
 refine aM TT rfl ?_
 exact x.run): p:=h ⟨k⟩
theorem Za{p q:Prop}(k:q)(h:Bx q->p:=by
 intro x
 repeat first | refine gz ?_ | refine KG TT rfl ?_ | refine iu ?_
 exact x.run): p:=h ⟨k⟩
theorem gX{p q:Prop}(k:q)(h:Bx q->p:=by
 intro x
 refine aM TT rfl ?_
 repeat first | refine gz ?_ | refine KG TT rfl ?_ | refine iu ?_
 exact x.run): p:=h ⟨k⟩
theorem Zb{p q:Prop}(k:q)(h:Bx q->p:=by
 intro x
 repeat first | refine gz ?_ | refine KG TT rfl ?_ | refine iu ?_ | refine By rfl ?_ | refine xd ?_ | refine pj ?_ | refine nV ?_
 exact x.run): p:=h ⟨k⟩
theorem gn{p q:Prop}(k:q)(h:Bx q->p:=by
 intro x
 refine aM TT rfl ?_
 repeat first | refine gz ?_ | refine KG TT rfl ?_ | refine iu ?_ | refine By rfl ?_ | refine xd ?_ | refine pj ?_ | refine nV ?_
 exact x.run): p:=h ⟨k⟩
theorem Zc{p q:Prop}(k:q)(h:Bx q->p:=by
 intro x
 repeat first | refine gz ?_ | refine KG TT rfl ?_ | refine uC ?_ | refine rD ?_ | refine nT ?_ | refine uG ?_ | (refine eO Z Z Z Z Z Z Zo ?_;refine aM TT rfl ?_)
 exact x.run): p:=h ⟨k⟩
theorem lP{p q:Prop}(k:q)(h:Bx q->p:=by
 intro x
 refine aM TT rfl ?_
 repeat first | refine gz ?_ | refine KG TT rfl ?_ | refine uC ?_ | refine rD ?_ | refine nT ?_ | refine uG ?_ | (refine eO Z Z Z Z Z Z Zo ?_;refine aM TT rfl ?_)
 exact x.run): p:=h ⟨k⟩
theorem Zd{p q:Prop}(k:q)(h:Bx q->p:=by
 intro x
 repeat first | refine gz ?_ | refine KG TT rfl ?_ | refine iu ?_ | refine rD ?_ | refine qS ?_ | refine nT ?_
 exact x.run): p:=h ⟨k⟩
theorem Hz{p q:Prop}(k:q)(h:Bx q->p:=by
 intro x
 refine aM TT rfl ?_
 repeat first | refine gz ?_ | refine KG TT rfl ?_ | refine iu ?_ | refine rD ?_ | refine qS ?_ | refine nT ?_
 exact x.run): p:=h ⟨k⟩
theorem Ze{p q:Prop}(k:q)(h:Bx q->p:=by
 intro x
 repeat first | refine gz ?_ | refine KG TT rfl ?_ | refine iu ?_ | refine Bz rfl ?_ | refine BA ?_ | refine xd ?_ | refine nT ?_ | refine p9 ?_ | refine qa ?_
 exact x.run): p:=h ⟨k⟩
theorem D2{p q:Prop}(k:q)(h:Bx q->p:=by
 intro x
 refine aM TT rfl ?_
 repeat first | refine gz ?_ | refine KG TT rfl ?_ | refine iu ?_ | refine Bz rfl ?_ | refine BA ?_ | refine xd ?_ | refine nT ?_ | refine p9 ?_ | refine qa ?_
 exact x.run): p:=h ⟨k⟩
theorem Zg{p q:Prop}(k:q)(h:Bx q->p:=by
 intro x
 repeat first | refine gz ?_ | refine KG TT rfl ?_ | refine iu ?_ | refine uC ?_ | refine By rfl ?_ | refine Bz rfl ?_ | refine rD ?_ | refine qS ?_ | refine BA ?_ | refine xd ?_ | refine nT ?_ | refine p9 ?_ | refine pj ?_ | refine uG ?_ | refine nV ?_ | refine qa ?_ | refine Aa rfl ?_ | (refine M3 Z Z Z Z Z Z ?_;refine aM TT rfl ?_) | (refine RB Z Z Z Z Z Z ?_;refine aM TT rfl ?_) | (refine CF Z Z Z Z Z Z ?_;refine aM TT rfl ?_) | (refine jY TT _ Z Z Z Z Z Z Z Z Z ?_;refine aM TT rfl ?_) | (refine M0 Z Z Z Z Z Z (by decide) ?_;refine aM TT rfl ?_) | (refine MZ Z Z Z Z Z Z (by decide) ?_;refine aM TT rfl ?_) | (refine IZ TT Z Z Z Z Z Z Z Z ?_;refine aM TT rfl ?_) | (refine eO Z Z Z Z Z Z Zo ?_;refine aM TT rfl ?_) | (refine iY Z Z Z Z Z Z Zo ?_;refine aM TT rfl ?_) | refine Ke ?_ | refine Tp rfl ?_ | refine Vc ?_ | refine OO ?_ | refine Ll ?_
 exact x.run): p:=h ⟨k⟩
theorem pC{p q:Prop}(k:q)(h:Bx q->p:=by
 intro x
 refine aM TT rfl ?_
 repeat first | refine gz ?_ | refine KG TT rfl ?_ | refine iu ?_ | refine uC ?_ | refine By rfl ?_ | refine Bz rfl ?_ | refine rD ?_ | refine qS ?_ | refine BA ?_ | refine xd ?_ | refine nT ?_ | refine p9 ?_ | refine pj ?_ | refine uG ?_ | refine nV ?_ | refine qa ?_ | refine Aa rfl ?_ | (refine M3 Z Z Z Z Z Z ?_;refine aM TT rfl ?_) | (refine RB Z Z Z Z Z Z ?_;refine aM TT rfl ?_) | (refine CF Z Z Z Z Z Z ?_;refine aM TT rfl ?_) | (refine jY TT _ Z Z Z Z Z Z Z Z Z ?_;refine aM TT rfl ?_) | (refine M0 Z Z Z Z Z Z (by decide) ?_;refine aM TT rfl ?_) | (refine MZ Z Z Z Z Z Z (by decide) ?_;refine aM TT rfl ?_) | (refine IZ TT Z Z Z Z Z Z Z Z ?_;refine aM TT rfl ?_) | (refine eO Z Z Z Z Z Z Zo ?_;refine aM TT rfl ?_) | (refine iY Z Z Z Z Z Z Zo ?_;refine aM TT rfl ?_) | refine Ke ?_ | refine Tp rfl ?_ | refine Vc ?_ | refine OO ?_ | refine Ll ?_
 exact x.run): p:=h ⟨k⟩
theorem Zl{p:Prop}(h:p:=by repeat' first | exact trivial | exact bh rfl | exact dF _ _ _ _ _ _ | exact dw _ _ | exact az _ _ | exact b6 _ _ | exact bT _ _ | exact eJ _ _ | exact mB _ _ | exact vK _ _ _ _ _ | exact oU _ | exact fP _ _ | exact ab0 _ _ | exact IF _ | refine kz.of ?_ | refine SV.iv ?_ | exact SV.ez | exact AT.ez | exact eQ.qv (by assumption) | constructor): p:=h
theorem Zs{p:Prop}(h:p:=by repeat first | exact trivial | refine⟨rfl,?_⟩): p:=h
end Go.Sy
namespace Go.Sy
structure cq where
 doc:Int
 at_:Int
 st:Int
 en:Int
 lv:Int
deriving DecidableEq
theorem UF{α:Type}{motive:List α->Prop}(nil:motive [])(snoc:∀ ss s,motive ss->motive (ss++[s]))(l:List α): motive l:=by
 have h:∀ m:List α,motive m.reverse:=fun m=>by
  induction m with
  | nil=>exact nil
  | cons x m ih=>rw[List.reverse_cons];exact snoc _ _ ih
 have:=h l.reverse
 rwa [List.reverse_reverse] at this
end Go.Sy
namespace Go.Sy
open Go.Proofs
theorem mixed: Tryz.prog.follows .mixedOrders=true:=by kernel_rfl
theorem ag4(σ:al)(g:aJ): ∀(r:List AT) (left deep:Int),eQ σ g r -> -281474976710656<=left->left<=1099511627776->0<=deep->deep<=1000 ->
  bZ Tryz.prog 57 [.agg r,.a (.v (.int .i64 left)),.a (.v (.int .i64 deep))] σ (fun v=>∃ x:Int,v=.int .i64 x /\ -1125899906842624<=x/\x<=1099511627776/\(0<=x->x+g.weight<=left)):=by
 induction g using aJ.sL with | _ g ih=>?_
 intro r left deep hr lJ Hw Ev VJ
 obtain⟨la,lc,fG,ma,mc,ft,rfl,V⟩:=hr.open
 have hdg:=V.dg
 have hs:=V.s
 have Np:=V.ll
 have cz:=V.kl
 simp only[bJ] at hdg hs Np cz
 refine bW Tryz.func57 Z Z Zl fun w=>?_
 refine Za ?_
 refine aG rfl (fun h=>?_) (fun h=>?_)
 ·refine Zb ?_
  refine aw TT rfl fun β w' _ _=>?_
  exact⟨-1,rfl,by omega,by omega,by omega⟩
 have hd3:deep<=150:=by simpa using h
 have hw:=g.mq
 refine Zg ?_
 refine fm (fun _=>σ) (fun(x:Int)=>[(1,.a (.v (.int .i64 x))),(2,.a (.v (.int .i64 deep))),(3,.a (.p 0 0))]) (fun _=>[(0,.loc 28,dN g la lc ma mc)]) (fun _=>[]) 1
  (fun x => -1125899906842624<=x/\x<=1099511627776/\(0<=x->x+1+g.s.size+g.n.dg.size+aJ.weights g.l<=left)) ?_ (fun x ⟨Jy,LL,WQ⟩=>?_)
 ·refine gC (fun _ _=>σ) (fun(k:Nat) (x:Int)=>[(1,.a (.v (.int .i64 x))),(2,.a (.v (.int .i64 deep))),(3,.a (.p 0 0)),(7,.a (.v (.int .i64 k)))]) (fun _ _=>[(0,.loc 28,dN g la lc ma mc)]) (fun _ _=>[]) 1
   (fun k x=>k<=g.l.length /\ -1125899906842624<=x/\x<=1099511627776/\(0<=x->x+1+g.s.size+g.n.dg.size+aJ.weights (g.l.take k)<=left)) (fun k _=>g.l.length - k) 0 (left - 1 - g.s.size - g.n.dg.size)
   ⟨ay _,by omega,by omega,by simp[aJ.weights];omega⟩ rfl Zs Zs rfl Zl Zl fun k x ⟨hk,Jy,LL,WQ⟩=>?_
  refine Za ?_
  refine ax 27 rfl (fun h=>?_) (fun h=>?_)
  ·refine gX ?_
   refine aG rfl (fun h0=>?_) (fun h0=>?_)
   ·have Hx:k<g.l.length:=by simpa using h
    have Zv:0<=x:=by simpa using h0
    refine Zd ?_
    obtain⟨r,um,xh⟩:=V.l.get (aa Hx)
    obtain⟨Lx,Lw,pI,Ls,Lp,pE,rfl,V'⟩:=xh.open
    refine bk TT Z Z Z Z Z Z Z Z Z V.L Zo um (Zr ?_)
    refine Zc ?_
    refine aT Z Z Z Z Z Tryz.call57 Zl (ih _ (xp (aP Hx)) _ _ _ V'.rep Zo Zo Zo Zo) fun v ⟨x',hv,hx4,hx5,hx6⟩=>⟨.a (.v (.int .i64 x')),trivial,hv.symm,?_⟩
    refine lP ?_
    refine an (k+1,x') ⟨Hx,hx4,hx5,fun h=>?_⟩ (by dsimp only;omega) rfl Zs Zs rfl Zl Zl
    dsimp only at h ⊢
    have:=WQ Zo
    have:=hx6 h
    rw[xm (aa Hx)]
    omega
   ·have Zv:x<0:=by simpa using h0
    refine Ze ?_
    refine an x ⟨Jy,LL,fun h=>by omega⟩ Zo rfl Zs Zs rfl Zl Zl
  ·have fQ:k=g.l.length:=by simp at h;omega
   refine D2 ?_
   refine an x ⟨Jy,LL,fun h=>?_⟩ Zo rfl Zs Zs rfl Zl Zl
   have:=WQ h
   rw[fQ,aI] at this
   exact this
 ·refine Zd ?_
  refine fm (fun _=>σ) (fun(x:Int)=>[(1,.a (.v (.int .i64 x))),(2,.a (.v (.int .i64 deep))),(3,.a (.p 0 0))]) (fun _=>[(0,.loc 28,dN g la lc ma mc)]) (fun _=>[]) 1
   (fun x => -1125899906842624<=x/\x<=1099511627776/\(0<=x->x+g.weight<=left)) ?_ (fun x ⟨Jy,LL,WQ⟩=>?_)
  ·refine gC (fun _ _=>σ) (fun(k:Nat) (x:Int)=>[(1,.a (.v (.int .i64 x))),(2,.a (.v (.int .i64 deep))),(3,.a (.p 0 0)),(8,.a (.v (.int .i64 k)))]) (fun _ _=>[(0,.loc 28,dN g la lc ma mc)]) (fun _ _=>[]) 1
    (fun k x=>k<=g.ks.length /\ -1125899906842624<=x/\x<=1099511627776/\(0<=x->x+1+g.s.size+g.n.dg.size+aJ.weights g.l+mQ (g.ks.take k)+aJ.weights (g.vs.take k)<=left)) (fun k _=>g.ks.length - k) 0 x
    ⟨ay _,by omega,by omega,by simp[aJ.weights,mQ];omega⟩ rfl Zs Zs rfl Zl Zl fun k x ⟨hk,Jy,LL,WQ⟩=>?_
   refine Za ?_
   refine ax 47 rfl (fun h=>?_) (fun h=>?_)
   ·refine gX ?_
    refine aG rfl (fun h0=>?_) (fun h0=>?_)
    ·have Hx:k<g.ks.length:=by simpa using h
     have yw:k<g.vs.length:=by have:=V.kv;omega
     have Zv:0<=x:=by simpa using h0
     refine Zd ?_
     obtain⟨r,um,xh⟩:=V.v.get (aa yw)
     obtain⟨Lx,Lw,pI,Ls,Lp,pE,rfl,V'⟩:=xh.open
     have bU:=ia (aa Hx) um
     have hkk:=V.kk _ (aP Hx)
     simp only[bJ] at hkk
     refine ck [(0,.pure),(1,.quiet),(2,.pure),(3,.pure),(4,.pure),(5,.quiet),(6,.pure),(7,.pure),(8,.quiet),(9,.pure),(10,.pure),(11,.pure),(12,.quiet),(13,.pure),(14,.pure),(15,.pure),(16,.pure),(17,.dP),(18,.pure)] mixed Zk (aM TT rfl ?_)
     refine bk TT Z Z Z Z Z Z Z Z Z V.M Zo bU (Zr ?_)
     refine bk TT Z Z Z Z Z Z Z Z Z V.M Zo bU (Zr ?_)
     refine Zg ?_
     refine aT Z Z Z Z Z Tryz.call57 Zl (ih _ (xn (aP yw)) _ _ _ V'.rep Zo Zo Zo Zo) fun v ⟨x',hv,hx4,hx5,hx6⟩=>⟨.a (.v (.int .i64 x')),trivial,hv.symm,?_⟩
     refine lP ?_
     refine an (k+1,x') ⟨Hx,hx4,hx5,fun h=>?_⟩ (by dsimp only;omega) rfl Zs Zs rfl Zl Zl
     dsimp only at h ⊢
     have:=WQ Zo
     have:=hx6 h
     rw[xm (aa yw),KV (aa Hx)]
     omega
    ·have Zv:x<0:=by simpa using h0
     refine Ze ?_
     refine an x ⟨Jy,LL,fun h=>by omega⟩ Zo rfl Zs Zs rfl Zl Zl
   ·have fQ:k=g.ks.length:=by simp at h;omega
    refine D2 ?_
    refine an x ⟨Jy,LL,fun h=>?_⟩ Zo rfl Zs Zs rfl Zl Zl
    have:=WQ h
    rw[fQ,aI,V.kv,aI] at this
    omega
  ·refine Zb ?_
   refine aw TT rfl fun β w' _ _=>?_
   exact⟨x,rfl,Jy,LL,WQ⟩
theorem ah4(σ:al)(g:aJ)(r:List AT)(Je:Int)(hr:eQ σ g r)(h1:0<=Je)(h2:Je<=1000000):
  bZ Tryz.prog 13 [.agg r,.a (.v (.int .i64 Je))] σ (fun v=>∃ b:Bool,v=.bool b/\(b=true->(g.weight:Int)<=Je)):=by
 obtain⟨la,lc,fG,ma,mc,ft,rfl,V⟩:=hr.open
 refine bW Tryz.func13 Z Z Zl fun w=>?_
 refine Za ?_
 refine aT Z Z Z Z Z Tryz.call57 Zl (ag4 σ g _ _ _ V.rep Zo Zo Zo Zo) fun v ⟨x',hv,hx4,hx5,hx6⟩=>⟨.a (.v (.int .i64 x')),trivial,hv.symm,?_⟩
 refine gn ?_
 refine aw TT rfl fun β w' _ _=>?_
 refine⟨_,rfl,fun h=>?_⟩
 have:=hx6 (by simpa using h)
 have:0<=x':=by simpa using h
 omega
end Go.Sy
namespace Go.Sy
open Go.Proofs
theorem Qt: Tryz.prog.underlying 354=some (.array 256 4):=by kernel_rfl
theorem D6: Tryz.prog.underlying 4=some .bool:=by kernel_rfl
theorem Tr: Tryz.prog.cellsOf 4=1:=by kernel_rfl
theorem Dv(σ:al)(p:UInt8->Bool)(g:Nat)(h:∀ u:UInt8,σ.cell ⟨g,u.toNat,none⟩=some (.bool (p u)))(u:UInt8):
  bZ Tryz.prog 264 [.a (.v (.pointer (some ⟨g,0,none⟩))),.a (.v (.int .u8 u.toNat))] σ (fun v=>v=.bool (p u)):=by
 refine bW Tryz.func264 Z Z Zl fun w=>?_
 have hu:u.toNat<256:=u.toNat_lt
 refine Za ?_
 refine Lj 4 256 Qt D6 Z Z Z Z Z Z Zo Zo ⟨g,u.toNat,none⟩ (by rw[show Tryz.prog.cellsOf 4=1 from Tr,jM,kS];rfl) (Zr ?_)
 refine oR (c:=.b (p u)) TT Z Z Z Z Z Z Z Z (h u) trivial (Zr ?_)
 refine Zb ?_
 refine aw TT rfl fun β w' _ _=>?_
 rfl
theorem AH(σ:al)(p:UInt8->Bool)(g:Nat)(h:∀ u:UInt8,σ.cell ⟨g,u.toNat,none⟩=some (.bool (p u)))(l:List UInt8):
  bZ Tryz.prog 253 [.a (.v (.string (ju l))),.a (.v (.pointer (some ⟨g,0,none⟩)))] σ (fun v=>v=.string (ju (l.dropWhile p))):=by
 refine bW Tryz.func253 Z Z Zl fun w=>?_
 refine Zd ?_
 refine bX (fun _=>σ) (fun(k:List UInt8)=>[(0,.a (.v (.string (ju k)))),(1,.a (.v (.pointer (some ⟨g,0,none⟩))))]) (fun _=>[]) (fun _=>[]) 0
  (fun k=>k.dropWhile p=l.dropWhile p) (fun k=>k.length) l Z Z Zs Zs rfl Zl Zl fun k hk=>?_
 refine Za ?_
 refine aG rfl (fun hc=>?_) (fun hc=>?_)
 ·cases k with
  | nil=>simp at hc
  | cons u k =>
   refine Zd ?_
   refine fz (u:=u) TT Z Z Z Z Z Z Z Z Zo (by rfl) (Zr ?_)
   refine Za ?_
   refine aT Z Z Z Z Z Tryz.call264 Zl (Dv σ p g h u) fun v hv=>⟨.a (.b (p u)),trivial,hv.symm,?_⟩
   refine gX ?_
   refine aG rfl (fun hp=>?_) (fun hp=>?_)
   ·refine Zg ?_
    refine aw TT rfl fun β w' _ _=>?_
    have:p u=false:=by simpa using hp
    rw[<-hk,List.dropWhile_cons_of_neg (by simp[this])]
    rfl
   ·have nF:p u=true:=by simpa using hp
    refine Zc ?_
    refine p7 (vl:=some (.int .i64 1)) (vh:=none) TT 1 (k.length+1) Z Z Z Z Z Z Z Z Z (.inr ⟨_,_,rfl,rfl⟩) (.inl ⟨rfl,by simp⟩) Zo (by simp) (Zr ?_)
    refine Zc ?_
    rw[Ac,show List.drop 1 (List.take (k.length+1) (u::k))=k by simp]
    refine an k ?_ (by simp) rfl Zs Zs rfl Zl Zl
    rw[<-hk,List.dropWhile_cons_of_pos nF]
 ·refine Ze ?_
  refine aw TT rfl fun β w' _ _=>?_
  have:k=[]:=by cases k with
   | nil=>rfl
   | cons u k=>simp at hc
  subst this
  rw[<-hk]
  rfl
def nN (p:UInt8->Bool) (l:List UInt8):List UInt8:=(l.reverse.dropWhile p).reverse
theorem BP(p:UInt8->Bool)(l:List UInt8)(u:UInt8): nN p (l++[u])=if p u then nN p l else l++[u]:=by
 unfold nN
 rw[List.reverse_append,List.reverse_singleton,List.singleton_append,List.dropWhile_cons]
 split<;>simp
theorem yC(σ:al)(p:UInt8->Bool)(g:Nat)(h:∀ u:UInt8,σ.cell ⟨g,u.toNat,none⟩=some (.bool (p u)))(l:List UInt8)(hl:l.length<=bJ):
  bZ Tryz.prog 254 [.a (.v (.string (ju l))),.a (.v (.pointer (some ⟨g,0,none⟩)))] σ (fun v=>v=.string (ju (nN p l))):=by
 simp only[bJ] at hl
 refine bW Tryz.func254 Z Z Zl fun w=>?_
 refine Zd ?_
 refine bX (fun _=>σ) (fun(k:List UInt8)=>[(0,.a (.v (.string (ju k)))),(1,.a (.v (.pointer (some ⟨g,0,none⟩))))]) (fun _=>[]) (fun _=>[]) 0
  (fun k=>k.length<=l.length/\nN p k=nN p l) (fun k=>k.length) l ⟨aq _,rfl⟩ rfl Zs Zs rfl Zl Zl fun k ⟨cz,hk⟩=>?_
 have jZ:=gB k
 refine Za ?_
 refine aG rfl (fun hc=>?_) (fun hc=>?_)
 ·obtain⟨k,u,rfl⟩:∃ k' u,k=k'++[u]:=by
   rcases List.eq_nil_or_concat k with rfl | ⟨k',u,rfl⟩
   ·simp at hc
   ·exact⟨k',u,by simp⟩
  have jZ:(ju (k++[u])).size=k.length+1:=by simp
  rw[af,b8] at cz
  refine Zg ?_
  refine fz (u:=u) TT Z Z Z Z Z Z Z Z (by rw[jZ];omega) (by rw[jZ];simp) (Zr ?_)
  refine Za ?_
  refine aT Z Z Z Z Z Tryz.call264 Zl (Dv σ p g h u) fun v hv=>⟨.a (.b (p u)),trivial,hv.symm,?_⟩
  refine gX ?_
  refine aG rfl (fun hp=>?_) (fun hp=>?_)
  ·refine Zg ?_
   refine aw TT rfl fun β w' _ _=>?_
   have:p u=false:=by simpa using hp
   rw[<-hk,BP,this]
   rfl
  ·have nF:p u=true:=by simpa using hp
   refine Zg ?_
   refine p7 (vl:=none) (vh:=some (.int .i64 ((ju (k++[u])).size - 1))) TT 0 k.length Z Z Z Z Z Z Z Z Z (.inl ⟨rfl,rfl⟩) (.inr ⟨_,_,rfl,by rw[jZ];omega⟩) Zo (by rw[jZ];omega) (Zr ?_)
   refine Zc ?_
   rw[Ac,show List.drop 0 (List.take k.length (k++[u]))=k by simp]
   refine an k ⟨by omega,?_⟩ (by simp) rfl Zs Zs rfl Zl Zl
   rw[<-hk,BP,nF]
   rfl
 ·refine Ze ?_
  refine aw TT rfl fun β w' _ _=>?_
  have:k=[]:=by cases k with
   | nil=>rfl
   | cons u k=>simp at hc
  subst this
  rw[<-hk]
  rfl
end Go.Sy
