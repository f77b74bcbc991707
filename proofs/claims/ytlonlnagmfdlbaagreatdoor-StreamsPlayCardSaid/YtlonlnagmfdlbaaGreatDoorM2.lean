/- Parts of the proof of CStreamsPlay: SyF, SyG, SyH, SyI, SyJ, SyK. No conditions. -/
import Derived.Test.YtlonlnagmfdlbaaGreatDoorM1
set_option maxRecDepth 100000
set_option maxHeartbeats 16000000
namespace Go.Sy
def tU (σ:al) (w:World):Prop:=∀ b o,σ b=some o->w.heap[b]?=some o
structure Fr (M:Nat->Prop) (w w':World):Prop where
 os:w'.os=w.os
 tape:w'.tape=w.tape
 output:w'.output=w.output
 size:w.heap.size<=w'.heap.size
 block:∀ b,b<w.heap.size->¬ M b->w'.heap[b]?=w.heap[b]?
def al.le (σ bD:al):Prop:=∀ b o,σ b=some o->bD b=some o
structure wx (M:Nat->Prop) (σ:al) (w:World) (bD:al):Prop where
 le:σ.le bD
 new:∀ b,bD b≠none->σ b≠none\/w.heap.size<=b\/M b
theorem al.le_refl(σ:al): σ.le σ:=fun _ _ h=>h
theorem al.le_trans{a b c:al}(h:a.le b)(h':b.le c): a.le c:=fun x o hx=>h' x o (h x o hx)
theorem al.le.cell{σ bD:al}(h:σ.le bD){a:Addr}{v:Value}(hv:σ.cell a=some v): bD.cell a=some v:=by
 unfold al.cell at *
 split at hv
 ·rename_i c e f hc
  rw[h _ _ hc];exact hv
 ·cases hv
def rf (w:World) (M:Nat->Prop) (σ:al) (ui:Value->World->al->Prop):Ending->World->Prop :=
 fun e w'=>∃ v bD,e=.returned v/\Fr M w w'/\wx M σ w bD/\tU bD w'/\ui v w' bD
def T3 (P:Program) (f:FuncId) (args:Array Value) (w:World) (M:Nat->Prop) (σ:al) (ui:Value->World->al->Prop):Prop :=
 Calls P f args w (rf w M σ ui)
def qW (P:Program) (f:FuncId) (args:Array Value) (σ:al) (Φ:Value->al->Prop):Prop :=
 ∀ w,tU σ w->T3 P f args w (fun _=>False) σ (fun v _ bD=>Φ v bD)
theorem qW.mono{P:Program}{f:FuncId}{args:Array Value}{σ:al}{Φ Ψ:Value->al->Prop}(h:qW P f args σ Φ)(hi:∀ v bD,σ.le bD->Φ v bD->Ψ v bD): qW P f args σ Ψ :=
 fun w hw=>Calls.mono (h w hw) fun _ _ ⟨v,bD,h1,h2,h3,h4,h5⟩=>⟨v,bD,h1,h2,h3,h4,hi v bD h3.le h5⟩
def oZ:Nat->List SV->Env
 | _,[]=>[]
 | i,x::xs=>(i,x)::oZ (i+1) xs
theorem m9: ∀(xs:List SV) (k i:Nat) (x:SV),(oZ k xs).get i=some x->k<=i/\xs[i - k]?=some x
 | [],_,_,_,h=>by cases h
 | y::xs,k,i,x,h=>by
  simp only[oZ,Env.ee] at h
  by_cases hk:k=i
  ·subst hk;rw[au rfl] at h;injection h with h;subst h;simp
  ·rw[ai hk] at h
   obtain⟨h1,h2⟩:=m9 xs (k+1) i x h
   refine⟨by omega,?_⟩
   have e:i - k=(i - (k+1))+1:=by omega
   rw[e,bg];exact h2
theorem enter{P:Program}{f:FuncId}{fn:Func}{c:Code}{args:Array Value}{w:World}{M:Nat->Prop}{σ:al}{ui:Value->World->al->Prop}(hf:P.funcs[f]?=some fn)(hb:fn.body=some c)(lM:List SV)(β:Nat->Addr)(hp:HP)(A:List AE)(nh:Nat)(fi:args=(lM.map (SV.den β)).toArray)(hN:lM.length<=fn.ntmps)(dj:∀ x∈lM,x.lt nh)(hhp:∀ i k cs,hp.get i=some (k,cs)->i<nh/\∀ c∈cs,c.lt nh)(hw:dy ⟨P,w,σ,M,fn.ntmps,[],none⟩ σ hp A β w)(h:CJ ⟨P,w,σ,M,fn.ntmps,[],none⟩ c (bodyPost P fn (rf w M σ ui)) σ (oZ 0 lM) hp A nh): T3 P f args w M σ ui:=by
 refine calls_of_wp hf hb (HN (h.run ⟨fun i x hx=>?_,hhp⟩ _ β w ⟨?_,rfl,fun i x hx=>?_⟩ hw))
 ·obtain⟨_,h2⟩:=m9 lM 0 i x hx
  exact dj x (aC h2)
 ·subst fi
  simp only[Array.size_append,fw,aR,Array.size_replicate]
  omega
 ·obtain⟨_,h2⟩:=m9 lM 0 i x hx
  simp only[Nat.sub_zero] at h2
  subst fi
  rw[Array.getElem?_append_left (by simp;exact(ah.1 h2).1)]
  simp[h2]
theorem dy.start{P:Program}{w:World}{σ:al}{M:Nat->Prop}{N:Nat}(hs:tU σ w)(β:Nat->Addr): dy ⟨P,w,σ,M,N,[],none⟩ σ [] [] β w where
 os:=rfl
 tape:=rfl
 output:=rfl
 size:=aq _
 fr:=fun _ _ _=>rfl
 cQ:=hs
 le:=fun _ _ h=>h
 grow:=fun _ h=>.inl h
 loc:=fun _ _ _ h=>by cases h
 ro:=fun _ _ h=>by cases h
 inj:=fun _ _ _ _ _ _ h=>by cases h
 arr:=fun _ _ h=>by cases h
 iR:=fun _ _ _ _ h=>by cases h
 iL:=fun _ _ _ _ _ h=>by cases h
def fy:Nat->Addr:=fun _=>⟨0,0,none⟩
theorem Dp{P:Program}{f:FuncId}{fn:Func}{c:Code}{args:Array Value}{σ:al}{Φ:Value->al->Prop}(hf:P.funcs[f]?=some fn)(hb:fn.body=some c)(lM:List SV)(fi:args=(lM.map (SV.den fy)).toArray)(hN:lM.length<=fn.ntmps)(dj:∀ x∈lM,x.lt 0)(h:∀ w,CJ ⟨P,w,σ,fun _=>False,fn.ntmps,[],none⟩ c (bodyPost P fn (rf w (fun _=>False) σ (fun v _ bD=>Φ v bD))) σ (oZ 0 lM) [] [] 0): qW P f args σ Φ :=
 fun w hs=>enter hf hb lM fy [] [] 0 fi hN dj (fun _ _ _ h=>by cases h) (dy.start hs fy) (h w)
def MM (T:List (Nat×TI)) (env:Env) (hp:HP):ResultVar->Option S1
 | .tmp t =>
  match env.get t with
  | some (.a x)=>some (.a x)
  | some (.agg cs)=>some (.agg cs)
  | _=>none
 | .cell t ty =>
  match env.get t,eX T ty with
  | some (.a (.p h off)),some ti =>
   match hp.get h with
   | some (_,cs)=>bif ti.agg then (m3 cs off ti.size).map .agg else (CH cs off).map .a
   | none=>none
  | _,_=>none
def AJ (T:List (Nat×TI)) (env:Env) (hp:HP):List ResultVar->Option (List S1)
 | []=>some []
 | r::rs =>
  match MM T env hp r,AJ T env hp rs with
  | some x,some xs=>some (x::xs)
  | _,_=>none
def wb (l:List S1):SV :=
 match l with
 | [x]=>x.sv
 | _=>.ik l
def yM (tmps:Array Value):ResultVar->Sem Value
 | .tmp t=>pure (tmps.getD t undef)
 | .cell p t=>do loadVar t (<-asAddr (tmps.getD p undef))
theorem Ch(fn:Func)(tmps:Array Value): results fn tmps=(do let vs <-fn.results.mapM (yM tmps);pure (if h:vs.size=1 then vs[0] else .tuple vs)):=by
 unfold results
 congr
section
variable {cf:Cf} {T:List (Nat×TI)} {env:Env} {hp:HP} {nh:Nat} {β:Nat->Addr} {a:Act} {σ:al} {A:List AE} {w:World}
theorem QZ(hT:cu cf.P T)(ha:nc cf env β a)(hb:Bd env hp nh)(hw:dy cf σ hp A β w){r:ResultVar}{x:S1}(h:MM T env hp r=some x):
  (yM a.tmps r).run cf.P w=.ok (x.den β) w:=by
 cases r with
 | tmp t =>
  simp only[yM]
  simp only[MM] at h
  split at h
  ·rename_i y hy
   injection h with h;subst h
   have:=ha.env t _ hy
   simp only[Sem.run_pure,Array.getD_eq_getD_getElem?,this]
   rfl
  ·rename_i y hy
   injection h with h;subst h
   have:=ha.env t _ hy
   simp only[Sem.run_pure,Array.getD_eq_getD_getElem?,this]
   rfl
  ·cases h
 | cell p t =>
  simp only[yM]
  have key : ∀(mM : yp), ev T (.load t (.tmp p)) env hp nh = some mM → mX cf ⟨none, .load t (.tmp p), t, "", #[], none⟩ a hp nh β mM := fun mM he => MV hT ha hb rfl he
  simp only[MM] at h
  split at h
  ·rename_i i off ti nF yv
   split at h
   ·rename_i k cs bU
    have hev:bP env (.tmp p)=some (.a (.p i off)):=nF
    have Ny:a.eval (.tmp p)=.pointer (some ((β i).add off)):=aD ha hev
    have fin:∀ y:SV,y.den β=x.den β->ev T (.load t (.tmp p)) env hp nh=some (.val y)->((do loadVar t (<-asAddr (a.tmps.getD p undef))):Sem Value).run cf.P w=.ok (x.den β) w:=by
     intro y hy pL
     have:=(key _ pL).2 w (fun _=>⟨σ,A,hw⟩)
     simp only[execOp,Instr.loadAt,Ny,Instr.sureAddr,Sem.run_bind,Sem.run_pure,Result.andThen_ok] at this
     have YP:a.tmps.getD p undef=.pointer (some ((β i).add off)):=Ny
     simp only[YP,asAddr,Sem.run_bind,Sem.run_pure,Result.andThen_ok]
     generalize (loadVar t ((β i).add off)).run cf.P w=r at this
     cases r with
     | ok v w' =>
      simp only[Result.andThen_ok,Result.ok.injEq,Next.value.injEq] at this
      obtain⟨rfl,rfl⟩:=this
      rw[hy]
     | halt e w'=>simp only[Result.andThen_halt] at this;cases this
    cases yz:ti.agg with
    | true =>
     rw[yz] at h
     obtain⟨l,hl,rfl⟩:=map_some h
     refine fin (.agg l) rfl ?_
     simp only[ev,hev,yv,bU,yz,cond_true,hl,Option.map_some]
    | false =>
     rw[yz] at h
     obtain⟨c,hc,rfl⟩:=map_some h
     refine fin (.a c) rfl ?_
     simp only[ev,hev,yv,bU,yz,cond_false,hc,Option.map_some]
   ·cases h
  ·cases h
theorem MN(hT:cu cf.P T)(ha:nc cf env β a)(hb:Bd env hp nh)(hw:dy cf σ hp A β w): ∀(rs:List ResultVar) (xs:List S1),AJ T env hp rs=some xs ->
  (rs.mapM (yM a.tmps)).run cf.P w=.ok (xs.map (S1.den β)) w
 | [],xs,h=>by simp only[AJ,bf] at h;subst h;rfl
 | r::rs,xs,h=>by
  simp only[AJ] at h
  split at h
  ·rename_i y ys hy X5
   injection h with h;subst h
   have h1:=QZ hT ha hb hw hy
   have h2:=MN hT ha hb hw rs ys X5
   simp only[List.mapM_cons,Sem.run_bind,Sem.run_pure,h1,Result.andThen_ok,h2,bx]
  ·cases h
theorem qB(hT:cu cf.P T)(ha:nc cf env β a)(hb:Bd env hp nh)(hw:dy cf σ hp A β w){fn:Func}{xs:List S1}(h:AJ T env hp fn.results.toList=some xs):
  (results fn a.tmps).run cf.P w=.ok ((wb xs).den β) w:=by
 have h1:=MN hT ha hb hw _ _ h
 rw[Ch,Array.mapM_eq_mapM_toList,Sem.run_bind,Sem.run_map,h1]
 simp only[Result.andThen_ok,Sem.run_pure]
 congr 1
 match xs with
 | []=>rfl
 | [x]=>simp[wb];cases x<;>rfl
 | x::y::xs=>simp[wb,SV.den]
end
theorem wx.of{cf:Cf}{σ:al}{hp:HP}{A:List AE}{β:Nat->Addr}{w:World}(h:dy cf σ hp A β w): wx cf.M cf.kC cf.w0 σ :=
 ⟨h.le,fun b hb=>h.grow b hb⟩
theorem Fr.of{cf:Cf}{σ:al}{hp:HP}{A:List AE}{β:Nat->Addr}{w:World}(h:dy cf σ hp A β w): Fr cf.M cf.w0 w :=
 ⟨h.os,h.tape,h.output,h.size,h.fr⟩
theorem aw{P:Program}{w0:World}{kC:al}{M:Nat->Prop}{N:Nat}{T:List (Nat×TI)}(hT:cu P T){fn:Func}{ui:Value->World->al->Prop}{σ:al}{env:Env}{hp:HP}{A:List AE}{nh:Nat}{xs:List S1}(hr:AJ T env hp fn.results.toList=some xs)(h:∀ β w,Bd env hp nh->dy ⟨P,w0,kC,M,N,[],none⟩ σ hp A β w->ui ((wb xs).den β) w σ):
  NJ ⟨P,w0,kC,M,N,[],none⟩ .ret (bodyPost P fn (rf w0 M kC ui)) σ env hp A nh:=⟨fun hb _ β w ha hw =>
 ⟨ha.defers,_,qB (cf:=⟨P,w0,kC,M,N,[],none⟩) hT ha hb hw hr,_,σ,rfl,Fr.of hw,wx.of hw,hw.cQ,h β w hb hw⟩⟩
theorem XS{P:Program}{w0:World}{kC:al}{M:Nat->Prop}{N:Nat}{T:List (Nat×TI)}(hT:cu P T){fn:Func}{ui:Value->World->al->Prop}{σ:al}{env:Env}{hp:HP}{A:List AE}{nh:Nat}{xs:List S1}(hr:AJ T env hp fn.results.toList=some xs)(h:∀ β w,Bd env hp nh->dy ⟨P,w0,kC,M,N,[],none⟩ σ hp A β w->ui ((wb xs).den β) w σ):
  NJ ⟨P,w0,kC,M,N,[],none⟩ .normal (bodyPost P fn (rf w0 M kC ui)) σ env hp A nh:=⟨fun hb _ β w ha hw =>
 ⟨ha.defers,_,qB (cf:=⟨P,w0,kC,M,N,[],none⟩) hT ha hb hw hr,_,σ,rfl,Fr.of hw,wx.of hw,hw.cQ,h β w hb hw⟩⟩
section
variable {cf:Cf} {Q:Exit->Act->World->Prop} {σ:al} {env:Env} {hp:HP} {A:List AE} {nh:Nat} {it:Item} {rest:List Item}
theorem aM{T:List (Nat×TI)}(hT:cu cf.P T){l l':List Item}{kb:Env}{nF:HP}{Vg:Nat}(h:exec T cf.N l env hp nh=.mk l' kb nF Vg)(k:OJ cf l' Q σ kb nF A Vg): OJ cf l Q σ env hp A nh:=by
 refine qh hT l env hp nh ?_
 rw[h];exact k
theorem KG{T:List (Nat×TI)}(hT:cu cf.P T){id:Nat}{ops:Array Oper}{l':List Item}{kb:Env}{nF:HP}{Vg:Nat}(h:exec T cf.N (SR ops) env hp nh=.mk l' kb nF Vg)(k:OJ cf l' Q σ kb nF A Vg)(hd:AL cf.rd ops=true:=by rfl): CJ cf (.region id ops false) Q σ env hp A nh:=iD (aM hT h k) hd
theorem ax{l:List Item}(t:Nat){b:Bool}(h:env.get t=some (.a (.b b)))(ht:b=true->OJ cf l Q σ ((t,.a .tt)::env) hp A nh)(hf:b=false->OJ cf l Q σ ((t,.a .ff)::env) hp A nh):
  OJ cf l Q σ env hp A nh:=by
 have key:∀ c:AT,(∀ β,c.den β=.bool b)->c.lt nh->OJ cf l Q σ ((t,.a c)::env) hp A nh->OJ cf l Q σ env hp A nh:=by
  intro c hc hl hk
  refine⟨fun hb a β ha hex=>?_⟩
  refine hk.run (hb.put (x:=.a c) hl t) a β ⟨ha.size,ha.defers,fun i x hx=>?_⟩ hex
  rw[Env.ee] at hx
  by_cases hi:t=i
  ·rw[au hi] at hx
   injection hx with hx
   subst hx
   subst hi
   have:=ha.env t _ h
   simp only[SV.den,AT.den] at this
   simp only[SV.den,hc β,this]
  ·rw[ai hi] at hx;exact ha.env i x hx
 cases b with
 | true=>exact key .tt (fun _=>rfl) trivial (ht rfl)
 | false=>exact key .ff (fun _=>rfl) trivial (hf rfl)
theorem cr{l:List Item}(t:Nat){x:SV}(y:SV)(h:env.get t=some x)(hy:y.lt nh)(AN:∀ β,x.den β=y.den β)(k:OJ cf l Q σ ((t,y)::env) hp A nh): OJ cf l Q σ env hp A nh:=by
 refine⟨fun hb a β ha hex=>?_⟩
 refine k.run (hb.put hy t) a β ⟨ha.size,ha.defers,fun i z hz=>?_⟩ hex
 rw[Env.ee] at hz
 by_cases hi:t=i
 ·rw[au hi] at hz
  injection hz with hz
  subst hz;subst hi
  rw[<-AN β];exact ha.env t _ h
 ·rw[ai hi] at hz;exact ha.env i z hz
theorem jB{d:Nat}(y:SV)(hd:it.o.dst=some d)(hg:bt it.guard env=some true)(hN:Nat.blt d cf.N=true)(dj:y.lt nh)(ed:Bd env hp nh->∀ a β,nc cf env β a->∀ w,(execOp a.eval it.o).run cf.P w=.ok (.value (y.den β)) w)(k:OJ cf rest Q σ ((d,y)::env) hp A nh): OJ cf (it::rest) Q σ env hp A nh:=by
 refine⟨fun hb a β ha hex=>?_⟩
 have sx:d<cf.N:=by simpa[fD] using hN
 have h':=k.run (hb.put dj d) (a.put (some d) (y.den β)) β (ha.put sx y) hex
 have ed:=ed hb a β ha
 simp only[RunT]
 rw[au (da ha hg),hd]
 cases it.tag with
 | pure=>exact⟨_,fun w=>.inl (ed w),h'⟩
 | quiet=>exact⟨_,fun w _=>.inl (ed w),h'⟩
 | dP=>exact fun w hw=>wp_of_quiet (.inl (ed w)) ⟨_,_,hw,fun _ h=>h,fun _ h=>h,by rw[hd];exact h'⟩
 | sink=>exact fun w hw=>wp_of_quiet (.inl (ed w)) ⟨_,_,hw,fun _ h=>h,by rw[hd];exact h'⟩
 | free=>exact fun w hw=>wp_of_quiet (.inl (ed w)) ⟨_,_,hw,fun _ h=>h,by rw[hd];exact h'⟩
theorem kI{d:Nat}{op:BinOp}{x y:Operand}{xt yt:TypeId}{k:IntKind}{m n:Int}(r:Int)(fL:it.o.op=.binOp op xt x y yt)(hd:it.o.dst=some d)(hg:bt it.guard env=some true)(hN:Nat.blt d cf.N=true)(hx:bP env x=some (.a (.v (.int k m))))(hy:bP env y=some (.a (.v (.int k n))))(hr:∀ w P,(binOp op xt (.int k m) (.int k n)).run P w=.ok (.int k r) w)(hk:OJ cf rest Q σ ((d,.a (.v (.int k r)))::env) hp A nh): OJ cf (it::rest) Q σ env hp A nh:=by
 refine jB (.a (.v (.int k r))) hd hg hN trivial (fun _ a β ha w=>?_) hk
 have h1:a.eval x=.int k m:=aD ha hx
 have h2:a.eval y=.int k n:=aD ha hy
 simp only[execOp,fL,h1,h2,eqGuard_at_int,Sem.run_bind,Sem.run_pure,Result.andThen_ok,hr]
 rfl
theorem Ba{xt:TypeId}{k:IntKind}{m n r:Int}(h:k.wrap (m+n)=r)(w:World)(P:Program): (binOp .add xt (.int k m) (.int k n)).run P w=.ok (.int k r) w:=by
 simp only[binOp,Op.intArith,ne_eq,not_true,if_false,h,Sem.run_pure]
theorem A9{xt:TypeId}{k:IntKind}{m n r:Int}(h:k.wrap (m - n)=r)(w:World)(P:Program): (binOp .sub xt (.int k m) (.int k n)).run P w=.ok (.int k r) w:=by
 simp only[binOp,Op.intArith,ne_eq,not_true,if_false,h,Sem.run_pure]
theorem UM{xt:TypeId}{k:IntKind}{m n r:Int}(h:k.wrap (m*n)=r)(w:World)(P:Program): (binOp .mul xt (.int k m) (.int k n)).run P w=.ok (.int k r) w:=by
 simp only[binOp,Op.intArith,ne_eq,not_true,if_false,h,Sem.run_pure]
theorem UK{xt:TypeId}{k:IntKind}{m n r:Int}(hn:n≠0)(h:m.tmod n=r)(w:World)(P:Program): (binOp .rem xt (.int k m) (.int k n)).run P w=.ok (.int k r) w:=by
 simp only[binOp,Op.intDiv,ne_eq,not_true,if_false,ai hn,h,Sem.run_pure]
theorem UL{xt:TypeId}{k:IntKind}{m n r:Int}(hn:n≠0)(h:k.wrap (m.tdiv n)=r)(w:World)(P:Program): (binOp .quo xt (.int k m) (.int k n)).run P w=.ok (.int k r) w:=by
 simp only[binOp,Op.intDiv,ne_eq,not_true,if_false,ai hn,h,Sem.run_pure]
theorem eO{d:Nat}{x y:Operand}{xt yt:TypeId}{m n:Int}(fL:it.o.op=.binOp .add xt x y yt)(hd:it.o.dst=some d)(hg:bt it.guard env=some true)(hN:Nat.blt d cf.N=true)(hx:bP env x=some (.a (.v (.int .i64 m))))(hy:bP env y=some (.a (.v (.int .i64 n))))(hb:-9223372036854775808<=m+n/\m+n<=9223372036854775807)(hk:OJ cf rest Q σ ((d,.a (.v (.int .i64 (m+n))))::env) hp A nh): OJ cf (it::rest) Q σ env hp A nh :=
 kI _ fL hd hg hN hx hy (Ba (IntWalk.i64_in _ hb)) hk
theorem iY{d:Nat}{x y:Operand}{xt yt:TypeId}{m n:Int}(fL:it.o.op=.binOp .sub xt x y yt)(hd:it.o.dst=some d)(hg:bt it.guard env=some true)(hN:Nat.blt d cf.N=true)(hx:bP env x=some (.a (.v (.int .i64 m))))(hy:bP env y=some (.a (.v (.int .i64 n))))(hb:-9223372036854775808<=m - n/\m - n<=9223372036854775807)(hk:OJ cf rest Q σ ((d,.a (.v (.int .i64 (m - n))))::env) hp A nh): OJ cf (it::rest) Q σ env hp A nh :=
 kI _ fL hd hg hN hx hy (A9 (IntWalk.i64_in _ hb)) hk
theorem CD{d:Nat}{x y:Operand}{xt yt:TypeId}{m n:Int}(fL:it.o.op=.binOp .mul xt x y yt)(hd:it.o.dst=some d)(hg:bt it.guard env=some true)(hN:Nat.blt d cf.N=true)(hx:bP env x=some (.a (.v (.int .i64 m))))(hy:bP env y=some (.a (.v (.int .i64 n))))(hb:-9223372036854775808<=m*n/\m*n<=9223372036854775807)(hk:OJ cf rest Q σ ((d,.a (.v (.int .i64 (m*n))))::env) hp A nh): OJ cf (it::rest) Q σ env hp A nh :=
 kI _ fL hd hg hN hx hy (UM (IntWalk.i64_in _ hb)) hk
theorem jY{d:Nat}{x:Operand}{s t:TypeId}{T:List (Nat×TI)}(hT:cu cf.P T){ts ti:TI}{j k:IntKind}{n:Int}(r:Int)(fL:it.o.op=.convert s t x)(hd:it.o.dst=some d)(hg:bt it.guard env=some true)(hN:Nat.blt d cf.N=true)(hx:bP env x=some (.a (.v (.int j n))))(hs:eX T s=some ts)(ht:eX T t=some ti)(xi:ti.kind=.int k)(hr:k.wrap n=r)(hk:OJ cf rest Q σ ((d,.a (.v (.int k r)))::env) hp A nh): OJ cf (it::rest) Q σ env hp A nh:=by
 refine jB (.a (.v (.int k r))) hd hg hN trivial (fun _ a β ha w=>?_) hk
 obtain⟨i1,d1,z1,m1⟩:=bK (hT _ _ hs)
 obtain⟨i2,d2,z2,mR⟩:=bK (hT _ _ ht)
 have h1:=mR.kind
 have hu:cf.P.underlying t=some (.int k):=by
  rw[xi] at h1
  have h2:=mR.qx
  cases d2<;>first
   | (simp only[fx,TK.int.injEq] at h1;subst h1;exact h2)
   | (simp only[fx] at h1;cases h1)
 have h2:a.eval x=.int j n:=aD ha hx
 simp only[execOp,fL,h2,convert,Sem.run_bind,run_underlying m1.qx,run_underlying hu,Result.andThen_ok,Conv.intToInt,Sem.run_pure,hr]
 rfl
theorem fz{d:Nat}{x i:Operand}{t:TypeId}{T:List (Nat×TI)}(hT:cu cf.P T){ti:TI}{s:ByteArray}{k:IntKind}{m:Int}{u:UInt8}(fL:it.o.op=.index t x i)(hd:it.o.dst=some d)(hg:bt it.guard env=some true)(hN:Nat.blt d cf.N=true)(hx:bP env x=some (.a (.v (.string s))))(hi:bP env i=some (.a (.v (.int k m))))(ht:eX T t=some ti)(xi:ti.kind=.str)(h0:0<=m)(hu:s.data.toList[m.toNat]?=some u)(hk:OJ cf rest Q σ ((d,.a (.v (.int .u8 u.toNat)))::env) hp A nh): OJ cf (it::rest) Q σ env hp A nh:=by
 refine jB (.a (.v (.int .u8 u.toNat))) hd hg hN trivial (fun _ a β ha w=>?_) hk
 obtain⟨i2,d2,z2,mR⟩:=bK (hT _ _ ht)
 have h1:=mR.kind
 have Bn:cf.P.underlying t=some .string:=by
  rw[xi] at h1
  have h2:=mR.qx
  cases d2<;>first
   | exact h2
   | (simp only[fx] at h1;cases h1)
 have h2:a.eval x=.string s:=aD ha hx
 have h3:a.eval i=.int k m:=aD ha hi
 have iG:s[m.toNat]?=some u:=by
  have dj:m.toNat<s.size:=by
   have:=(ah.1 hu).1
   rw[cZ] at this
   exact this
  rw[ByteArray.getElem?_lt' s _ dj]
  have:=(ah.1 hu).2
  rw[<-this]
  rfl
 simp only[execOp,fL,h2,h3,Instr.index,asIntOf,Sem.run_bind,Sem.run_pure,Result.andThen_ok,run_underlying Bn,h0,if_true,iG]
 rfl
theorem br{d:Nat}{x i:Operand}{t:TypeId}{T:List (Nat×TI)}(hT:cu cf.P T){ti te:TI}{e:Nat}{ad:Addr}{n c:Nat}{k:IntKind}{m:Int}(fL:it.o.op=.indexAddr t x i)(hd:it.o.dst=some d)(hg:bt it.guard env=some true)(hN:Nat.blt d cf.N=true)(hx:bP env x=some (.a (.v (.slice (some ad) n c))))(hi:bP env i=some (.a (.v (.int k m))))(ht:eX T t=some ti)(xi:ti.kind=.slice e)(qf:eX T e=some te)(h0:0<=m/\m<n)(hk:OJ cf rest Q σ ((d,.a (.v (.pointer (some (ad.add (m.toNat*te.size))))))::env) hp A nh): OJ cf (it::rest) Q σ env hp A nh:=by
 refine jB (.a (.v (.pointer (some (ad.add (m.toNat*te.size)))))) hd hg hN trivial (fun _ a β ha w=>?_) hk
 obtain⟨i2,d2,z2,mR⟩:=bK (hT _ _ ht)
 obtain⟨i3,d3,z3,lh⟩:=bK (hT _ _ qf)
 have h1:=mR.kind
 have Bn:cf.P.underlying t=some (.slice e):=by
  rw[xi] at h1
  have h2:=mR.qx
  cases d2<;>first
   | (simp only[fx,TK.slice.injEq] at h1;subst h1;exact h2)
   | (simp only[fx] at h1;cases h1)
 have h2:a.eval x=.slice (some ad) n c:=aD ha hx
 have h3:a.eval i=.int k m:=aD ha hi
 simp only[execOp,fL,h2,h3,Instr.indexAt,asIntOf,Sem.run_bind,Sem.run_pure,Result.andThen_ok,run_underlying Bn,h0,and_self,if_true,gO lh.info,lh.size]
 rfl
theorem Ry{l:List Item}(t:Nat){ad:Addr}(cs:List AT)(h:env.get t=some (.a (.v (.pointer (some ad)))))(dj:∀ c∈cs,c.lt 0)(qY:∀(j:Nat) c,cs[j]?=some c->σ.cell (ad.add j)=some (c.den fy))(k:OJ cf l Q σ ((t,.a (.p nh 0))::env) ((nh,.ro,cs)::hp) A (nh+1)): OJ cf l Q σ env hp A nh:=by
 refine⟨fun hb a β ha hex=>?_⟩
 let nD:Nat->Addr:=fun i=>if i=nh then ad else β i
 have jF:∀ i,i<nh->nD i=β i:=fun i hi=>by simp only[nD];rw[ai Zo]
 have rP:nD nh=ad:=by simp only[nD,if_true]
 have GR:nc cf ((t,.a (.p nh 0))::env) nD a:=by
  refine⟨ha.size,ha.defers,fun i z hz=>?_⟩
  rw[Env.ee] at hz
  by_cases hi:t=i
  ·rw[au hi] at hz
   injection hz with hz
   subst hz;subst hi
   have:=ha.env t _ h
   simp only[SV.den,AT.den] at this
   simp only[SV.den,AT.den,rP,Addr.add_zero']
   exact this
  ·rw[ai hi] at hz;rw[SV.dM jF (hb.env i z hz)];exact ha.env i z hz
 have uR:Bd ((t,.a (.p nh 0))::env) ((nh,.ro,cs)::hp) (nh+1) :=
  ((hb.mono (kT nh)).put (x:=.a (.p nh 0)) (db nh) t).row (db nh) fun c hc=>AT.eT (ay _) (dj c hc)
 have iG:∀ {i:Nat} {q:HK} {r:List AT},HP.get ((nh,HK.ro,cs)::hp) i=some (q,r)->(i=nh/\q=.ro/\r=cs)\/(i<nh/\hp.get i=some (q,r)):=by
  intro i q r hi
  rw[HP.ee] at hi
  by_cases O9:nh=i
  ·rw[au O9] at hi
   injection hi with hi
   simp only[cC] at hi
   exact .inl ⟨O9.symm,hi.1.symm,hi.2.symm⟩
  ·rw[ai O9] at hi
   exact .inr ⟨(hb.hp i _ _ hi).1,hi⟩
 have oD:∀ {i q r},hp.get i=some (q,r)->HP.get ((nh,HK.ro,cs)::hp) i=some (q,r):=by
  intro i q r hi
  rw[HP.ee,ai (fun hc=>by have:=(hb.hp i q r hi).1;omega)];exact hi
 have hS:(fun w=>dy cf σ hp A β w)=fun w=>dy cf σ ((nh,.ro,cs)::hp) A nD w:=by
  funext w
  apply propext
  constructor
  ·intro hw
   refine⟨hw.os,hw.tape,hw.output,hw.size,hw.fr,hw.cQ,hw.le,hw.grow,fun i e' l hi=>?_,fun i l hi j c hc=>?_,fun i j e1 e2 l1 l2 hi hj iP=>?_,hw.arr,hw.iR,fun i j E e' l hE hj=>?_⟩
   ·rcases iG hi with⟨_,hk,_⟩ | ⟨hl,rU⟩
    ·cases hk
    ·rw[jF i hl,AT.jU jF (hb.hp i _ l rU).2];exact hw.loc i e' l rU
   ·rcases iG hi with⟨rfl,_,rfl⟩ | ⟨hl,rU⟩
    ·rw[rP,qY j c hc]
     congr 1
     exact AT.dM (n:=0) (fun i hi=>by omega) (dj c (aC hc))
    ·rw[jF i hl,AT.dM jF ((hb.hp i _ l rU).2 c (aC hc))];exact hw.ro i l rU j c hc
   ·rcases iG hi with⟨_,hk,_⟩ | ⟨hl,rU⟩
    ·cases hk
    ·rcases iG hj with⟨_,hk,_⟩ | ⟨AS,tC⟩
     ·cases hk
     ·rw[jF i hl,jF j AS] at iP;exact hw.inj i j _ _ _ _ rU tC iP
   ·rcases iG hj with⟨_,hk,_⟩ | ⟨AS,tC⟩
    ·cases hk
    ·rw[jF j AS];exact hw.iL i j E e' l hE tC
  ·intro hw
   refine⟨hw.os,hw.tape,hw.output,hw.size,hw.fr,hw.cQ,hw.le,hw.grow,fun i e' l hi=>?_,fun i l hi j c hc=>?_,fun i j e1 e2 l1 l2 hi hj iP=>?_,hw.arr,hw.iR,fun i j E e' l hE hj=>?_⟩
   ·have:=hw.loc i e' l (oD hi)
    rw[jF i (hb.hp i _ _ hi).1,AT.jU jF (hb.hp i _ l hi).2] at this;exact this
   ·have:=hw.ro i l (oD hi) j c hc
    rw[jF i (hb.hp i _ _ hi).1,AT.dM jF ((hb.hp i _ l hi).2 c (aC hc))] at this;exact this
   ·refine hw.inj i j _ _ _ _ (oD hi) (oD hj) ?_
    rw[jF i (hb.hp i _ _ hi).1,jF j (hb.hp j _ _ hj).1];exact iP
   ·have:=hw.iL i j E e' l hE (oD hj)
    rw[jF j (hb.hp j _ _ hj).1] at this;exact this
 rw[hS]
 refine k.run uR a nD GR ?_
 obtain⟨w,hw⟩:=hex
 exact⟨w,(congrFun hS w)▸hw⟩
def FF (env:Env):List Operand->Option (List SV)
 | []=>some []
 | x::xs =>
  match bP env x,FF env xs with
  | some y,some ys=>some (y::ys)
  | _,_=>none
theorem x8{β:Nat->Addr}{a:Act}(ha:nc cf env β a): ∀(xs:List Operand) (ys:List SV),FF env xs=some ys->xs.map a.eval=ys.map (SV.den β)
 | [],ys,h=>by simp only[FF,bf] at h;subst h;rfl
 | x::xs,ys,h=>by
  simp only[FF] at h
  split at h
  ·rename_i y ys' hy X5
   injection h with h;subst h
   simp only[bx,aD ha hy,x8 ha xs ys' X5]
  ·cases h
def lR:PT->SV
 | .loc i o=>.a (.p i o)
 | .val x=>Oe x
theorem Cr(β:Nat->Addr)(p:PT): (lR p).den β=p.den β:=by
 cases p with
 | loc i o=>rfl
 | val x=>exact Ic β x
def callee (env:Env) (op:Op):Option (FuncId×List SV) :=
 match op with
 | .call c =>
  match c.callee with
  | .value f =>
   match bP env f,FF env c.args.toList with
   | some (.a (.fn (.func g) cap)),some ys=>some (g,ys++cap.map lR)
   | _,_=>none
  | _=>none
 | _=>none
theorem oX{β:Nat->Addr}{a:Act}{w:World}(ha:nc cf env β a){o:Oper}{f:FuncId}{ys:List SV}(h:callee env o.op=some (f,ys))(gm:∀ args w,(callFunc f args).run cf.P w=.ok (.enter f args) w): (execOp a.eval o).run cf.P w=.ok (.enter f (ys.map (SV.den β)).toArray) w:=by
 unfold callee at h
 split at h
 ·rename_i c fL
  split at h
  ·rename_i fo su
   split at h
   ·rename_i g cap zs hf hz
    injection h with h
    simp only[cC] at h
    obtain⟨rfl,rfl⟩:=h
    have h1:a.eval fo=.func (.func g) #[] (cap.map (PT.den β)).toArray:=aD ha hf
    have h2:c.args.map a.eval=(zs.map (SV.den β)).toArray:=by
     have:=x8 ha _ _ hz
     rw[<-this,<-Array.toList_map]
    have h3:(zs.map (SV.den β)).toArray++(cap.map (PT.den β)).toArray=((zs++cap.map lR).map (SV.den β)).toArray:=by
     have:cap.map (SV.den β ∘ lR)=cap.map (PT.den β):=cY fun p _=>Cr β p
     rw[aF,jm,this]
     exact List.append_toArray _ _
    simp only[execOp,fL,resolve,su,h1,h2,Deferred.ofValue,Sem.run_bind,Sem.run_pure,Result.andThen_ok,invoke,Array.empty_append,h3,gm]
   ·cases h
  ·cases h
 ·cases h
theorem dy.after{β:Nat->Addr}{w w':World}{bD:al}(h:dy cf σ hp A β w)(L3:Fr (fun _=>False) w w')(hg:wx (fun _=>False) σ w bD)(hs:tU bD w'): dy cf bD hp A β w':=by
 have hold:∀ b,b<w.heap.size->w'.heap[b]?=w.heap[b]?:=fun b hb=>L3.block b hb (fun h=>h)
 have qY:∀ b,b<w.heap.size->σ b=none->bD b=none:=by
  intro b hb hn
  cases uR:bD b with
  | none=>rfl
  | some o =>
   rcases hg.new b (by rw[uR];simp) with h1 | h1 | h1
   ·exact absurd hn h1
   ·omega
   ·exact h1.elim
 refine⟨L3.os.trans h.os,L3.tape.trans h.tape,L3.output.trans h.output,ep h.size L3.size,fun b hb hm=>?_,hs,fun b o hb=>hg.le b o (h.le b o hb),fun b hb=>?_,fun i e cs hi=>?_,fun i cs hi j c hc=>hg.le.cell (h.ro i cs hi j c hc),h.inj,fun i E hE=>?_,h.iR,h.iL⟩
 ·rw[hold b (fC hb h.size)];exact h.fr b hb hm
 ·rcases hg.new b hb with h1 | h1 | h1
  ·exact h.grow b h1
  ·exact .inr (.inl (ep h.size h1))
  ·exact h1.elim
 ·obtain⟨h1,h2,h3,h4⟩:=h.loc i e cs hi
  have dj:=(bH.1 h2).1
  exact⟨h1,by rw[hold _ dj];exact h2,qY _ dj h3,h4⟩
 ·have tG:=h.arr i E hE
  refine⟨tG.1,?_⟩
  rcases tG.2 with h2 | ⟨g,cur,h3,h4,h5,h6,h7,h8,h9,uS⟩
  ·exact .inl h2
  ·have dj:=(bH.1 h4).1
   exact .inr ⟨g,cur,h3,by rw[hold g dj];exact h4,h5,h6,h7,h8,qY g dj h9,uS⟩
def qD:Tag->Bool
 | .quiet | .pure=>false
 | _=>true
theorem MW{d:Nat}{f:FuncId}{ys:List SV}{Φ:Value->al->Prop}(hc:callee env it.o.op=some (f,ys))(hd:it.o.dst=some d)(hg:bt it.guard env=some true)(hN:Nat.blt d cf.N=true)(hq:qD it.tag=true)(gm:∀ args w,(callFunc f args).run cf.P w=.ok (.enter f args) w)(dj:∀ y∈ys,y.lt 0)(hC:qW cf.P f (ys.map (SV.den fy)).toArray σ Φ)(k:∀ v bD,σ.le bD->Φ v bD->∃ y:SV,y.lt 0/\y.den fy=v/\OJ cf rest Q bD ((d,y)::env) hp A nh): OJ cf (it::rest) Q σ env hp A nh:=by
 refine⟨fun hb a β ha hex=>?_⟩
 have sx:d<cf.N:=by simpa[fD] using hN
 have pQ:∀ {y:SV},y.lt 0->y.den β=y.den fy:=fun hy=>SV.dM (n:=0) (fun i hi=>by omega) hy
 have fi:(ys.map (SV.den β)).toArray=(ys.map (SV.den fy)).toArray:=by
  rw[cY fun y hy=>pQ (dj y hy)]
 have ed:∀ w,dy cf σ hp A β w->∀(K:Act->World->Prop) (Q':Exit->Act->World->Prop),
   (∀ v w' bD,σ.le bD->Φ v bD->dy cf bD hp A β w'->(∀ x,dy cf bD hp A β x->dy cf σ hp A β x)->K (a.put it.o.dst v) w')->it.o.wq cf.P a w K Q':=by
  intro w hw K Q' hK
  unfold Oper.wq
  rw[oX ha hc gm]
  simp only[Oper.uponIn]
  rw[fi]
  refine⟨fun h=>(by cases h),CallsIn.mono (jW.2 (hC w hw.cQ)) fun e w' ⟨v,bD,he,h1,h2,h3,h4⟩=>?_⟩
  subst he
  refine hK v w' bD h2.le h4 (hw.after h1 h2 h3) fun x hx=>?_
  have qY:∀ {b},bD b=none->σ b=none:=by
   intro b hb
   cases uR:σ b with
   | none=>rfl
   | some o=>rw[h2.le b o uR] at hb;cases hb
  refine⟨hx.os,hx.tape,hx.output,hx.size,hx.fr,fun b o hb=>hx.cQ b o (h2.le b o hb),hw.le,hw.grow,fun i e cs hi=>?_,hw.ro,hx.inj,fun i E hE=>?_,hx.iR,hx.iL⟩
  ·obtain⟨q1,q2,q3,q4⟩:=hx.loc i e cs hi
   exact⟨q1,q2,qY q3,q4⟩
  ·obtain⟨q1,q2⟩:=hx.arr i E hE
   refine⟨q1,q2.imp id ?_⟩
   rintro⟨g,cur,h3,h4,h5,h6,h7,h8,h9,uS⟩
   exact⟨g,cur,h3,h4,h5,h6,h7,h8,qY h9,uS⟩
 have cont:∀ v bD,σ.le bD->Φ v bD->(∃ w,dy cf bD hp A β w)->RunT cf.P Q rest (fun w=>dy cf bD hp A β w) (fun w=>dy cf bD hp A β w) (a.put it.o.dst v):=by
  intro v bD hle LJ YH
  obtain⟨y,hy,Jx,hk⟩:=k v bD hle LJ
  have:=hk.run (hb.put (SV.eT (ay _) hy) d) (a.put (some d) (y.den β)) β (ha.put sx y) YH
  rw[hd,<-Jx,<-pQ hy]
  exact this
 simp only[RunT]
 rw[au (da ha hg)]
 cases ec:it.tag with
 | pure=>rw[ec] at hq;cases hq
 | quiet=>rw[ec] at hq;cases hq
 | dP=>exact fun w hw=>ed w hw _ _ fun v w' bD hle LJ gQ gR=>⟨_,_,gQ,fun _ h=>h,gR,cont v bD hle LJ ⟨_,gQ⟩⟩
 | sink=>exact fun w hw=>ed w hw _ _ fun v w' bD hle LJ gQ _=>⟨_,_,gQ,fun _ h=>h,cont v bD hle LJ ⟨_,gQ⟩⟩
 | free=>exact fun w hw=>ed w hw _ _ fun v w' bD hle LJ gQ _=>⟨_,_,gQ,fun _ h=>h,cont v bD hle LJ ⟨_,gQ⟩⟩
theorem Ed{d:Nat}{f:FuncId}{ys:List SV}{Φ:Value->Prop}(hc:callee env it.o.op=some (f,ys))(hd:it.o.dst=some d)(hg:bt it.guard env=some true)(hN:Nat.blt d cf.N=true)(hq:qD it.tag=true)(gm:∀ args w,(callFunc f args).run cf.P w=.ok (.enter f args) w)(dj:∀ y∈ys,y.lt 0)(hC:qW cf.P f (ys.map (SV.den fy)).toArray σ (fun v _=>Φ v))(k:∀ v,Φ v->∃ y:SV,y.lt 0/\y.den fy=v/\OJ cf rest Q σ ((d,y)::env) hp A nh): OJ cf (it::rest) Q σ env hp A nh:=by
 have hC':qW cf.P f (ys.map (SV.den fy)).toArray σ (fun v bD=>Φ v/\bD=σ):=by
  intro w hs
  refine Calls.mono (hC w hs) fun e w' ⟨v,bD,he,h1,h2,h3,h4⟩=>⟨v,σ,he,h1,⟨al.le_refl σ,fun b hb=>.inl hb⟩,fun b o hb=>h3 b o (h2.le b o hb),h4,rfl⟩
 refine MW hc hd hg hN hq gm dj hC' fun v bD _ ⟨hv,he⟩=>?_
 subst he
 exact k v hv
end
end Go.Sy
namespace Go.Sy
structure bu (σ:al) (ao:Option Addr) (n cap sz:Nat) (rows:List (List AT)):Prop where
 len:rows.length=n
 pn:n<=cap
 qv:∀ r∈rows,r.length=sz/\∀ c∈r,c.lt 0
 at_:n=0\/∃ ad,ao=some ad/\∀(i:Nat) r (j:Nat) c,rows[i]?=some r->r[j]?=some c->σ.cell (ad.add (i*sz+j))=some (c.den fy)
theorem bu.mono{σ bD:al}{ao:Option Addr}{n cap sz:Nat}{rows:List (List AT)}(h:bu σ ao n cap sz rows)(hle:σ.le bD): bu bD ao n cap sz rows:=by
 refine⟨h.len,h.pn,h.qv,?_⟩
 rcases h.at_ with h0 | ⟨ad,h1,h2⟩
 ·exact .inl h0
 ·exact .inr ⟨ad,h1,fun i r j c hr hc=>hle.cell (h2 i r j c hr hc)⟩
theorem bu.nil(σ:al)(ao:Option Addr)(cap sz:Nat): bu σ ao 0 cap sz []:=⟨rfl,ay _,fun _ h=>(by cases h),.inl rfl⟩
theorem bu.sub{σ:al}{ao:Option Addr}{n cap sz:Nat}{rows:List (List AT)}(h:bu σ ao n cap sz rows){l k:Nat}(Ys:l<=k)(hk:k<=n):
  bu σ (if cap=l then ao else ao.map (·.add (l*sz))) (k - l) (cap - l) sz ((rows.take k).drop l):=by
 have hlen:=h.len
 have hn:=h.pn
 refine⟨by simp;omega,by omega,fun r hr=>h.qv r (dr (fZ hr)),?_⟩
 by_cases h0:k - l=0
 ·exact .inl h0
 ·rcases h.at_ with h1 | ⟨ad,rfl,h2⟩
  ·omega
  ·refine .inr ⟨ad.add (l*sz),by rw[ai Zo];rfl,fun i r j c hr hc=>?_⟩
   rw[fF,fE] at hr
   split at hr
   ·rw[Addr.add_add]
    have:=h2 (l+i) r j c hr hc
    rw[eC,j7] at this
    exact this
   ·cases hr
section
variable {cf:Cf} {Q:Exit->Act->World->Prop} {σ:al} {env:Env} {hp:HP} {A:List AE} {nh:Nat} {it:Item} {rest:List Item}
theorem bk{d:Nat}{x i:Operand}{t:TypeId}{T:List (Nat×TI)}(hT:cu cf.P T){ti te:TI}{e:Nat}{ao:Option Addr}{n c:Nat}{k:IntKind}{m:Int}{rows:List (List AT)}{r:List AT}(fL:it.o.op=.indexAddr t x i)(hd:it.o.dst=some d)(hg:bt it.guard env=some true)(hN:Nat.blt d cf.N=true)(hx:bP env x=some (.a (.v (.slice ao n c))))(hi:bP env i=some (.a (.v (.int k m))))(ht:eX T t=some ti)(xi:ti.kind=.slice e)(qf:eX T e=some te)(H:bu σ ao n c te.size rows)(h0:0<=m)(hr:rows[m.toNat]?=some r)(hk:OJ cf rest Q σ ((d,.a (.p nh 0))::env) ((nh,.ro,r)::hp) A (nh+1)): OJ cf (it::rest) Q σ env hp A nh:=by
 have dj:m.toNat<n:=by rw[<-H.len];exact(ah.1 hr).1
 rcases H.at_ with h1 | ⟨ad,rfl,h2⟩
 ·omega
 ·refine br hT fL hd hg hN hx hi ht xi qf ⟨h0,by omega⟩ ?_
  refine Ry d r (by rw[Env.ee,au rfl]) (H.qv r (aC hr)).2 (fun j c hc=>?_) (U7 (fun i x hx=>?_) hk)
  rotate_left
  ·rw[Env.ee] at hx ⊢
   by_cases VI:d=i
   ·rw[au VI] at hx ⊢;exact hx
   ·rw[ai VI] at hx ⊢;rw[Env.ee,ai VI];exact hx
  rw[Addr.add_add]
  exact h2 m.toNat r j c hr hc
end
end Go.Sy
namespace Go.Sy
def AT.val (c:AT):Value:=c.den fy
theorem AT.qi{c:AT}(h:c.lt 0)(β:Nat->Addr): c.den β=c.val:=AT.dM (n:=0) (fun i hi=>by omega) h
section
variable {cf:Cf} {σ:al} {hp:HP} {A:List AE} {β:Nat->Addr} {w:World}
theorem dy.ag5(h:dy cf σ hp A β w): dy cf σ hp A β w.drew :=
 ⟨h.os,h.tape,h.output,h.size,h.fr,h.cQ,h.le,h.grow,h.loc,h.ro,h.inj,h.arr,h.iR,h.iL⟩
theorem nO{A:List AE}{i j:Nat}{E' F:AE}(h:(A.set i E')[j]?=some F): (i=j/\F=E')\/(i≠j/\A[j]?=some F):=by
 rw[eZ] at h
 by_cases iP:i=j
 ·rw[au iP] at h
  split at h
  ·injection h with h;exact .inl ⟨iP,h.symm⟩
  ·cases h
 ·rw[ai iP] at h;exact .inr ⟨iP,h⟩
theorem dy.wG(h:dy cf σ hp A β w){i:Nat}{E E':AE}(hi:A[i]?=some E){g:Nat}{cur qP:Array Value}(hg:E.ao=some ⟨g,0,none⟩)(hw:w.heap[g]?=some (.cells cur E.e (0,0)))(Xc:E'.ao=E.ao)(he:E'.e=E.e)(jZ:E'.sz=E.sz)(mC:E'.cap=E.cap)(hn:E'.n<=E'.cap)(hl:E'.xs.length=E'.n*E'.sz)(hs:qP.size=E'.cap*E'.sz)(ht:qP.toList.take (E'.n*E'.sz)=E'.xs):
  dy cf σ hp (A.set i E') β (w.setRow g qP):=by
 have hE:=h.arr i E hi
 have sw:E.rS=some g:=by simp[AE.rS,hg]
 have Dc:E'.rS=some g:=by simp[AE.rS,Xc,hg]
 obtain⟨dj,qY,tw⟩:=hE.lt sw
 have tz:∀ b,b≠g->(w.setRow g qP).heap[b]?=w.heap[b]?:=fun b hb=>setRow_other w g b _ hb
 have Qf:E.cap<=maxLen:=by
  rcases hE.2 with h2 | ⟨g',c',h3,h4,h5,h6,_⟩
  ·rw[h2.1] at hg;cases hg
  ·exact h6
 refine⟨h.os,h.tape,h.output,by have:=h.size;simpa using this,fun b hb hm=>?_,fun b ob hs=>?_,h.le,h.grow,fun j e' l hj=>?_,h.ro,h.inj,fun j F hF=>?_,fun j k F G hF hG zn=>?_,fun j k F e' l hF hk=>?_⟩
 ·rw[tz b (fun hc=>by subst hc;rcases tw with h4 | h4<;>first | omega | exact hm h4)];exact h.fr b hb hm
 ·rw[tz b (fun hc=>by subst hc;rw[qY] at hs;cases hs)];exact h.cQ b ob hs
 ·obtain⟨g1,g2,g3⟩:=h.loc j e' l hj
  exact⟨g1,by rw[tz _ (fun hc=>h.iL i j E e' l hi hj (by rw[hc];exact sw))];exact g2,g3⟩
 ·rcases nO hF with⟨rfl,rfl⟩ | ⟨iP,hF⟩
  ·refine⟨hl,.inr ⟨g,qP,by rw[Xc,hg],?_,hn,by rw[mC];exact Qf,hs,ht,qY,tw⟩⟩
   rw[he];exact setRow_heap w g cur _ _ _ hw
  ·exact(h.arr j F hF).dP fun q hq=>tz q fun hc=>h.iR i j E F hi hF iP g sw (hc▸hq)
 ·intro q hq
  rcases nO hF with⟨rfl,rfl⟩ | ⟨iP,Ao⟩<;>rcases nO hG with⟨rfl,rfl⟩ | ⟨KE,hG'⟩
  ·exact absurd rfl zn
  ·rw[Dc] at hq;injection hq with hq;subst hq
   exact h.iR _ _ E G hi hG' zn _ sw
  ·rw[Dc];intro hc;injection hc with hc;subst hc
   exact h.iR _ _ E F hi Ao iP _ sw hq
  ·exact h.iR _ _ F G Ao hG' zn q hq
 ·rcases nO hF with⟨rfl,rfl⟩ | ⟨iP,hF⟩
  ·rw[Dc,<-sw];exact h.iL _ k E e' l hi hk
  ·exact h.iL j k F e' l hF hk
theorem dy.Bj(h:dy cf σ hp A β w){i:Nat}{E E':AE}(_:A[i]?=some E){qP:Array Value}(Xc:E'.ao=some ⟨w.heap.size,0,none⟩)(hn:E'.n<=E'.cap)(Qf:E'.cap<=maxLen)(hl:E'.xs.length=E'.n*E'.sz)(hs:qP.size=E'.cap*E'.sz)(ht:qP.toList.take (E'.n*E'.sz)=E'.xs):
  dy cf σ hp (A.set i E') β (w.drew.alloc (.cells qP E'.e)):=by
 have Dc:E'.rS=some w.heap.size:=by simp[AE.rS,Xc]
 have tz:∀ b,b<w.heap.size->(w.drew.alloc (.cells qP E'.e)).heap[b]?=w.heap[b]?:=fun b hb=>by
  show(w.heap.push _)[b]?=_;rw[jq,ai (Nat.ne_of_lt hb)]
 have qY:σ w.heap.size=none:=by
  cases hs:σ w.heap.size with
  | none=>rfl
  | some ob =>
   have:=h.cQ _ _ hs
   have:=(bH.1 this).1
   omega
 have jZ:w.heap.size<=(w.drew.alloc (.cells qP E'.e)).heap.size:=by
  show w.heap.size<=(w.heap.push _).size;rw[Array.size_push];omega
 refine⟨h.os,h.tape,h.output,ep h.size jZ,fun b hb hm=>?_,fun b ob hs=>?_,h.le,h.grow,fun j e' l hj=>?_,h.ro,h.inj,fun j F hF=>?_,fun j k F G hF hG zn=>?_,fun j k F e' l hF hk=>?_⟩
 ·rw[tz b (fC hb h.size)];exact h.fr b hb hm
 ·have:=h.cQ b ob hs
  rw[tz b (bH.1 this).1];exact this
 ·obtain⟨g1,g2,g3⟩:=h.loc j e' l hj
  exact⟨g1,by rw[tz _ (bH.1 g2).1];exact g2,g3⟩
 ·rcases nO hF with⟨rfl,rfl⟩ | ⟨iP,hF⟩
  ·refine⟨hl,.inr ⟨w.heap.size,qP,Xc,?_,hn,Qf,hs,ht,qY,.inl h.size⟩⟩
   show(w.heap.push _)[w.heap.size]?=_
   rw[jq,au rfl]
  ·exact(h.arr j F hF).dP fun q hq=>tz q ((h.arr j F hF).lt hq).1
 ·intro q hq
  rcases nO hF with⟨rfl,rfl⟩ | ⟨iP,Ao⟩<;>rcases nO hG with⟨rfl,rfl⟩ | ⟨KE,hG'⟩
  ·exact absurd rfl zn
  ·rw[Dc] at hq;injection hq with hq
   intro hc
   have:=((h.arr _ G hG').lt hc).1
   omega
  ·rw[Dc]
   intro hc;injection hc with hc
   have:=((h.arr _ F Ao).lt hq).1
   omega
  ·exact h.iR _ _ F G Ao hG' zn q hq
 ·rcases nO hF with⟨rfl,rfl⟩ | ⟨iP,hF⟩
  ·rw[Dc];intro hc;injection hc with hc
   have:=(bH.1 (h.loc k e' l hk).2.1).1
   omega
  ·exact h.iL j k F e' l hF hk
theorem Iq{A:List AE}{i:Nat}{E:AE}(h:A[i]?=some E): A.set i E=A:=by
 apply List.ext_getElem?
 intro j
 rw[eZ]
 by_cases iP:i=j
 ·subst iP
  rw[au rfl,au (ah.1 h).1,h]
 ·rw[ai iP]
theorem dy.append(h:dy cf σ hp A β w){i:Nat}{E:AE}(hi:A[i]?=some E){t u ty:TypeId}{ie:TypeInfo}{z x:Value}{m:Nat}{news:List Value}{du:TypeDesc}(ht:cf.P.underlying t=some (.slice E.e))(hu:cf.P.underlying u=some du)(hdu:(∃ e',du=.slice e')\/du=.string)(Pb:cf.P.info? E.e=some ie)(hz:ie.zero=some z)(jZ:ie.size=E.sz)(X3:z.cells.size=E.sz)(hlen:∀ w',(Builtin.lenOf x).run cf.P w'=.ok m w')(KF:∀ w':World,w'.heap=w.heap->(Builtin.firstCells E.sz m x).run cf.P w'=.ok news.toArray w')(wk:news.length=m*E.sz)(h1:∀ v∈news,v.oneCell'=true)(sq:E.n+m<=maxLen)(L7:(E.n+m)*ie.bytes<=140737488355328):
  ∃ iB dk w',(Builtin.append_ #[t,u] ty #[.slice E.ao E.n E.cap,x]).run cf.P w=.ok (.slice iB (E.n+m) dk) w'/\dy cf σ hp (A.set i ⟨iB,E.n+m,dk,E.e,E.sz,E.xs++news⟩) β w'/\E.n+m<=dk:=by
 have hE:=h.arr i E hi
 have pa:(E.xs++news).length=(E.n+m)*E.sz:=by rw[af,hE.1,wk,eC]
 by_cases uc:E.n+m<=E.cap
 ·
  rcases hE.2 with⟨e1,e2,e3⟩ | ⟨g,cur,hg,hw,Fx,Qf,lY,mi,qY,tw⟩
  ·have hm0:m=0:=by omega
   subst hm0
   have Hu:news=[]:=aY (by simpa using wk)
   subst Hu
   refine⟨E.ao,E.cap,w,?_,?_,uc⟩
   ·have hf:=KF w rfl
    rcases hdu with⟨e',rfl⟩ | rfl<;>simp only[Builtin.append_,eE,bn,bg,Sem.run_bind,run_underlying ht,Result.andThen_ok,gO Pb,jZ,run_underlying hu,dI,if_false,hlen,eM,e1,e2,e3,aq,if_true,Bool.not_false,hf,Sem.run_pure]
   ·have:(⟨E.ao,E.n+0,E.cap,E.e,E.sz,E.xs++[]⟩:AE)=E:=by cases E;simp
    rw[this,Iq hi];exact h
  ·have pL:=run_storeCells_at cf.P g (E.n*E.sz) E.e news 0 cur w hw (by rw[lY,wk,eM,<-eC];exact cn _ uc) h1
   simp only[eM] at pL
   refine⟨E.ao,E.cap,w.setRow g (cur.toList.take (E.n*E.sz)++news++cur.toList.drop (E.n*E.sz+news.length)).toArray,?_,h.wG hi hg hw Z Z Z Z uc pa ?_ ?_,uc⟩
   ·have hf:=KF w rfl
    rcases hdu with⟨e',rfl⟩ | rfl<;>simp only[Builtin.append_,eE,bn,bg,Sem.run_bind,run_underlying ht,Result.andThen_ok,gO Pb,jZ,run_underlying hu,dI,if_false,hlen,uc,if_true,Bool.not_false,hf,Sem.run_pure,hg,jM,pL]
   ·have e1:E.n*E.sz+news.length<=cur.size:=by rw[lY,wk,<-eC];exact cn _ uc
    simp only[fw,af,aE,bm,cZ,lY] at e1 ⊢
    rw[<-lY] at e1 ⊢
    omega
   ·have e1:E.n*E.sz<=cur.size:=by rw[lY];exact cn _ Fx
    simp only[mi]
    rw[<-pa]
    exact ke
 ·
  have af1:=growslice_fits (old:=E.cap) (need:=E.n+m) (bytes:=ie.bytes) Zo L7
  have Pc:=grownCap_ge w (E.n+m) E.cap E.e
  have hgm:=grownCap_le_maxLen w (E.n+m) E.cap E.e sq
  have hold:∀ w':World,w'.heap=w.heap->(Builtin.firstCells E.sz E.n (.slice E.ao E.n E.cap)).run cf.P w'=.ok E.xs.toArray w':=by
   intro w' hh
   rcases hE.2 with⟨e1,e2,e3⟩ | ⟨g,cur,hg,hw,Fx,Qf,lY,mi,qY,tw⟩
   ·have:E.xs=[]:=aY (by rw[hE.1,e2];simp)
    rw[e1,this];rfl
   ·rw[hg]
    refine run_firstCells_some (P:=cf.P) w' E.sz E.n ⟨g,0,none⟩ E.n E.cap E.xs hE.1 fun j v hv=>?_
    have gQ:w'.heap[g]?=some (.cells cur E.e (0,0)):=by rw[hh];exact hw
    rw[jM,cell_of_row w' g j cur E.e (0,0) gQ]
    rw[<-mi,fE] at hv
    split at hv
    ·simpa using hv
    ·cases hv
  have hmi:¬ (9223372036854775807<((E.n+m:Nat):Int)):=by simp only[maxLen] at sq;omega
  have h48:¬ (281474976710656<Builtin.nextslicecap (E.n+m) E.cap*ie.bytes):=by omega
  refine⟨some ⟨w.heap.size,0,none⟩,grownCap w (E.n+m) E.cap E.e,w.drew.alloc (.cells (E.xs.toArray++news.toArray++Builtin.zeroCells z.cells (grownCap w (E.n+m) E.cap E.e - (E.n+m))) E.e),?_,?_,Pc⟩
  ·have hf:=KF w.drew rfl
   have hfo:=hold w.drew rfl
   have am6:(Builtin.firstCells E.sz E.n (.slice E.ao E.n E.cap)).run cf.P { w with drawn:=w.drawn+1 }=.ok E.xs.toArray { w with drawn:=w.drawn+1 }:=hfo
   have hf':(Builtin.firstCells E.sz m x).run cf.P { w with drawn:=w.drawn+1 }=.ok news.toArray { w with drawn:=w.drawn+1 }:=hf
   rcases hdu with⟨e',rfl⟩ | rfl<;>(
    simp only[Builtin.append_,eE,bn,bg,Sem.run_bind,run_underlying ht,Result.andThen_ok,gO Pb,jZ,run_underlying hu,dI,if_false,hlen,uc,
    sb Pb,Sem.run_pure,Bool.not_false,if_true]
    simp only[IntKind.max_i64,gt_iff_lt,hmi,false_and,if_false,h48,Sem.run_pure,Result.andThen_ok,Sem.run_bind,sb Pb,run_choose,Question.forced,dI,run_askRoom]
    simp only[am6,hf',Result.andThen_ok,pg Pb hz,newRow,Sem.run_bind,run_newObj,Sem.run_pure]
    rfl)
  ·refine h.Bj hi rfl Pc hgm pa ?_ ?_
   ·simp only[Array.size_append,fw,size_zeroCells,X3,hE.1,wk,<-eC]
    congr 1
    omega
   ·simp only[Array.toList_append,av]
    rw[<-av,<-pa]
    exact ke
end
def iV:Tag->Bool
 | .free | .sink=>true
 | _=>false
section
variable {cf:Cf} {Q:Exit->Act->World->Prop} {σ:al} {env:Env} {hp:HP} {A:List AE} {nh:Nat} {it:Item} {rest:List Item}
theorem pZ{d:Nat}(hd:it.o.dst=some d)(hg:bt it.guard env=some true)(hN:Nat.blt d cf.N=true)(ht:iV it.tag=true)(h:Bd env hp nh->∀ a β,nc cf env β a->∀ w,dy cf σ hp A β w->∃ y bD nF A' Vg w' nD,(execOp a.eval it.o).run cf.P w=.ok (.value (SV.den nD y)) w'/\nc cf env nD a/\Bd ((d,y)::env) nF Vg/\dy cf bD nF A' nD w'/\OJ cf rest Q bD ((d,y)::env) nF A' Vg): OJ cf (it::rest) Q σ env hp A nh:=by
 refine⟨fun hb a β ha hex=>?_⟩
 have sx:d<cf.N:=by simpa[fD] using hN
 have key:∀ w,dy cf σ hp A β w->∀ Q',it.o.wq cf.P a w (fun a' w'=>∃ E' S':World->Prop,S' w'/\(∀ x,S' x->E' x)/\RunT cf.P Q rest E' S' a') Q':=by
  intro w hw Q'
  obtain⟨y,bD,nF,A',Vg,w',nD,ed,GR,uR,gQ,hj⟩:=h hb a β ha w hw
  unfold Oper.wq
  rw[ed]
  refine⟨_,_,gQ,fun _ h=>h,?_⟩
  rw[hd]
  exact hj.run uR _ nD (GR.put sx y) ⟨_,gQ⟩
 simp only[RunT]
 rw[au (da ha hg)]
 cases ec:it.tag with
 | pure=>rw[ec] at ht;cases ht
 | quiet=>rw[ec] at ht;cases ht
 | dP=>rw[ec] at ht;cases ht
 | sink=>exact fun w hw=>key w hw _
 | free=>exact fun w hw=>key w hw _
def og:Op->Option (Operand×Operand×TypeId×TypeId)
 | .call c =>
  match c.callee,c.args.toList,c.argTypes.toList with
  | .builtin .append,[s,x],[t,u]=>some (s,x,t,u)
  | _,_,_=>none
 | _=>none
theorem lq{o:Oper}{s x:Operand}{t u:TypeId}(h:og o.op=some (s,x,t,u)){P:Program}{a:Act}{w w':World}{v:Value}(hr:(Builtin.append_ #[t,u] o.type #[a.eval s,a.eval x]).run P w=.ok v w'): (execOp a.eval o).run P w=.ok (.value v) w':=by
 unfold og at h
 split at h
 ·rename_i c fL
  split at h
  ·rename_i s' x' t' u' su fi tv
   injection h with h
   simp only[cC] at h
   obtain⟨rfl,rfl,rfl,rfl⟩:=h
   have e1:c.args=#[s',x']:=by
    cases hq:c.args with
    | mk l=>rw[hq] at fi;simp only at fi;rw[fi]
   have e2:c.argTypes=#[t',u']:=by
    cases hq:c.argTypes with
    | mk l=>rw[hq] at tv;simp only at tv;rw[tv]
   simp only[execOp,fL,resolve,su,e1,e2,invoke,builtin,Sem.run_bind,Sem.run_pure,Result.andThen_ok,kY,bx,gi,hr]
  ·cases h
 ·cases h
def sZ:TK->Bool
 | .slice _=>true
 | .str=>true
 | _=>false
theorem oJ{d:TypeDesc}(h:sZ (fx d)=true): (∃ e',d=.slice e')\/d=.string:=by
 cases d<;>first | exact .inl ⟨_,rfl⟩ | exact .inr rfl | cases h
theorem bl{d:Nat}{s x:Operand}{t u e:Nat}{T:List (Nat×TI)}(hT:cu cf.P T){ti tu te:TI}(i:Nat){E:AE}{ao:Option Addr}{n cap j m:Nat}{k:HK}{cs:List AT}(fL:og it.o.op=some (s,x,t,u))(hd:it.o.dst=some d)(hg:bt it.guard env=some true)(hN:Nat.blt d cf.N=true)(Bo:iV it.tag=true)(hs:bP env s=some (.a (.v (.slice ao n cap))))(hx:bP env x=some (.a (.sl j m)))(bU:hp.get j=some (k,cs))(hA:A[i]?=some E)(hE:(E.ao,E.n,E.cap,E.e)=(ao,n,cap,e))(ht:eX T t=some ti)(vU:ti.kind=.slice e)(hu:eX T u=some tu)(O7:sZ tu.kind=true)(qf:eX T e=some te)(jZ:E.sz=te.size)(Jw:te.zero.length=te.size)(lY:cs.length=m*te.size)(YN:∀ c∈cs,c.lt 0)(mU:cs.all AT.one=true)(sq:n+m<=9223372036854775807)(Pj:(n+m)*te.bytes<=140737488355328)(hk:∀ iB dk,n+m<=dk->OJ cf rest Q σ ((d,.a (.v (.slice iB (n+m) dk)))::env) hp (A.set i ⟨iB,n+m,dk,E.e,E.sz,E.xs++cs.map AT.val⟩) nh): OJ cf (it::rest) Q σ env hp A nh:=by
 simp only[cC] at hE
 obtain⟨rfl,rfl,rfl,rfl⟩:=hE
 refine pZ hd hg hN Bo fun hb a β ha w hw=>?_
 obtain⟨i1,d1,z1,m1⟩:=bK (hT _ _ ht)
 obtain⟨i2,d2,z2,mR⟩:=bK (hT _ _ hu)
 obtain⟨i3,d3,z3,lh⟩:=bK (hT _ _ qf)
 have tZ:cf.P.underlying t=some (.slice E.e):=by
  have h1:=m1.kind
  rw[vU] at h1
  have h2:=m1.qx
  cases d1<;>first
   | (simp only[fx,TK.slice.injEq] at h1;subst h1;exact h2)
   | (simp only[fx] at h1;cases h1)
 have Hr:z3.cells.size=E.sz:=by
  have:=zero_den lh β
  rw[<-this,jZ]
  simp[Jw]
 have pO:∀ j' v,(cs.map AT.val)[j']?=some v->w.cell? ((β j).add j')=some v:=by
  intro j' v hv
  rw[aO] at hv
  obtain⟨c,hc,rfl⟩:=map_some hv
  rw[<-AT.qi (YN c (aC hc)) β]
  exact hw.cell bU hc
 have wk:(cs.map AT.val).length=m*E.sz:=by rw[aR,lY,jZ]
 have yu:a.eval x=.slice (some (β j)) m m:=aD ha hx
 have Ep:a.eval s=.slice E.ao E.n E.cap:=aD ha hs
 obtain⟨iB,dk,w',ed,gQ,DY⟩:=hw.append hA (t:=t) (u:=u) (ty:=it.o.type) (x:=.slice (some (β j)) m m) (m:=m) (news:=cs.map AT.val) tZ mR.qx (oJ (by rw[mR.kind];exact O7)) lh.info lh.zero
  (by rw[lh.size,jZ]) Hr (fun _=>rfl) (fun BJ hh=>run_firstCells_some (P:=cf.P) BJ E.sz m (β j) m m _ wk fun j' v hv=>by
   have:=pO j' v hv
   rw[World.cell?,hh];exact this) wk
  (fun v hv=>by obtain⟨c,hc,rfl⟩:=bL.1 hv;exact AT.one_den fy (dc.1 mU c hc)) (by simp only[maxLen];exact sq) (by rw[lh.bytes];exact Pj)
 refine⟨.a (.v (.slice iB (E.n+m) dk)),σ,hp,_,nh,w',β,?_,ha,hb.put (x:=.a (.v (.slice iB (E.n+m) dk))) trivial d,gQ,hk iB dk DY⟩
 exact lq fL (by rw[Ep,yu];exact ed)
theorem dC{d:Nat}{s x:Operand}{t u e:Nat}{T:List (Nat×TI)}(hT:cu cf.P T){ti tu te:TI}(i:Nat){E:AE}{ao:Option Addr}{n cap:Nat}{xo:Option Addr}{m xc:Nat}{rows:List (List AT)}(fL:og it.o.op=some (s,x,t,u))(hd:it.o.dst=some d)(hg:bt it.guard env=some true)(hN:Nat.blt d cf.N=true)(Bo:iV it.tag=true)(hs:bP env s=some (.a (.v (.slice ao n cap))))(hx:bP env x=some (.a (.v (.slice xo m xc))))(H:bu σ xo m xc te.size rows)(hA:A[i]?=some E)(hE:(E.ao,E.n,E.cap,E.e)=(ao,n,cap,e))(ht:eX T t=some ti)(vU:ti.kind=.slice e)(hu:eX T u=some tu)(O7:sZ tu.kind=true)(qf:eX T e=some te)(jZ:E.sz=te.size)(Jw:te.zero.length=te.size)(mU:∀ r∈rows,r.all AT.one=true)(sq:n+m<=9223372036854775807)(Pj:(n+m)*te.bytes<=140737488355328)(hk:∀ iB dk,n+m<=dk->OJ cf rest Q σ ((d,.a (.v (.slice iB (n+m) dk)))::env) hp (A.set i ⟨iB,n+m,dk,E.e,E.sz,E.xs++rows.flatten.map AT.val⟩) nh): OJ cf (it::rest) Q σ env hp A nh:=by
 simp only[cC] at hE
 obtain⟨rfl,rfl,rfl,rfl⟩:=hE
 refine pZ hd hg hN Bo fun hb a β ha w hw=>?_
 obtain⟨i1,d1,z1,m1⟩:=bK (hT _ _ ht)
 obtain⟨i2,d2,z2,mR⟩:=bK (hT _ _ hu)
 obtain⟨i3,d3,z3,lh⟩:=bK (hT _ _ qf)
 have tZ:cf.P.underlying t=some (.slice E.e):=by
  have h1:=m1.kind
  rw[vU] at h1
  have h2:=m1.qx
  cases d1<;>first
   | (simp only[fx,TK.slice.injEq] at h1;subst h1;exact h2)
   | (simp only[fx] at h1;cases h1)
 have Hr:z3.cells.size=E.sz:=by
  have:=zero_den lh β
  rw[<-this,jZ]
  simp[Jw]
 have Sn:∀(l:List (List AT)),(∀ r∈l,r.length=te.size)->l.flatten.length=l.length*te.size:=by
  intro l hl
  induction l with
  | nil=>simp
  | cons r l ih=>simp[hl r (a8 ..),ih fun q hq=>hl q (ba _ hq),eC];omega
 have wk:(rows.flatten.map AT.val).length=m*E.sz:=by
  rw[aR,Sn rows fun r hr=>(H.qv r hr).1,H.len,jZ]
 have iG:∀(l:List (List AT)),(∀ r∈l,r.length=te.size)->∀ q c,l.flatten[q]?=some c->∃ i r j,l[i]?=some r/\r[j]?=some c/\q=i*te.size+j:=by
  intro l hl
  induction l with
  | nil=>intro q c hq;simp at hq
  | cons r l ih =>
   intro q c hq
   have hr:=hl r (a8 ..)
   rw[dx] at hq
   by_cases dj:q<te.size
   ·rw[aV Zo] at hq
    exact⟨0,r,q,rfl,hq,by omega⟩
   ·rw[aW Zo] at hq
    obtain⟨i,r',j,h1,h2,h3⟩:=ih (fun q hq=>hl q (ba _ hq)) _ c hq
    exact⟨i+1,r',j,by simpa using h1,h2,by rw[eC];omega⟩
 have yu:a.eval x=.slice xo m xc:=aD ha hx
 have Ep:a.eval s=.slice E.ao E.n E.cap:=aD ha hs
 have KF:∀ BJ:World,BJ.heap=w.heap->(Builtin.firstCells E.sz m (.slice xo m xc)).run cf.P BJ=.ok (rows.flatten.map AT.val).toArray BJ:=by
  intro BJ hh
  rcases H.at_ with h0 | ⟨ad,rfl,h2⟩
  ·subst h0
   have Es:rows=[]:=aY H.len
   subst Es
   cases xo with
   | none=>rfl
   | some ad=>simp[Builtin.firstCells,loadCells,loadCellsFrom]
  ·refine run_firstCells_some (P:=cf.P) BJ E.sz m ad m xc _ wk fun q v hv=>?_
   rw[aO] at hv
   obtain⟨c,hc,rfl⟩:=map_some hv
   obtain⟨i,r,j,h3,h4,rfl⟩:=iG rows (fun r hr=>(H.qv r hr).1) q c hc
   have:=al.mb hw (h2 i r j c h3 h4)
   rw[World.cell?,hh];exact this
 obtain⟨iB,dk,w',ed,gQ,DY⟩:=hw.append hA (t:=t) (u:=u) (ty:=it.o.type) (x:=.slice xo m xc) (m:=m) (news:=rows.flatten.map AT.val) tZ mR.qx (oJ (by rw[mR.kind];exact O7)) lh.info lh.zero
  (by rw[lh.size,jZ]) Hr (fun _=>rfl) KF wk
  (fun v hv=>by
   obtain⟨c,hc,rfl⟩:=bL.1 hv
   obtain⟨r,hr,VM⟩:=kX.1 hc
   exact AT.one_den fy (dc.1 (mU r hr) c VM)) (by simp only[maxLen];exact sq) (by rw[lh.bytes];exact Pj)
 refine⟨.a (.v (.slice iB (E.n+m) dk)),σ,hp,_,nh,w',β,?_,ha,hb.put (x:=.a (.v (.slice iB (E.n+m) dk))) trivial d,gQ,hk iB dk DY⟩
 exact lq fL (by rw[Ep,yu];exact ed)
theorem dy.y9{β:Nat->Addr}{w:World}(e sz:Nat): dy cf σ hp A β w↔dy cf σ hp (A++[⟨none,0,0,e,sz,[]⟩]) β w:=by
 have iG:∀ {i:Nat} {E:AE},(A++[(⟨none,0,0,e,sz,[]⟩:AE)])[i]?=some E->A[i]?=some E\/E=⟨none,0,0,e,sz,[]⟩:=by
  intro i E hi
  by_cases dj:i<A.length
  ·rw[aV dj] at hi;exact .inl hi
  ·rw[aW Zo] at hi
   have:=aC hi
   exact .inr (by simpa using this)
 have oD:∀ {i:Nat} {E:AE},A[i]?=some E->(A++[(⟨none,0,0,e,sz,[]⟩:AE)])[i]?=some E:=by
  intro i E hi
  rw[aV (ah.1 hi).1];exact hi
 constructor
 ·intro h
  refine⟨h.os,h.tape,h.output,h.size,h.fr,h.cQ,h.le,h.grow,h.loc,h.ro,h.inj,fun i E hE=>?_,fun i j E F hE hF iP g hg=>?_,fun i j E e' l hE hj=>?_⟩
  ·rcases iG hE with h1 | rfl
   ·exact h.arr i E h1
   ·exact⟨by simp,.inl ⟨rfl,rfl,rfl⟩⟩
  ·rcases iG hE with h1 | rfl
   ·rcases iG hF with h2 | rfl
    ·exact h.iR i j E F h1 h2 iP g hg
    ·simp[AE.rS]
   ·simp[AE.rS] at hg
  ·rcases iG hE with h1 | rfl
   ·exact h.iL i j E e' l h1 hj
   ·simp[AE.rS]
 ·intro h
  exact⟨h.os,h.tape,h.output,h.size,h.fr,h.cQ,h.le,h.grow,h.loc,h.ro,h.inj,fun i E hE=>h.arr i E (oD hE),fun i j E F hE hF=>h.iR i j E F (oD hE) (oD hF),
   fun i j E e' l hE=>h.iL i j E e' l (oD hE)⟩
theorem qp{l:List Item}(e sz:Nat)(h:OJ cf l Q σ env hp (A++[⟨none,0,0,e,sz,[]⟩]) nh): OJ cf l Q σ env hp A nh:=by
 refine⟨fun hb a β ha hex=>?_⟩
 have e1:(fun w=>dy cf σ hp A β w)=fun w=>dy cf σ hp (A++[⟨none,0,0,e,sz,[]⟩]) β w:=by funext w;exact propext (dy.y9 e sz)
 rw[e1]
 obtain⟨w,hw⟩:=hex
 exact h.run hb a β ha ⟨w,(dy.y9 e sz).1 hw⟩
theorem dV{c:Code}(e sz:Nat)(h:CJ cf c Q σ env hp (A++[⟨none,0,0,e,sz,[]⟩]) nh): CJ cf c Q σ env hp A nh :=
 ⟨fun hb a β w ha hw=>h.run hb a β w ha ((dy.y9 e sz).1 hw)⟩
def b9 (σ:al) (E:AE):Prop:=(E.ao=none/\E.n=0)\/∃ g,E.ao=some ⟨g,0,none⟩/\∀(j:Nat) x,E.xs[j]?=some x->σ.cell ⟨g,j,none⟩=some x
theorem dy.tb{β:Nat->Addr}{w:World}(h:dy cf σ hp A β w){i:Nat}{E:AE}(hi:A[i]?=some E):
  ∃ bD,σ.le bD/\b9 bD E/\dy cf bD hp (A.eraseIdx i) β w:=by
 have hE:=h.arr i E hi
 have iG:∀ {j:Nat} {F:AE},(A.eraseIdx i)[j]?=some F->∃ k,k≠i/\A[k]?=some F:=by
  intro j F hj
  rw[List.getElem?_eraseIdx] at hj
  split at hj
  ·exact⟨j,by omega,hj⟩
  ·exact⟨j+1,by omega,hj⟩
 have W5:∀ {j k:Nat} {F G:AE},(A.eraseIdx i)[j]?=some F->(A.eraseIdx i)[k]?=some G->j≠k->∃ p q:Nat,p≠q/\A[p]?=some F/\A[q]?=some G:=by
  intro j k F G hj hk zn
  rw[List.getElem?_eraseIdx] at hj hk
  split at hj<;>split at hk
  ·exact⟨j,k,zn,hj,hk⟩
  ·exact⟨j,k+1,by omega,hj,hk⟩
  ·exact⟨j+1,k,by omega,hj,hk⟩
  ·exact⟨j+1,k+1,by omega,hj,hk⟩
 rcases hE.2 with⟨e1,e2,e3⟩ | ⟨g,cur,hg,hw,Fx,Qf,lY,mi,qY,tw⟩
 ·refine⟨σ,al.le_refl σ,.inl ⟨e1,e2⟩,h.os,h.tape,h.output,h.size,h.fr,h.cQ,h.le,h.grow,h.loc,h.ro,h.inj,fun j F hF=>?_,fun j k F G hF hG zn=>?_,fun j k F e' l hF hk=>?_⟩
  ·obtain⟨q,_,hq⟩:=iG hF;exact h.arr q F hq
  ·obtain⟨p,q,Vx,nF,zk⟩:=W5 hF hG zn;exact h.iR p q F G nF zk Vx
  ·obtain⟨q,_,hq⟩:=iG hF;exact h.iL q k F e' l hq hk
 ·have sw:E.rS=some g:=by simp[AE.rS,hg]
  let bD:al:=fun b=>if b=g then some (.cells cur E.e (0,0)) else σ b
  have hle:σ.le bD:=by
   intro b o hb
   simp only[bD]
   rw[ai (fun hc=>by subst hc;rw[qY] at hb;cases hb)];exact hb
  have jv:∀ b,b≠g->bD b=σ b:=fun b hb=>by simp only[bD];rw[ai hb]
  refine⟨bD,hle,.inr ⟨g,hg,fun j x hx=>?_⟩,h.os,h.tape,h.output,h.size,h.fr,fun b o hb=>?_,fun b o hb=>hle b o (h.le b o hb),fun b hb=>?_,fun j e' l hj=>?_,fun j l hj q c hc=>hle.cell (h.ro j l hj q c hc),h.inj,fun j F hF=>?_,fun j k F G hF hG zn=>?_,fun j k F e' l hF hk=>?_⟩
  ·simp only[al.cell,bD,if_true]
   rw[<-mi,fE] at hx
   split at hx
   ·simpa using hx
   ·cases hx
  ·by_cases hbg:b=g
   ·subst hbg
    simp only[bD,if_true] at hb
    injection hb with hb
    rw[<-hb];exact hw
   ·rw[jv b hbg] at hb;exact h.cQ b o hb
  ·by_cases hbg:b=g
   ·subst hbg;exact .inr tw
   ·rw[jv b hbg] at hb;exact h.grow b hb
  ·obtain⟨g1,g2,g3,g4⟩:=h.loc j e' l hj
   exact⟨g1,g2,by rw[jv _ (fun hc=>h.iL i j E e' l hi hj (by rw[hc];exact sw))];exact g3,g4⟩
  ·obtain⟨q,hqi,hq⟩:=iG hF
   obtain⟨q1,q2⟩:=h.arr q F hq
   refine⟨q1,q2.imp id ?_⟩
   rintro⟨g',qP,r1,r2,r3,r4,r5,r6,r7,r8⟩
   refine⟨g',qP,r1,r2,r3,r4,r5,r6,?_,r8⟩
   rw[jv g' (fun hc=>h.iR i q E F hi hq (fun e=>hqi e.symm) g sw (by simp[AE.rS,r1,hc]))];exact r7
  ·obtain⟨p,q,Vx,nF,zk⟩:=W5 hF hG zn;exact h.iR p q F G nF zk Vx
  ·obtain⟨q,_,hq⟩:=iG hF;exact h.iL q k F e' l hq hk
theorem vL{c:Code}(i:Nat){E:AE}{A':List AE}(hi:A[i]?=some E)(hA:A.eraseIdx i=A')(h:∀ bD,σ.le bD->b9 bD E->CJ cf c Q bD env hp A' nh): CJ cf c Q σ env hp A nh:=by
 subst hA
 refine⟨fun hb a β w ha hw=>?_⟩
 obtain⟨bD,h1,h2,h3⟩:=hw.tb hi
 exact(h bD h1 h2).run hb a β w ha h3
theorem dD{e:Exit}(i:Nat){E:AE}{A':List AE}(hi:A[i]?=some E)(hA:A.eraseIdx i=A')(h:∀ bD,σ.le bD->b9 bD E->NJ cf e Q bD env hp A' nh): NJ cf e Q σ env hp A nh:=by
 subst hA
 refine⟨fun hb a β w ha hw=>?_⟩
 obtain⟨bD,h1,h2,h3⟩:=hw.tb hi
 exact(h bD h1 h2).run hb a β w ha h3
def yk:List Item->Bool
 | []=>true
 | it::l=>(match it.tag with | .free=>true | _=>false)&&yk l
theorem td{P:Program}: ∀(l:List Item) (E S:World->Prop) (a:Act),yk l=true->(∀ w,S w->∃ E' S':World->Prop,S' w/\RunT P Q l E' S' a)->RunT P Q l E S a
 | [],_,_,_,_,h=>fun w hS=>by obtain⟨_,S',h1,h2⟩:=h w hS;exact h2 w h1
 | it::l,E,S,a,hf,h=>by
  simp only[yk,aQ] at hf
  simp only[RunT]
  cases ec:it.tag with
  | free =>
   by_cases hw:vb it.guard a=true
   ·rw[au hw]
    intro w hS
    obtain⟨E',S',h1,h2⟩:=h w hS
    simp only[RunT,au hw,ec] at h2
    exact h2 w h1
   ·rw[ai hw]
    refine td l E S _ hf.2 fun w hS=>?_
    obtain⟨E',S',h1,h2⟩:=h w hS
    simp only[RunT,ai hw] at h2
    exact⟨E',S',h1,h2⟩
  | _=>rw[ec] at hf;cases hf.1
theorem iI{l:List Item}(i:Nat){E:AE}{A':List AE}(hf:yk l=true)(hi:A[i]?=some E)(hA:A.eraseIdx i=A')(h:∀ bD,σ.le bD->b9 bD E->OJ cf l Q bD env hp A' nh): OJ cf l Q σ env hp A nh:=by
 subst hA
 refine⟨fun hb a β ha _=>td l _ _ a hf fun w hw=>?_⟩
 obtain⟨bD,h1,h2,h3⟩:=hw.tb hi
 exact⟨_,_,h3,(h bD h1 h2).run hb a β ha ⟨w,h3⟩⟩
end
end Go.Sy
namespace Go.Sy
def zV (is:List Nat) (A:List AE):List AE :=
 match is with
 | []=>[]
 | i::is=>match A[i]? with
  | some E=>E::zV is A
  | none=>zV is A
def nodupB:List Nat->Bool
 | []=>true
 | i::is=>!(is.any (Nat.beq i))&&nodupB is
theorem vn{A:List AE}: ∀ {is:List Nat} {j:Nat} {E:AE},(zV is A)[j]?=some E->∃ i∈is,A[i]?=some E
 | [],j,E,h=>by simp[zV] at h
 | i::is,j,E,h=>by
  simp only[zV] at h
  split at h
  ·rename_i F hF
   cases j with
   | zero=>simp at h;subst h;exact⟨i,a8 ..,hF⟩
   | succ j =>
    obtain⟨k,hk,hE⟩:=vn (is:=is) (by simpa using h)
    exact⟨k,ba _ hk,hE⟩
  ·obtain⟨k,hk,hE⟩:=vn (is:=is) h
   exact⟨k,ba _ hk,hE⟩
theorem Jb{i:Nat}{is:List Nat}(h:nodupB (i::is)=true): i∉is/\nodupB is=true:=by
 simp only[nodupB,aQ,iE] at h
 refine⟨fun hi=>?_,h.2⟩
 have:is.any (Nat.beq i)=true:=List.any_eq_true.2 ⟨i,hi,Nat.beq_refl i⟩
 rw[h.1] at this;cases this
theorem Cn{A:List AE}: ∀ {is:List Nat} {j k:Nat} {E F:AE},nodupB is=true->j≠k->(zV is A)[j]?=some E->(zV is A)[k]?=some F->∃ p q:Nat,p≠q/\A[p]?=some E/\A[q]?=some F
 | [],j,k,E,F,_,_,h,_=>by simp[zV] at h
 | i::is,j,k,E,F,hn,zn,h,h'=>by
  obtain⟨hi,hn⟩:=Jb hn
  simp only[zV] at h h'
  split at h
  ·rename_i G hG
   rw[hG] at h'
   simp only at h'
   cases j with
   | zero =>
    cases k with
    | zero=>exact absurd rfl zn
    | succ k =>
     simp at h;subst h
     obtain⟨q,hq,hF⟩:=vn (is:=is) (by simpa using h')
     exact⟨i,q,fun e=>hi (e▸hq),hG,hF⟩
   | succ j =>
    cases k with
    | zero =>
     simp at h';subst h'
     obtain⟨q,hq,hF⟩:=vn (is:=is) (by simpa using h)
     exact⟨q,i,fun e=>hi (e▸hq),hF,hG⟩
    | succ k=>exact Cn (j:=j) (k:=k) hn Zo (by simpa using h) (by simpa using h')
  ·rename_i hG
   rw[hG] at h'
   exact Cn hn zn h h'
section
variable {cf:Cf} {σ:al} {hp:HP} {A:List AE} {β:Nat->Addr} {w:World}
theorem dy.zV(h:dy cf σ hp A β w){is:List Nat}(hn:nodupB is=true): dy cf σ hp (zV is A) β w:=by
 refine⟨h.os,h.tape,h.output,h.size,h.fr,h.cQ,h.le,h.grow,h.loc,h.ro,h.inj,fun i E hE=>?_,fun i j E F hE hF iP=>?_,fun i j E e cs hE=>?_⟩
 ·obtain⟨k,_,hk⟩:=vn hE;exact h.arr k E hk
 ·obtain⟨p,q,Vx,nF,zk⟩:=Cn hn iP hE hF;exact h.iR p q E F nF zk Vx
 ·obtain⟨k,_,hk⟩:=vn hE;exact h.iL k j E e cs hk
def AE.cut (E:AE) (k:Nat):AE:=⟨E.ao,k,E.cap,E.e,E.sz,E.xs.take (k*E.sz)⟩
theorem oF.cut{E:AE}(h:oF cf σ w E){k:Nat}(hk:k<=E.n): oF cf σ w (E.cut k):=by
 have hm:k*E.sz<=E.n*E.sz:=cn _ hk
 refine⟨by simp only[AE.cut,aE,h.1];exact gA hm,?_⟩
 rcases h.2 with⟨e1,e2,e3⟩ | ⟨g,cur,h3,h4,h5,h6,h7,h8,h9,uS⟩
 ·exact .inl ⟨e1,by simp only[AE.cut];omega,e3⟩
 ·refine .inr ⟨g,cur,h3,h4,by simp only[AE.cut];omega,h6,h7,?_,h9,uS⟩
  simp only[AE.cut]
  rw[<-h8,kc,gA hm]
theorem dy.Th(h:dy cf σ hp A β w){i:Nat}{E:AE}(hi:A[i]?=some E){k:Nat}(hk:k<=E.n): dy cf σ hp (A.set i (E.cut k)) β w:=by
 refine⟨h.os,h.tape,h.output,h.size,h.fr,h.cQ,h.le,h.grow,h.loc,h.ro,h.inj,fun j F hF=>?_,fun j l F G hF hG m2=>?_,fun j l F e cs hF=>?_⟩
 ·rcases nO hF with⟨rfl,rfl⟩ | ⟨iP,Ao⟩
  ·exact(h.arr i E hi).cut hk
  ·exact h.arr j F Ao
 ·have key:∀ {j:Nat} {F:AE},(A.set i (E.cut k))[j]?=some F->∃ F',A[j]?=some F'/\F.rS=F'.rS:=by
   intro j F hF
   rcases nO hF with⟨rfl,rfl⟩ | ⟨_,Ao⟩
   ·exact⟨E,hi,rfl⟩
   ·exact⟨F,Ao,rfl⟩
  obtain⟨F',h1,h2⟩:=key hF
  obtain⟨G',h3,h4⟩:=key hG
  rw[h2,h4]
  exact h.iR j l F' G' h1 h3 m2
 ·rcases nO hF with⟨rfl,rfl⟩ | ⟨_,Ao⟩
  ·exact h.iL i l E e cs hi
  ·exact h.iL j l F e cs Ao
end
def lL (A:List AE) (b:Nat):Prop:=∃ E∈A,E.rS=some b
theorem dy.bare{P:Program}{w0 w:World}{kC σ:al}{M:Nat->Prop}{N:Nat}{ds:List Deferred}{hp:HP}{A:List AE}{β:Nat->Addr}(h:dy ⟨P,w0,kC,M,N,ds,none⟩ σ hp A β w): dy ⟨P,w0,kC,M,0,[],none⟩ σ [] A fy w where
 os:=h.os
 tape:=h.tape
 output:=h.output
 size:=h.size
 fr:=h.fr
 cQ:=h.cQ
 le:=h.le
 grow:=h.grow
 loc:=fun _ _ _ h=>by cases h
 ro:=fun _ _ h=>by cases h
 inj:=fun _ _ _ _ _ _ h=>by cases h
 arr:=fun i E hE=>h.arr i E hE
 iR:=h.iR
 iL:=fun _ _ _ _ _ _ h=>by cases h
theorem dy.Y7{P:Program}{w0 w:World}{kC σ:al}{M:Nat->Prop}{A:List AE}(h:dy ⟨P,w0,kC,M,0,[],none⟩ σ [] A fy w)(N:Nat)(β:Nat->Addr): dy ⟨P,w0,kC,M,N,[],none⟩ σ [] A β w where
 os:=h.os
 tape:=h.tape
 output:=h.output
 size:=h.size
 fr:=h.fr
 cQ:=h.cQ
 le:=h.le
 grow:=h.grow
 loc:=fun _ _ _ h=>by cases h
 ro:=fun _ _ h=>by cases h
 inj:=fun _ _ _ _ _ _ h=>by cases h
 arr:=fun i E hE=>h.arr i E hE
 iR:=h.iR
 iL:=fun _ _ _ _ _ _ h=>by cases h
def IL (P:Program) (w:World) (σ:al) (A:List AE) (Φ:Value->al->List AE->Prop):Value->World->al->Prop :=
 fun v w' bD=>∃ A',Φ v bD A'/\dy ⟨P,w,σ,lL A,0,[],none⟩ bD [] A' fy w'
def Un (P:Program) (f:FuncId) (args:Array Value) (σ:al) (A:List AE) (Φ:Value->al->List AE->Prop):Prop :=
 ∀ w,dy ⟨P,w,σ,lL A,0,[],none⟩ σ [] A fy w->T3 P f args w (lL A) σ (IL P w σ A Φ)
theorem Un.mono{P:Program}{f:FuncId}{args:Array Value}{σ:al}{A:List AE}{Φ Ψ:Value->al->List AE->Prop}(h:Un P f args σ A Φ)(hi:∀ v bD A',σ.le bD->Φ v bD A'->Ψ v bD A'): Un P f args σ A Ψ :=
 fun w hw=>Calls.mono (h w hw) fun _ _ ⟨v,bD,h1,h2,h3,h4,A',h5,h6⟩=>⟨v,bD,h1,h2,h3,h4,A',hi v bD A' h3.le h5,h6⟩
theorem yf: lL []=fun _=>False:=by funext b;simp[lL]
theorem Te{P:Program}{f:FuncId}{fn:Func}{c:Code}{args:Array Value}{σ:al}{A:List AE}{Φ:Value->al->List AE->Prop}(hf:P.funcs[f]?=some fn)(hb:fn.body=some c)(lM:List SV)(fi:args=(lM.map (SV.den fy)).toArray)(hN:lM.length<=fn.ntmps)(dj:∀ x∈lM,x.lt 0)(h:∀ w,CJ ⟨P,w,σ,lL A,fn.ntmps,[],none⟩ c (bodyPost P fn (rf w (lL A) σ (IL P w σ A Φ))) σ (oZ 0 lM) [] A 0): Un P f args σ A Φ :=
 fun w hw=>enter hf hb lM fy [] A 0 fi hN dj (fun _ _ _ h=>by cases h) (hw.Y7 _ _) (h w)
theorem dq{P:Program}{w0:World}{kC:al}{A0:List AE}{N:Nat}{T:List (Nat×TI)}(hT:cu P T){fn:Func}{Φ:Value->al->List AE->Prop}{σ:al}{env:Env}{hp:HP}{A:List AE}{nh:Nat}{xs:List S1}(hr:AJ T env hp fn.results.toList=some xs)(h:∀ β w,Bd env hp nh->dy ⟨P,w0,kC,lL A0,N,[],none⟩ σ hp A β w->Φ ((wb xs).den β) σ A):
  NJ ⟨P,w0,kC,lL A0,N,[],none⟩ .ret (bodyPost P fn (rf w0 (lL A0) kC (IL P w0 kC A0 Φ))) σ env hp A nh :=
 aw hT hr fun β w hb hw=>⟨A,h β w hb hw,hw.bare⟩
theorem nU{P:Program}{w0:World}{kC:al}{A0:List AE}{N:Nat}{T:List (Nat×TI)}(hT:cu P T){fn:Func}{Φ:Value->al->List AE->Prop}{σ:al}{env:Env}{hp:HP}{A:List AE}{nh:Nat}{xs:List S1}(hr:AJ T env hp fn.results.toList=some xs)(h:∀ β w,Bd env hp nh->dy ⟨P,w0,kC,lL A0,N,[],none⟩ σ hp A β w->Φ ((wb xs).den β) σ A):
  NJ ⟨P,w0,kC,lL A0,N,[],none⟩ .normal (bodyPost P fn (rf w0 (lL A0) kC (IL P w0 kC A0 Φ))) σ env hp A nh :=
 XS hT hr fun β w hb hw=>⟨A,h β w hb hw,hw.bare⟩
section
variable {cf:Cf} {Q:Exit->Act->World->Prop} {σ:al} {env:Env} {hp:HP} {A:List AE} {nh:Nat} {it:Item} {rest:List Item}
theorem WG{e:Exit}(is:List Nat){A':List AE}(hA:zV is A=A')(hn:nodupB is=true)(h:NJ cf e Q σ env hp A' nh): NJ cf e Q σ env hp A nh:=by
 subst hA
 exact⟨fun hb a β w ha hw=>h.run hb a β w ha (hw.zV hn)⟩
theorem Xh{c:Code}(is:List Nat){A':List AE}(hA:zV is A=A')(hn:nodupB is=true)(h:CJ cf c Q σ env hp A' nh): CJ cf c Q σ env hp A nh:=by
 subst hA
 exact⟨fun hb a β w ha hw=>h.run hb a β w ha (hw.zV hn)⟩
theorem vu{l:List Item}(i k:Nat){E:AE}{A':List AE}(hf:yk l=true)(hi:A[i]?=some E)(hk:k<=E.n)(hA:A.set i (E.cut k)=A')(h:OJ cf l Q σ env hp A' nh): OJ cf l Q σ env hp A nh:=by
 subst hA
 refine⟨fun hb a β ha _=>td l _ _ a hf fun w hw=>?_⟩
 exact⟨_,_,hw.Th hi hk,h.run hb a β ha ⟨w,hw.Th hi hk⟩⟩
theorem al.l7{σ bD:al}(h:σ.le bD){b:Nat}(hb:bD b=none): σ b=none:=by
 cases uR:σ b with
 | none=>rfl
 | some o=>rw[h b o uR] at hb;cases hb
theorem dy.through{β:Nat->Addr}{w w':World}{bD:al}{A0 Ar A1:List AE}(h:dy cf σ hp (A0++Ar) β w)(h':dy ⟨cf.P,w,σ,lL A0,0,[],none⟩ bD [] A1 fy w'): dy cf bD hp (A1++Ar) β w':=by
 have Yy:∀ {E},E∈A0->∃ i,(A0++Ar)[i]?=some E/\i<A0.length:=by
  intro E hE
  obtain⟨i,hi⟩:=List.getElem?_of_mem hE
  have dj:=(ah.1 hi).1
  exact⟨i,by rw[aV dj];exact hi,dj⟩
 have sw:∀ {b},lL A0 b->∃ i E,(A0++Ar)[i]?=some E/\E.rS=some b/\i<A0.length:=by
  rintro b ⟨E,hE,hb⟩
  obtain⟨i,hi,dj⟩:=Yy hE
  exact⟨i,E,hi,hb,dj⟩
 have tw:∀ {b},lL A0 b->PV cf b:=by
  intro b hb
  obtain⟨i,E,hi,hE,_⟩:=sw hb
  exact((h.arr i E hi).lt hE).2.2
 have ar8:∀ {b},lL A0 b->b<w.heap.size:=by
  intro b hb
  obtain⟨i,E,hi,hE,_⟩:=sw hb
  exact((h.arr i E hi).lt hE).1
 have hold:∀ b,b<w.heap.size->¬ lL A0 b->w'.heap[b]?=w.heap[b]?:=h'.fr
 have qY:∀ b,b<w.heap.size->¬ lL A0 b->σ b=none->bD b=none:=by
  intro b hb ov hn
  cases uR:bD b with
  | none=>rfl
  | some o =>
   rcases h'.grow b (by rw[uR];simp) with h1 | h1 | h1
   ·exact absurd hn h1
   ·have:w.heap.size<=b:=h1
    omega
   ·exact absurd h1 ov
 have JC:∀ {b},PV ⟨cf.P,w,σ,lL A0,0,[],none⟩ b->PV cf b:=by
  rintro b (h1 | h1)
  ·exact .inl (ep h.size h1)
  ·exact tw h1
 have iG:∀ {j:Nat} {E:AE},(A1++Ar)[j]?=some E->(j<A1.length/\A1[j]?=some E)\/(A1.length<=j/\(A0++Ar)[A0.length+(j - A1.length)]?=some E):=by
  intro j E hj
  by_cases dj:j<A1.length
  ·rw[aV dj] at hj;exact .inl ⟨dj,hj⟩
  ·rw[aW Zo] at hj
   refine .inr ⟨by omega,?_⟩
   rw[aW Zo,mP];exact hj
 have rP:∀ {E:AE} {j:Nat} {b:Nat},A1[j]?=some E->E.rS=some b->w.heap.size<=b\/lL A0 b:=by
  intro E j b hE hb
  rcases((h'.arr j E hE).lt hb).2.2 with h1 | h1
  ·exact .inl h1
  ·exact .inr h1
 have C8:∀ {F:AE} {k:Nat} {b:Nat},A0.length<=k->(A0++Ar)[k]?=some F->F.rS=some b->b<w.heap.size/\¬ lL A0 b:=by
  intro F k b hk hF hb
  refine⟨((h.arr k F hF).lt hb).1,fun hc=>?_⟩
  obtain⟨i,E,hi,hE,dj⟩:=sw hc
  exact h.iR i k E F hi hF Zo b hE hb
 refine⟨h'.os.trans h.os,h'.tape.trans h.tape,h'.output.trans h.output,ep h.size h'.size,fun b hb hm=>?_,h'.cQ,fun b o hb=>h'.le b o (h.le b o hb),fun b hb=>?_,fun i e cs hi=>?_,fun i cs hi j c hc=>al.le.cell h'.le (h.ro i cs hi j c hc),h.inj,fun i E hE=>?_,
  fun i j E F hE hF iP=>?_,fun i j E e cs hE hj=>?_⟩
 ·have ov:¬ lL A0 b:=fun hc=>by
   rcases tw hc with h1 | h1
   ·omega
   ·exact hm h1
  rw[hold b (fC hb h.size) ov];exact h.fr b hb hm
 ·rcases h'.grow b hb with h1 | h1
  ·exact h.grow b h1
  ·exact .inr (JC h1)
 ·obtain⟨h1,h2,h3,h4⟩:=h.loc i e cs hi
  have dj:=(bH.1 h2).1
  have ov:¬ lL A0 (β i).block:=fun hc=>by
   obtain⟨k,E,hk,hE,_⟩:=sw hc
   exact h.iL k i E e cs hk hi hE
  exact⟨h1,by rw[hold _ dj ov];exact h2,qY _ dj ov h3,h4⟩
 ·rcases iG hE with⟨_,tG⟩ | ⟨hle,tG⟩
  ·obtain⟨h1,h2⟩:=h'.arr i E tG
   refine⟨h1,h2.imp id ?_⟩
   rintro⟨g,cur,h3,h4,h5,h6,h7,h8,h9,uS⟩
   exact⟨g,cur,h3,h4,h5,h6,h7,h8,h9,JC uS⟩
  ·obtain⟨h1,h2⟩:=h.arr _ E tG
   refine⟨h1,h2.imp id ?_⟩
   rintro⟨g,cur,h3,h4,h5,h6,h7,h8,h9,uS⟩
   obtain⟨dj,ov⟩:=C8 Zo tG (b:=g) (by simp[AE.rS,h3])
   exact⟨g,cur,h3,by rw[hold g dj ov];exact h4,h5,h6,h7,h8,qY g dj ov h9,uS⟩
 ·intro b VS VR
  rcases iG hE with⟨hi,tG⟩ | ⟨hi,tG⟩<;>rcases iG hF with⟨hj,Ao⟩ | ⟨hj,Ao⟩
  ·exact h'.iR i j E F tG Ao iP b VS VR
  ·obtain⟨dj,ov⟩:=C8 Zo Ao VR
   rcases rP tG VS with h1 | h1
   ·omega
   ·exact ov h1
  ·obtain⟨dj,ov⟩:=C8 Zo tG VS
   rcases rP Ao VR with h1 | h1
   ·omega
   ·exact ov h1
  ·exact h.iR _ _ E F tG Ao Zo b VS VR
 ·intro hb
  obtain⟨h1,h2,h3,h4⟩:=h.loc j e cs hj
  have dj:=(bH.1 h2).1
  rcases iG hE with⟨_,tG⟩ | ⟨_,tG⟩
  ·rcases rP tG hb with h5 | h5
   ·omega
   ·obtain⟨k,G,hk,hG,_⟩:=sw h5
    exact h.iL k j G e cs hk hj hG
  ·exact h.iL _ j E e cs tG hj hb
theorem dy.GQ{β:Nat->Addr}{w:World}{A0 Ar:List AE}(h:dy cf σ hp (A0++Ar) β w): dy ⟨cf.P,w,σ,lL A0,0,[],none⟩ σ [] A0 fy w where
 os:=rfl
 tape:=rfl
 output:=rfl
 size:=aq _
 fr:=fun _ _ _=>rfl
 cQ:=h.cQ
 le:=fun _ _ h=>h
 grow:=fun _ h=>.inl h
 loc:=fun _ _ _ h=>by cases h
 ro:=fun _ _ h=>by cases h
 inj:=fun _ _ _ _ _ _ h=>by cases h
 arr:=fun i E hE=>by
  have dj:=(ah.1 hE).1
  obtain⟨h1,h2⟩:=h.arr i E (by rw[aV dj];exact hE)
  refine⟨h1,h2.imp id ?_⟩
  rintro⟨g,cur,h3,h4,h5,h6,h7,h8,h9,uS⟩
  exact⟨g,cur,h3,h4,h5,h6,h7,h8,h9,.inr ⟨E,aC hE,by simp[AE.rS,h3]⟩⟩
 iR:=fun i j E F hE hF iP=>by
  have hi:=(ah.1 hE).1
  have hj:=(ah.1 hF).1
  exact h.iR i j E F (by rw[aV hi];exact hE) (by rw[aV hj];exact hF) iP
 iL:=fun _ _ _ _ _ _ h=>by cases h
theorem Lk{d:Nat}{f:FuncId}{ys:List SV}{Φ:Value->al->List AE->Prop}(is:List Nat){A0 Ar:List AE}(hA:zV is A=A0++Ar)(hn:nodupB is=true)(hc:callee env it.o.op=some (f,ys))(hd:it.o.dst=some d)(hg:bt it.guard env=some true)(hN:Nat.blt d cf.N=true)(ec:iV it.tag=true)(gm:∀ args w,(callFunc f args).run cf.P w=.ok (.enter f args) w)(dj:∀ y∈ys,y.lt 0)(hC:Un cf.P f (ys.map (SV.den fy)).toArray σ A0 Φ)(k:∀ v bD A',σ.le bD->Φ v bD A'->∃ y:SV,y.lt 0/\y.den fy=v/\OJ cf rest Q bD ((d,y)::env) hp (A'++Ar) nh): OJ cf (it::rest) Q σ env hp A nh:=by
 refine⟨fun hb a β ha hex=>?_⟩
 have sx:d<cf.N:=by simpa[fD] using hN
 have pQ:∀ {y:SV},y.lt 0->y.den β=y.den fy:=fun hy=>SV.dM (n:=0) (fun i hi=>by omega) hy
 have fi:(ys.map (SV.den β)).toArray=(ys.map (SV.den fy)).toArray:=by
  rw[cY fun y hy=>pQ (dj y hy)]
 have key:∀ w,dy cf σ hp A β w->∀ Q',it.o.wq cf.P a w (fun a' w'=>∃ E' S':World->Prop,S' w'/\(∀ x,S' x->E' x)/\RunT cf.P Q rest E' S' a') Q':=by
  intro w hw Q'
  have AO:dy cf σ hp (A0++Ar) β w:=by rw[<-hA];exact hw.zV hn
  unfold Oper.wq
  rw[oX ha hc gm]
  simp only[Oper.uponIn]
  rw[fi]
  refine⟨fun h=>(by cases h),CallsIn.mono (jW.2 (hC w AO.GQ)) fun e w' ⟨v,bD,he,h1,h2,h3,A',h4,h5⟩=>?_⟩
  subst he
  obtain⟨y,hy,Jx,hk⟩:=k v bD A' h2.le h4
  have gQ:=AO.through h5
  refine⟨_,_,gQ,fun _ h=>h,?_⟩
  have:=hk.run (hb.put (SV.eT (ay _) hy) d) (a.put (some d) (y.den β)) β (ha.put sx y) ⟨_,gQ⟩
  rw[hd,<-Jx,<-pQ hy]
  exact this
 simp only[RunT]
 rw[au (da ha hg)]
 cases kL:it.tag with
 | pure=>rw[kL] at ec;cases ec
 | quiet=>rw[kL] at ec;cases ec
 | dP=>rw[kL] at ec;cases ec
 | sink=>exact fun w hw=>key w hw _
 | free=>exact fun w hw=>key w hw _
end
end Go.Sy
namespace Go.Sy
def FJ (h g:Nat):PT->PT
 | .loc i o=>bif Nat.beq i h then .val (.pointer (some ⟨g,o,none⟩)) else .loc i o
 | .val x=>.val x
def qQ (h g:Nat):AT->AT
 | .p i o=>bif Nat.beq i h then .v (.pointer (some ⟨g,o,none⟩)) else .p i o
 | .sl i n=>bif Nat.beq i h then .v (.slice (some ⟨g,0,none⟩) n n) else .sl i n
 | .fn f c=>.fn f (c.map (FJ h g))
 | x=>x
def Dx (h g:Nat):S1->S1
 | .a x=>.a (qQ h g x)
 | .agg cs=>.agg (cs.map (qQ h g))
def FI (h g:Nat):SV->SV
 | .a x=>.a (qQ h g x)
 | .agg cs=>.agg (cs.map (qQ h g))
 | .ik vs=>.ik (vs.map (Dx h g))
def ya (h g:Nat):Env->Env
 | []=>[]
 | (i,x)::l=>(i,FI h g x)::ya h g l
def HP.del (h:Nat):HP->HP
 | []=>[]
 | (i,k,cs)::l=>bif Nat.beq i h then HP.del h l else (i,k,cs)::HP.del h l
section
variable {h g:Nat} {β:Nat->Addr}
theorem PF(jF:β h=⟨g,0,none⟩)(x:PT): (FJ h g x).den β=x.den β:=by
 cases x with
 | loc i o =>
  simp only[FJ]
  cases hb:Nat.beq i h with
  | false=>rfl
  | true=>have:=dX hb;subst this;simp only[cond_true,PT.den,jF,jM]
 | val x=>rfl
theorem Dw(jF:β h=⟨g,0,none⟩)(x:AT): (qQ h g x).den β=x.den β:=by
 cases x with
 | p i o =>
  simp only[qQ]
  cases hb:Nat.beq i h with
  | false=>rfl
  | true=>have:=dX hb;subst this;simp only[cond_true,AT.den,jF,jM]
 | sl i n =>
  simp only[qQ]
  cases hb:Nat.beq i h with
  | false=>rfl
  | true=>have:=dX hb;subst this;simp only[cond_true,AT.den,jF]
 | fn f c =>
  simp only[qQ,AT.den,jm]
  have:(PT.den β ∘ FJ h g)=PT.den β:=by funext x;exact PF jF x
  rw[this]
 | _=>rfl
theorem FK(jF:β h=⟨g,0,none⟩)(l:List AT): (l.map (qQ h g)).map (AT.den β)=l.map (AT.den β):=by
 rw[jm]
 have:(AT.den β ∘ qQ h g)=AT.den β:=by funext x;exact Dw jF x
 rw[this]
theorem Mg(jF:β h=⟨g,0,none⟩)(x:S1): (Dx h g x).den β=x.den β:=by
 cases x with
 | a x=>exact Dw jF x
 | agg l=>simp only[Dx,S1.den,FK jF]
theorem PD(jF:β h=⟨g,0,none⟩)(x:SV): (FI h g x).den β=x.den β:=by
 cases x with
 | a x=>exact Dw jF x
 | agg l=>simp only[FI,SV.den,FK jF]
 | ik vs =>
  simp only[FI,SV.den,jm]
  have:(S1.den β ∘ Dx h g)=S1.den β:=by funext x;exact Mg jF x
  rw[this]
theorem Tk{n:Nat}{x:PT}(hx:x.lt n): (FJ h g x).lt n:=by
 cases x with
 | loc i o=>simp only[FJ];cases Nat.beq i h<;>first | exact hx | trivial
 | val x=>trivial
theorem Bu{n:Nat}{x:AT}(hx:x.lt n): (qQ h g x).lt n:=by
 cases x with
 | p i o=>simp only[qQ];cases Nat.beq i h<;>first | exact hx | trivial
 | sl i m=>simp only[qQ];cases Nat.beq i h<;>first | exact hx | trivial
 | fn f c =>
  intro y hy
  obtain⟨z,hz,rfl⟩:=bL.1 hy
  exact Tk (hx z hz)
 | _=>trivial
theorem PE{n:Nat}{x:S1}(hx:x.lt n): (Dx h g x).lt n:=by
 cases x with
 | a x=>exact Bu (x:=x) hx
 | agg l =>
  intro y hy
  obtain⟨z,hz,rfl⟩:=bL.1 hy
  exact Bu (hx z hz)
theorem Tj{n:Nat}{x:SV}(hx:x.lt n): (FI h g x).lt n:=by
 cases x with
 | a x=>exact Bu (x:=x) hx
 | agg l =>
  intro y hy
  obtain⟨z,hz,rfl⟩:=bL.1 hy
  exact Bu (hx z hz)
 | ik vs =>
  intro y hy
  obtain⟨z,hz,rfl⟩:=bL.1 hy
  exact PE (hx z hz)
theorem zK: ∀ {env:Env} {i:Nat} {x:SV},(ya h g env).get i=some x->∃ y,env.get i=some y/\x=FI h g y
 | [],_,_,hx=>by cases hx
 | (j,y)::l,i,x,hx=>by
  simp only[ya] at hx
  rw[Env.ee] at hx ⊢
  by_cases wY:j=i
  ·rw[au wY] at hx ⊢;injection hx with hx;exact⟨y,rfl,hx.symm⟩
  ·rw[ai wY] at hx ⊢;exact zK hx
theorem HP.G0{hp:HP}{i:Nat}: (HP.del h hp).get i=if i=h then none else hp.get i:=by
 induction hp with
 | nil=>simp[HP.del,HP.get]
 | cons e l ih =>
  obtain⟨j,k,cs⟩:=e
  simp only[HP.del]
  cases hb:Nat.beq j h with
  | true =>
   have:=dX hb
   subst this
   simp only[cond_true]
   rw[ih,HP.ee]
   by_cases iP:i=j
   ·rw[au iP,au iP]
   ·rw[ai iP,ai iP,ai (fun e=>iP e.symm)]
  | false =>
   have jv:j≠h:=fun e=>by subst e;simp at hb
   simp only[cond_false]
   rw[HP.ee,HP.ee,ih]
   by_cases iP:j=i
   ·rw[au iP,ai Zo,au iP]
   ·rw[ai iP,ai iP]
theorem HP.sF{hp:HP}{i:Nat}{x:HK×List AT}(hx:(HP.del h hp).get i=some x): i≠h/\hp.get i=some x:=by
 rw[HP.G0] at hx
 by_cases Yz:i=h
 ·rw[au Yz] at hx;cases hx
 ·rw[ai Yz] at hx;exact⟨Yz,hx⟩
end
section
variable {cf:Cf} {σ:al} {hp:HP} {A:List AE} {β:Nat->Addr} {w:World}
theorem tT{A:List AE}{E F:AE}{i:Nat}(h:(A++[E])[i]?=some F): (i<A.length/\A[i]?=some F)\/(i=A.length/\F=E):=by
 by_cases dj:i<A.length
 ·rw[aV dj] at h;exact .inl ⟨dj,h⟩
 ·rw[aW Zo] at h
  have h0:i - A.length=0:=by
   cases hq:i - A.length with
   | zero=>rfl
   | succ m=>rw[hq] at h;simp at h
  rw[h0] at h
  simp at h
  exact .inr ⟨by omega,h.symm⟩
theorem mf{A:List AE}{E F:AE}{i:Nat}(h:A[i]?=some F): (A++[E])[i]?=some F:=by
 rw[aV (ah.1 h).1];exact h
theorem oe{A:List AE}{E:AE}: (A++[E])[A.length]?=some E:=by
 rw[aW (aq _),fM];rfl
theorem dy.own{h:Nat}{e:TypeId}{cs:List AT}(bU:hp.get h=some (.loc e,cs))(lY:∀ c∈cs,c.lt 0){g:Nat}(jF:β h=⟨g,0,none⟩){n sz:Nat}(hlen:cs.length=n*sz)(hn:n<=maxLen):
  dy cf σ hp A β w↔dy cf σ (HP.del h hp) (A++[⟨some ⟨g,0,none⟩,n,n,e,sz,cs.map AT.val⟩]) β w:=by
 have AP:cs.map AT.val=cs.map (AT.den β):=cY fun c hc=>(AT.qi (lY c hc) β).symm
 have oD:∀ {i:Nat} {x:HK×List AT},i≠h->hp.get i=some x->(HP.del h hp).get i=some x:=by
  intro i x jv hi
  rw[HP.G0,ai jv];exact hi
 constructor
 ·intro H
  obtain⟨l1,l2,l3,l4⟩:=H.loc h e cs bU
  have rV:(β h).block=g:=by rw[jF]
  refine⟨H.os,H.tape,H.output,H.size,H.fr,H.cQ,H.le,H.grow,fun i e' l hi=>H.loc i e' l (HP.sF hi).2,fun i l hi=>H.ro i l (HP.sF hi).2,fun i j e1 e2 c1 c2 hi hj=>H.inj i j e1 e2 c1 c2 (HP.sF hi).2 (HP.sF hj).2,
   fun i E hE=>?_,fun i j E F hE hF iP b hb=>?_,fun i j E e' l hE hj=>?_⟩
  ·rcases tT hE with⟨_,tG⟩ | ⟨_,rfl⟩
   ·exact H.arr i E tG
   ·refine⟨by simp[hlen],.inr ⟨g,_,rfl,by rw[<-rV];exact l2,aq _,hn,by simp[hlen],?_,by rw[<-rV];exact l3,by rw[<-rV];exact l4⟩⟩
    simp only[AP]
    rw[<-hlen]
    exact bY (by simp)
  ·rcases tT hE with⟨_,tG⟩ | ⟨rU,rfl⟩<;>rcases tT hF with⟨_,Ao⟩ | ⟨tC,rfl⟩
   ·exact H.iR i j E F tG Ao iP b hb
   ·simp only[AE.rS,Option.map_some]
    have:=H.iL i h E e cs tG bU
    rw[rV] at this
    rw[hb] at this
    exact fun hc=>this hc.symm
   ·simp only[AE.rS,Option.map_some,bf] at hb
    have:=H.iL j h F e cs Ao bU
    rw[rV,hb] at this
    exact this
   ·omega
  ·obtain⟨hjh,tC⟩:=HP.sF hj
   rcases tT hE with⟨_,tG⟩ | ⟨_,rfl⟩
   ·exact H.iL i j E e' l tG tC
   ·simp only[AE.rS,Option.map_some,ne_eq,bf]
    intro hc
    exact hjh (H.inj j h e' e l cs tC bU (by rw[rV];exact hc.symm))
 ·intro H
  have rP:=H.arr A.length _ oe
  have ad4:w.heap[g]?=some (.cells (cs.map (AT.den β)).toArray e (0,0))/\σ g=none/\PV cf g:=by
   rcases rP.2 with h1 | ⟨g',cur,h3,h4,h5,h6,h7,h8,h9,uS⟩
   ·cases h1.1
   ·injection h3 with h3
    simp only[Addr.mk.injEq,and_true] at h3
    subst h3
    refine⟨?_,h9,uS⟩
    rw[h4]
    congr 2
    simp only at h7 h8
    rw[<-h7,<-cZ,aI,AP] at h8
    rw[<-h8]
  have CZ:∀ {i:Nat} {k:HK} {l:List AT},hp.get i=some (k,l)->(i=h/\k=.loc e/\l=cs)\/(i≠h/\(HP.del h hp).get i=some (k,l)):=by
   intro i k l hi
   by_cases Yz:i=h
   ·subst Yz
    rw[bU] at hi
    injection hi with hi
    simp only[cC] at hi
    exact .inl ⟨rfl,hi.1.symm,hi.2.symm⟩
   ·exact .inr ⟨Yz,oD Yz hi⟩
  refine⟨H.os,H.tape,H.output,H.size,H.fr,H.cQ,H.le,H.grow,fun i e' l hi=>?_,fun i l hi=>?_,fun i j e1 e2 c1 c2 hi hj iP=>?_,fun i E hE=>H.arr i E (mf hE),fun i j E F hE hF=>H.iR i j E F (mf hE) (mf hF),fun i j E e' l hE hj=>?_⟩
  ·rcases CZ hi with⟨rfl,hk,rfl⟩ | ⟨jv,rU⟩
   ·injection hk with hk
    subst hk
    rw[jF]
    exact⟨rfl,ad4⟩
   ·exact H.loc i e' l rU
  ·rcases CZ hi with⟨rfl,hk,rfl⟩ | ⟨jv,rU⟩
   ·cases hk
   ·exact H.ro i l rU
  ·rcases CZ hi with⟨rfl,_,rfl⟩ | ⟨jv,rU⟩<;>rcases CZ hj with⟨rfl,_,rfl⟩ | ⟨ar2,tC⟩
   ·rfl
   ·exact absurd (by simp[AE.rS];rw[<-iP,jF]) (H.iL A.length j _ e2 c2 oe tC)
   ·exact absurd (by simp[AE.rS];rw[iP,jF]) (H.iL A.length i _ e1 c1 oe rU)
   ·exact H.inj i j e1 e2 c1 c2 rU tC iP
  ·rcases CZ hj with⟨rfl,_,rfl⟩ | ⟨jv,tC⟩
   ·rw[jF]
    intro hc
    have dj:=(ah.1 hE).1
    exact H.iR i A.length E _ (mf hE) oe Zo g hc (by simp[AE.rS])
   ·exact H.iL i j E e' l (mf hE) tC
end
section
variable {cf:Cf} {Q:Exit->Act->World->Prop} {σ:al} {env:Env} {hp:HP} {A:List AE} {nh:Nat} {it:Item} {rest:List Item}
theorem nc.qQ{β:Nat->Addr}{a:Act}{h g:Nat}(jF:β h=⟨g,0,none⟩)(ha:nc cf env β a): nc cf (ya h g env) β a:=by
 refine⟨ha.size,ha.defers,fun i x hx=>?_⟩
 obtain⟨y,hy,rfl⟩:=zK hx
 rw[PD jF];exact ha.env i y hy
theorem Bd.qQ{h g:Nat}(hb:Bd env hp nh): Bd (ya h g env) (HP.del h hp) nh:=by
 refine⟨fun i x hx=>?_,fun i k cs hi=>hb.hp i k cs (HP.sF hi).2⟩
 obtain⟨y,hy,rfl⟩:=zK hx
 exact Tj (hb.env i y hy)
theorem gP{l:List Item}(h:Nat){e:TypeId}{cs:List AT}(n sz:Nat)(bU:hp.get h=some (.loc e,cs))(lY:∀ c∈cs,c.lt 0)(hlen:cs.length=n*sz)(hn:n<=9223372036854775807)(k:∀ g,OJ cf l Q σ (ya h g env) (HP.del h hp) (A++[⟨some ⟨g,0,none⟩,n,n,e,sz,cs.map AT.val⟩]) nh): OJ cf l Q σ env hp A nh:=by
 refine⟨fun hb a β ha hex=>?_⟩
 obtain⟨w,hw⟩:=hex
 have jF:β h=⟨(β h).block,0,none⟩:=(hw.loc h e cs bU).1
 have e1:(fun w=>dy cf σ hp A β w)=fun w=>dy cf σ (HP.del h hp) (A++[⟨some ⟨(β h).block,0,none⟩,n,n,e,sz,cs.map AT.val⟩]) β w:=by
  funext w;exact propext (dy.own bU lY jF hlen (by simp only[maxLen];exact hn))
 rw[e1]
 exact(k _).run hb.qQ a β (ha.qQ jF) ⟨w,(congrFun e1 w)▸hw⟩
theorem zM{c:Code}(h:Nat){e:TypeId}{cs:List AT}(n sz:Nat)(bU:hp.get h=some (.loc e,cs))(lY:∀ c∈cs,c.lt 0)(hlen:cs.length=n*sz)(hn:n<=9223372036854775807)(k:∀ g,CJ cf c Q σ (ya h g env) (HP.del h hp) (A++[⟨some ⟨g,0,none⟩,n,n,e,sz,cs.map AT.val⟩]) nh): CJ cf c Q σ env hp A nh:=by
 refine⟨fun hb a β w ha hw=>?_⟩
 have jF:β h=⟨(β h).block,0,none⟩:=(hw.loc h e cs bU).1
 exact(k _).run hb.qQ a β w (ha.qQ jF) ((dy.own bU lY jF hlen (by simp only[maxLen];exact hn)).1 hw)
theorem rO{ex:Exit}(h:Nat){e:TypeId}{cs:List AT}(n sz:Nat)(bU:hp.get h=some (.loc e,cs))(lY:∀ c∈cs,c.lt 0)(hlen:cs.length=n*sz)(hn:n<=9223372036854775807)(k:∀ g,NJ cf ex Q σ (ya h g env) (HP.del h hp) (A++[⟨some ⟨g,0,none⟩,n,n,e,sz,cs.map AT.val⟩]) nh): NJ cf ex Q σ env hp A nh:=by
 refine⟨fun hb a β w ha hw=>?_⟩
 have jF:β h=⟨(β h).block,0,none⟩:=(hw.loc h e cs bU).1
 exact(k _).run hb.qQ a β w (ha.qQ jF) ((dy.own bU lY jF hlen (by simp only[maxLen];exact hn)).1 hw)
theorem oF.some{w:World}{E:AE}(h:oF cf σ w E)(hn:0<E.cap): ∃ g,E.ao=.some ⟨g,0,none⟩:=by
 rcases h.2 with h1 | ⟨g,cur,h3,_⟩
 ·omega
 ·exact⟨g,h3⟩
theorem oF.pn{w:World}{E:AE}(h:oF cf σ w E): E.n<=E.cap:=by
 rcases h.2 with h1 | ⟨g,cur,h3,h4,h5,_⟩
 ·omega
 ·exact h5
theorem uE{l:List Item}(i:Nat){E:AE}(hi:A[i]?=some E)(hn:0<E.n)(k:∀ g,E.ao=some ⟨g,0,none⟩->OJ cf l Q σ env hp A nh): OJ cf l Q σ env hp A nh:=by
 refine⟨fun hb a β ha hex=>?_⟩
 obtain⟨w,hw⟩:=hex
 have hE:=hw.arr i E hi
 obtain⟨g,hg⟩:=hE.some (fC hn hE.pn)
 exact(k g hg).run hb a β ha ⟨w,hw⟩
theorem jd{c:Code}(i:Nat){E:AE}(hi:A[i]?=some E)(hn:0<E.n)(k:∀ g,E.ao=some ⟨g,0,none⟩->CJ cf c Q σ env hp A nh): CJ cf c Q σ env hp A nh:=by
 refine⟨fun hb a β w ha hw=>?_⟩
 have hE:=hw.arr i E hi
 obtain⟨g,hg⟩:=hE.some (fC hn hE.pn)
 exact(k g hg).run hb a β w ha hw
theorem tk{d:Nat}(y:SV)(hd:it.o.dst=some d)(hg:bt it.guard env=some true)(hN:Nat.blt d cf.N=true)(dj:y.lt nh)(ht:(match it.tag with | .pure=>false | _=>true)=true)(ed:Bd env hp nh->∀ a β,nc cf env β a->∀ w,dy cf σ hp A β w->(execOp a.eval it.o).run cf.P w=.ok (.value (y.den β)) w)(k:OJ cf rest Q σ ((d,y)::env) hp A nh): OJ cf (it::rest) Q σ env hp A nh:=by
 refine⟨fun hb a β ha hex=>?_⟩
 have sx:d<cf.N:=by simpa[fD] using hN
 have h':=k.run (hb.put dj d) (a.put (some d) (y.den β)) β (ha.put sx y) hex
 have ed:=ed hb a β ha
 simp only[RunT]
 rw[au (da ha hg),hd]
 cases ec:it.tag with
 | pure=>rw[ec] at ht;cases ht
 | quiet=>exact⟨_,fun w hw=>.inl (ed w hw),h'⟩
 | dP=>exact fun w hw=>wp_of_quiet (.inl (ed w hw)) ⟨_,_,hw,fun _ h=>h,fun _ h=>h,by rw[hd];exact h'⟩
 | sink=>exact fun w hw=>wp_of_quiet (.inl (ed w hw)) ⟨_,_,hw,fun _ h=>h,by rw[hd];exact h'⟩
 | free=>exact fun w hw=>wp_of_quiet (.inl (ed w hw)) ⟨_,_,hw,fun _ h=>h,by rw[hd];exact h'⟩
theorem oF.cell{w:World}{E:AE}(h:oF cf σ w E){g:Nat}(hg:E.ao=.some ⟨g,0,none⟩){j:Nat}{v:Value}(hv:E.xs[j]?=.some v): w.cell? ⟨g,j,none⟩=.some v:=by
 rcases h.2 with h1 | ⟨g',cur,h3,h4,h5,h6,h7,h8,_⟩
 ·rw[h1.1] at hg;cases hg
 ·rw[hg] at h3
  injection h3 with h3
  simp only[Addr.mk.injEq,and_true] at h3
  subst h3
  rw[cell_of_row w g j cur E.e (0,0) h4]
  rw[<-h8,fE] at hv
  split at hv
  ·simpa using hv
  ·cases hv
theorem eH(i:Nat){E:AE}{d t:Nat}{x:Operand}{T:List (Nat×TI)}(hT:cu cf.P T){ti:TI}{g off:Nat}{c:AT}(fL:it.o.op=.load t x)(hd:it.o.dst=some d)(hg:bt it.guard env=some true)(hN:Nat.blt d cf.N=true)(ec:(match it.tag with | .pure=>false | _=>true)=true)(hx:bP env x=some (.a (.v (.pointer (some ⟨g,off,none⟩)))))(hi:A[i]?=some E)(hE:E.ao=some ⟨g,0,none⟩)(ht:eX T t=some ti)(yz:ti.agg=false)(hv:E.xs[off]?=some c.val)(hc:c.lt 0)(k:OJ cf rest Q σ ((d,.a c)::env) hp A nh): OJ cf (it::rest) Q σ env hp A nh:=by
 refine tk (.a c) hd hg hN (AT.eT (ay _) hc) ec (fun _ a β ha w hw=>?_) k
 obtain⟨inf,d',z,hs⟩:=bK (hT _ _ ht)
 have mV:=(hw.arr i E hi).cell hE hv
 have Eo:a.eval x=.pointer (some ⟨g,off,none⟩):=aD ha hx
 have C4:(load ⟨g,off,none⟩).run cf.P w=.ok c.val w:=by rw[run_load,mV]
 simp only[execOp,fL,Instr.loadAt,Eo,Instr.sureAddr,loadVar,Sem.run_bind,Sem.run_pure,Result.andThen_ok,jK hs.qx,hs.agg,yz,dI,if_false,C4]
 simp only[SV.den,AT.qi hc β]
theorem jD(i:Nat){E:AE}{d t:Nat}{x:Operand}{T:List (Nat×TI)}(hT:cu cf.P T){ti:TI}{g off:Nat}(cs:List AT)(fL:it.o.op=.load t x)(hd:it.o.dst=some d)(hg:bt it.guard env=some true)(hN:Nat.blt d cf.N=true)(ec:(match it.tag with | .pure=>false | _=>true)=true)(hx:bP env x=some (.a (.v (.pointer (some ⟨g,off,none⟩)))))(hi:A[i]?=some E)(hE:E.ao=some ⟨g,0,none⟩)(ht:eX T t=some ti)(yz:ti.agg=true)(hlen:cs.length=ti.size)(hv:∀(j:Nat) c,cs[j]?=some c->E.xs[off+j]?=some c.val)(hc:∀ c∈cs,c.lt 0)(k:OJ cf rest Q σ ((d,.agg cs)::env) hp A nh): OJ cf (it::rest) Q σ env hp A nh:=by
 refine tk (.agg cs) hd hg hN (fun c h=>AT.eT (ay _) (hc c h)) ec (fun _ a β ha w hw=>?_) k
 obtain⟨inf,d',z,hs⟩:=bK (hT _ _ ht)
 have Eo:a.eval x=.pointer (some ⟨g,off,none⟩):=aD ha hx
 have ed:=run_loadCells_list (P:=cf.P) (w:=w) ⟨g,off,none⟩ (cs.map (AT.den β)) (fun j v Zx=>by
  rw[aO] at Zx
  obtain⟨c,DY,rfl⟩:=map_some Zx
  rw[Addr.add_lit,AT.qi (hc c (aC DY)) β]
  exact(hw.arr i E hi).cell hE (hv j c DY))
 have hl:(cs.map (AT.den β)).length=inf.size:=by simp[hlen,hs.size]
 rw[hl] at ed
 simp only[execOp,fL,Instr.loadAt,Eo,Instr.sureAddr,loadVar,Sem.run_bind,Sem.run_pure,Result.andThen_ok,jK hs.qx,hs.agg,yz,if_true,gO hs.info,ed]
 rfl
theorem jC(i:Nat){E:AE}{A':List AE}{t:Nat}{x y:Operand}{T:List (Nat×TI)}(hT:cu cf.P T){ti:TI}{g off:Nat}{c:AT}(fL:it.o.op=.store t x y)(hd:it.o.dst=none)(hg:bt it.guard env=some true)(ec:iV it.tag=true)(hx:bP env x=some (.a (.v (.pointer (some ⟨g,off,none⟩)))))(hy:bP env y=some (.a c))(hi:A[i]?=some E)(hE:E.ao=some ⟨g,0,none⟩)(ht:eX T t=some ti)(jZ:ti.size=1)(GH:off<E.n*E.sz)(hc:c.lt 0)(mU:c.one=true)(hA:A.set i ⟨E.ao,E.n,E.cap,E.e,E.sz,E.xs.set off c.val⟩=A')(k:OJ cf rest Q σ env hp A' nh): OJ cf (it::rest) Q σ env hp A nh:=by
 subst hA
 refine⟨fun hb a β ha hex=>?_⟩
 have key:∀ w,dy cf σ hp A β w->∀ Q',it.o.wq cf.P a w (fun a' w'=>∃ E' S':World->Prop,S' w'/\(∀ x,S' x->E' x)/\RunT cf.P Q rest E' S' a') Q':=by
  intro w hw Q'
  obtain⟨inf,d',z,hs⟩:=bK (hT _ _ ht)
  have Eo:a.eval x=.pointer (some ⟨g,off,none⟩):=aD ha hx
  have hy':a.eval y=c.val:=by rw[<-AT.qi hc β];exact aD ha hy
  have x5:=hw.arr i E hi
  rcases x5.2 with h1 | ⟨g',cur,h3,h4,h5,h6,h7,h8,h9,uS⟩
  ·rw[h1.1] at hE;cases hE
  ·rw[hE] at h3
   injection h3 with h3
   simp only[Addr.mk.injEq,and_true] at h3
   subst h3
   have Fx:E.n*E.sz<=E.cap*E.sz:=cn _ h5
   have h1v:c.val.oneCell'=true:=AT.one_den fy mU
   have mV:c.val.cells=#[c.val]:=by
    unfold Value.cells
    split
    ·rename_i q hq;rw[hq] at h1v;cases h1v
    ·rfl
   have pL:=run_storeCells_at cf.P g off E.e [c.val] 0 cur w h4 (by simp only[b8];omega) (fun v hv=>by
    simp only[aU] at hv;subst hv;exact h1v)
   simp only[eM] at pL
   have LN:cur.toList.take off++[c.val]++cur.toList.drop (off+1)=cur.toList.set off c.val:=by
    rw[List.set_eq_take_append_cons_drop,au (by rw[cZ];omega)]
    simp
   have ed:(execOp a.eval it.o).run cf.P w=.ok .skip (w.setRow g (cur.toList.set off c.val).toArray):=by
    have Yf:inf.size=1:=by rw[hs.size,jZ]
    simp only[execOp,fL,Instr.storeAt,Eo,hy',Instr.sureAddr,storeVar,Sem.run_bind,Sem.run_pure,Result.andThen_ok,mV,gO hs.info,Yf,fw,b8,ne_eq,not_true,if_false,Sem.run_ite,pL]
    rw[LN]
   unfold Oper.wq
   rw[ed]
   have gQ:=hw.wG (E':=⟨E.ao,E.n,E.cap,E.e,E.sz,E.xs.set off c.val⟩) (qP:=(cur.toList.set off c.val).toArray) hi hE h4 Z Z Z Z h5 (by simp[x5.1]) (by simp[h7]) (by
    simp only[<-h8,List.take_set])
   refine⟨_,_,gQ,fun _ h=>h,?_⟩
   rw[hd]
   exact k.run hb a β ha ⟨_,gQ⟩
 simp only[RunT]
 rw[au (da ha hg)]
 cases kL:it.tag with
 | pure=>rw[kL] at ec;cases ec
 | quiet=>rw[kL] at ec;cases ec
 | dP=>rw[kL] at ec;cases ec
 | sink=>exact fun w hw=>key w hw _
 | free=>exact fun w hw=>key w hw _
theorem tY{isS:Bool}{len cap l h:Nat}{lo hi:Option Value}(tA:lo=none/\l=0\/∃ k m,lo=some (.int k m)/\m=(l:Int))(yy:hi=none/\h=len\/∃ k m,hi=some (.int k m)/\m=(h:Int))(hl:l<=h)(hh:h<=cap)(Hv:len<=cap)(P:Program)(w:World):
  (Instr.sliceBounds isS len cap lo hi none).run P w=.ok (l,h,cap) w:=by
 rcases tA with⟨rfl,rfl⟩ | ⟨k,m,rfl,rfl⟩<;>rcases yy with⟨rfl,rfl⟩ | ⟨k',m',rfl,rfl⟩ <;>
  simp[Instr.sliceBounds,Instr.sliceBound,asIntOf,hh,hl]
def IT (env:Env):Option Operand->Option (Option Value)
 | none=>some none
 | some o =>
  match bP env o with
  | some (.a (.v (.int k m)))=>some (some (.int k m))
  | _=>none
theorem Bf{β:Nat->Addr}{a:Act}(ha:nc cf env β a){o:Option Operand}{v:Option Value}(h:IT env o=some v): o.map a.eval=v:=by
 cases o with
 | none=>simp only[IT,bf] at h;subst h;rfl
 | some o =>
  simp only[IT] at h
  split at h
  ·rename_i k m hk
   injection h with h
   subst h
   simp only[Option.map_some,aD ha hk]
   rfl
  ·cases h
theorem dL{d:Nat}{x:Operand}{lo hi:Option Operand}{vl vh:Option Value}{t e:TypeId}{T:List (Nat×TI)}(hT:cu cf.P T){ti te:TI}{ao:Option Addr}{n cap:Nat}(l h:Nat)(fL:it.o.op=.slice t x lo hi none)(hd:it.o.dst=some d)(hg:bt it.guard env=some true)(hN:Nat.blt d cf.N=true)(hx:bP env x=some (.a (.v (.slice ao n cap))))(tA:IT env lo=some vl)(yy:IT env hi=some vh)(ht:eX T t=some ti)(xi:ti.kind=.slice e)(qf:eX T e=some te)(AS:vl=none/\l=0\/∃ k m,vl=some (.int k m)/\m=(l:Int))(hh':vh=none/\h=n\/∃ k m,vh=some (.int k m)/\m=(h:Int))(VB:l<=h)(hhc:h<=cap)(Fx:n<=cap)(k:OJ cf rest Q σ ((d,.a (.v (.slice (if cap=l then ao else ao.map (·.add (l*te.size))) (h - l) (cap - l))))::env) hp A nh): OJ cf (it::rest) Q σ env hp A nh:=by
 refine jB _ hd hg hN (by trivial) (fun _ a β ha w=>?_) k
 obtain⟨i2,d2,z2,mR⟩:=bK (hT _ _ ht)
 obtain⟨i3,d3,z3,lh⟩:=bK (hT _ _ qf)
 have h1:=mR.kind
 have Bn:cf.P.underlying t=some (.slice e):=by
  rw[xi] at h1
  have h2:=mR.qx
  cases d2<;>first
   | (simp only[fx,TK.slice.injEq] at h1;subst h1;exact h2)
   | (simp only[fx] at h1;cases h1)
 have h2:a.eval x=.slice ao n cap:=aD ha hx
 simp only[execOp,fL,h2,Bf ha tA,Bf ha yy,Option.map_none,Instr.sliceAt,Instr.slice,Sem.run_bind,run_underlying Bn,Result.andThen_ok,tY AS hh' VB hhc Fx,gO lh.info,lh.size,Sem.run_pure]
 rfl
theorem eN{d:Nat}{x hi:Operand}{t e:TypeId}{T:List (Nat×TI)}(hT:cu cf.P T){ti te:TI}{ao:Option Addr}{n cap:Nat}{kk:IntKind}{m:Int}(h:Nat)(fL:it.o.op=.slice t x none (some hi) none)(hd:it.o.dst=some d)(hg:bt it.guard env=some true)(hN:Nat.blt d cf.N=true)(hx:bP env x=some (.a (.v (.slice ao n cap))))(yy:bP env hi=some (.a (.v (.int kk m))))(ht:eX T t=some ti)(xi:ti.kind=.slice e)(qf:eX T e=some te)(hm:m=(h:Int))(hhc:h<=cap)(Fx:n<=cap)(k:OJ cf rest Q σ ((d,.a (.v (.slice ao h cap)))::env) hp A nh): OJ cf (it::rest) Q σ env hp A nh:=by
 refine dL (vl:=none) (vh:=some (.int kk m)) hT 0 h fL hd hg hN hx rfl (by simp[IT,yy]) ht xi qf (.inl ⟨rfl,rfl⟩) (.inr ⟨kk,m,rfl,hm⟩) (ay _) hhc Fx ?_
 have e1:(if cap=0 then ao else ao.map (·.add (0*te.size)))=ao:=by
  split
  ·rfl
  ·cases ao<;>simp[Addr.add_zero']
 rw[e1]
 exact k
theorem p7{d:Nat}{x:Operand}{lo hi:Option Operand}{vl vh:Option Value}{t:TypeId}{T:List (Nat×TI)}(hT:cu cf.P T){ti:TI}{s:ByteArray}(l h:Nat)(fL:it.o.op=.slice t x lo hi none)(hd:it.o.dst=some d)(hg:bt it.guard env=some true)(hN:Nat.blt d cf.N=true)(hx:bP env x=some (.a (.v (.string s))))(tA:IT env lo=some vl)(yy:IT env hi=some vh)(ht:eX T t=some ti)(xi:ti.kind=.str)(AS:vl=none/\l=0\/∃ k m,vl=some (.int k m)/\m=(l:Int))(hh':vh=none/\h=s.size\/∃ k m,vh=some (.int k m)/\m=(h:Int))(VB:l<=h)(hhc:h<=s.size)(k:OJ cf rest Q σ ((d,.a (.v (.string (s.extract l h))))::env) hp A nh): OJ cf (it::rest) Q σ env hp A nh:=by
 refine jB _ hd hg hN (by trivial) (fun _ a β ha w=>?_) k
 obtain⟨i2,d2,z2,mR⟩:=bK (hT _ _ ht)
 have h1:=mR.kind
 have Bn:cf.P.underlying t=some .string:=by
  rw[xi] at h1
  have h2:=mR.qx
  cases d2<;>first
   | exact h2
   | (simp only[fx] at h1;cases h1)
 have h2:a.eval x=.string s:=aD ha hx
 simp only[execOp,fL,h2,Bf ha tA,Bf ha yy,Option.map_none,Instr.sliceAt,Instr.slice,Sem.run_bind,run_underlying Bn,Result.andThen_ok,Option.isSome_none,dI,if_false,tY AS hh' VB hhc (aq _),Sem.run_pure]
 rfl
end
theorem pA{α:Type}{sz:Nat}: ∀ {rows:List (List α)},(∀ r∈rows,r.length=sz)->rows.flatten.length=rows.length*sz
 | [],_=>by simp
 | r::l,h=>by
  rw[dx,af,h r (a8 ..),pA fun q hq=>h q (ba _ hq),List.length_cons,eC]
  omega
theorem sy{α:Type}{sz:Nat}: ∀ {rows:List (List α)} (_:∀ r∈rows,r.length=sz) {m j:Nat} {r:List α} {c:α},rows[m]?=some r->r[j]?=some c->rows.flatten[m*sz+j]?=some c
 | [],_,_,_,_,_,h,_=>by simp at h
 | q::l,h,m,j,r,c,hm,hj=>by
  have hq:=h q (a8 ..)
  rw[dx]
  cases m with
  | zero =>
   simp at hm
   subst hm
   have:=(ah.1 hj).1
   rw[Nat.zero_mul,cG,aV this];exact hj
  | succ m =>
   rw[aW (by rw[hq,eC];omega)]
   have e:(m+1)*sz+j - q.length=m*sz+j:=by rw[hq,eC];omega
   rw[e]
   exact sy (fun r hr=>h r (ba _ hr)) (by simpa using hm) hj
theorem Dh{α:Type}{sz:Nat}: ∀ {rows:List (List α)} (_:∀ r∈rows,r.length=sz) {m j:Nat} {r:List α} (c:α),rows[m]?=some r->j<sz->rows.flatten.set (m*sz+j) c=(rows.set m (r.set j c)).flatten
 | [],_,_,_,_,_,h,_=>by simp at h
 | q::l,h,m,j,r,c,hm,hj=>by
  have hq:=h q (a8 ..)
  rw[dx]
  cases m with
  | zero =>
   simp at hm
   subst hm
   rw[Nat.zero_mul,cG,List.set_append_left _ _ Zo]
   simp
  | succ m =>
   rw[dY _ _ (by rw[hq,eC];omega)]
   have e:(m+1)*sz+j - q.length=m*sz+j:=by rw[hq,eC];omega
   rw[e,Dh (fun r hr=>h r (ba _ hr)) c (by simpa using hm) hj]
   simp
theorem FA{α:Type}{sz:Nat}: ∀ {rows:List (List α)} (_:∀ r∈rows,r.length=sz) (k:Nat),rows.flatten.take (k*sz)=(rows.take k).flatten
 | [],_,k=>by simp
 | q::l,h,0=>by simp
 | q::l,h,k+1=>by
  have hq:=h q (a8 ..)
  rw[dx,cX,dx,<-FA (fun r hr=>h r (ba _ hr)) k,List.take_append,hq,bY (by rw[hq,eC];omega)]
  congr 2
  rw[eC]
  omega
theorem b9.sl{σ:al}{E:AE}{rows:List (List AT)}{n sz:Nat}(h:b9 σ E)(hx:E.xs=rows.flatten.map AT.val)(hr:∀ r∈rows,r.length=sz/\∀ c∈r,c.lt 0)(hl:rows.length=n)(hn:E.n=n)(mC:n<=E.cap): bu σ E.ao n E.cap sz rows:=by
 refine⟨hl,mC,hr,?_⟩
 rcases h with⟨_,h2⟩ | ⟨g,h1,h2⟩
 ·exact .inl Zo
 ·refine .inr ⟨⟨g,0,none⟩,h1,fun i r j c hi hj=>?_⟩
  rw[jM]
  refine h2 _ _ ?_
  rw[hx,aO,sy (fun r uo=>(hr r uo).1) hi hj]
  rfl
end Go.Sy
namespace Go.Sy
def jj:List SV->Prop
 | []=>True
 | y::l=>y.lt 0/\jj l
theorem jj.of: ∀ {l:List SV},jj l->∀ y∈l,y.lt 0
 | [],_,_,h=>by cases h
 | y::l,h,z,hz=>by
  cases hz with
  | head=>exact h.1
  | tail _ hz=>exact jj.of h.2 z hz
def fa (P:Program) (f:FuncId) (lM:List SV) (σ:al) (Φ:Value->al->Prop):Prop:=qW P f (lM.map (SV.den fy)).toArray σ Φ
def bZ (P:Program) (f:FuncId) (lM:List SV) (σ:al) (Φ:Value->Prop):Prop:=qW P f (lM.map (SV.den fy)).toArray σ (fun v _=>Φ v)
def pV (P:Program) (f:FuncId) (lM:List SV) (σ:al) (A:List AE) (Φ:Value->al->List AE->Prop):Prop:=Un P f (lM.map (SV.den fy)).toArray σ A Φ
theorem ek{P:Program}{f:FuncId}{fn:Func}{c:Code}{lM:List SV}{σ:al}{Φ:Value->al->Prop}(hf:P.funcs[f]?=some fn)(hb:fn.body=some c)(hN:Nat.ble lM.length fn.ntmps=true)(dj:jj lM)(h:∀ w,CJ ⟨P,w,σ,fun _=>False,fn.ntmps,[],none⟩ c (bodyPost P fn (rf w (fun _=>False) σ (fun v _ bD=>Φ v bD))) σ (oZ 0 lM) [] [] 0): fa P f lM σ Φ :=
 Dp hf hb lM rfl (bh hN) dj.of h
theorem bW{P:Program}{f:FuncId}{fn:Func}{c:Code}{lM:List SV}{σ:al}{Φ:Value->Prop}(hf:P.funcs[f]?=some fn)(hb:fn.body=some c)(hN:Nat.ble lM.length fn.ntmps=true)(dj:jj lM)(h:∀ w,CJ ⟨P,w,σ,fun _=>False,fn.ntmps,[],none⟩ c (bodyPost P fn (rf w (fun _=>False) σ (fun v _ _=>Φ v))) σ (oZ 0 lM) [] [] 0): bZ P f lM σ Φ :=
 Dp hf hb lM rfl (bh hN) dj.of h
theorem fk{P:Program}{f:FuncId}{fn:Func}{c:Code}{lM:List SV}{σ:al}{A:List AE}{Φ:Value->al->List AE->Prop}(hf:P.funcs[f]?=some fn)(hb:fn.body=some c)(hN:Nat.ble lM.length fn.ntmps=true)(dj:jj lM)(h:∀ w,CJ ⟨P,w,σ,lL A,fn.ntmps,[],none⟩ c (bodyPost P fn (rf w (lL A) σ (IL P w σ A Φ))) σ (oZ 0 lM) [] A 0): pV P f lM σ A Φ :=
 Te hf hb lM rfl (bh hN) dj.of h
section
variable {cf:Cf} {Q:Exit->Act->World->Prop} {σ:al} {env:Env} {hp:HP} {A:List AE} {nh:Nat} {it:Item} {rest:List Item}
theorem bN{d:Nat}{f:FuncId}{ys:List SV}{Φ:Value->al->Prop}(hc:callee env it.o.op=some (f,ys))(hd:it.o.dst=some d)(hg:bt it.guard env=some true)(hN:Nat.blt d cf.N=true)(hq:qD it.tag=true)(gm:∀ args w,(callFunc f args).run cf.P w=.ok (.enter f args) w)(dj:jj ys)(hC:fa cf.P f ys σ Φ)(k:∀ v bD,σ.le bD->Φ v bD->∃ y:SV,y.lt 0/\y.den fy=v/\OJ cf rest Q bD ((d,y)::env) hp A nh): OJ cf (it::rest) Q σ env hp A nh :=
 MW hc hd hg hN hq gm dj.of hC k
theorem aT{d:Nat}{f:FuncId}{ys:List SV}{Φ:Value->Prop}(hc:callee env it.o.op=some (f,ys))(hd:it.o.dst=some d)(hg:bt it.guard env=some true)(hN:Nat.blt d cf.N=true)(hq:qD it.tag=true)(gm:∀ args w,(callFunc f args).run cf.P w=.ok (.enter f args) w)(dj:jj ys)(hC:bZ cf.P f ys σ Φ)(k:∀ v,Φ v->∃ y:SV,y.lt 0/\y.den fy=v/\OJ cf rest Q σ ((d,y)::env) hp A nh): OJ cf (it::rest) Q σ env hp A nh :=
 Ed hc hd hg hN hq gm dj.of hC k
theorem dT{d:Nat}{f:FuncId}{ys:List SV}{Φ:Value->al->List AE->Prop}(is:List Nat){A0 Ar:List AE}(hA:zV is A=A0++Ar)(hn:nodupB is=true)(hc:callee env it.o.op=some (f,ys))(hd:it.o.dst=some d)(hg:bt it.guard env=some true)(hN:Nat.blt d cf.N=true)(ec:iV it.tag=true)(gm:∀ args w,(callFunc f args).run cf.P w=.ok (.enter f args) w)(dj:jj ys)(hC:pV cf.P f ys σ A0 Φ)(k:∀ v bD A',σ.le bD->Φ v bD A'->∃ y:SV,y.lt 0/\y.den fy=v/\OJ cf rest Q bD ((d,y)::env) hp (A'++Ar) nh): OJ cf (it::rest) Q σ env hp A nh :=
 Lk is hA hn hc hd hg hN ec gm dj.of hC k
theorem gC{α γ:Type}{c:Code}(AI:α->γ->al)(sE:α->γ->Env)(sH:α->γ->HP)(sA:α->γ->List AE)(sn:Nat)(I:α->γ->Prop)(μ:α->γ->Nat)(x0:α)(y0:γ)(h0:I x0 y0)(qY:AI x0 y0=σ)(he:DL (sE x0 y0) env)(hh:DK (sH x0 y0) hp)(hA:sA x0 y0=A)(hl:wz sn (sE x0 y0))(AS:TZ sn (sH x0 y0))(C0:∀ x y,I x y->CJ cf c (Exit.then (DS cf (fun s:α×γ=>I s.1 s.2) (fun s=>μ s.1 s.2) (fun s=>AI s.1 s.2) (fun s=>sE s.1 s.2) (fun s=>sH s.1 s.2) (fun s=>sA s.1 s.2) sn (μ x y)) Q) (AI x y) (sE x y) (sH x y) (sA x y) sn): CJ cf (.loop c) Q σ env hp A nh :=
 bX (fun s:α×γ=>AI s.1 s.2) (fun s=>sE s.1 s.2) (fun s=>sH s.1 s.2) (fun s=>sA s.1 s.2) sn (fun s=>I s.1 s.2) (fun s=>μ s.1 s.2) (x0,y0) h0 qY he hh hA hl AS fun s hI=>C0 s.1 s.2 hI
theorem fm{α:Type}{id:Nat}{c y:Code}{Q':Exit->Act->World->Prop}(AI:α->al)(sE:α->Env)(sH:α->HP)(sA:α->List AE)(sn:Nat)(I:α->Prop)(hx:CJ cf c (Exit.inBlock id (Exit.then (DS cf I (fun _=>0) AI sE sH sA sn 1) Q)) σ env hp A nh)(hy:∀ i,I i->CJ cf y Q' (AI i) (sE i) (sH i) (sA i) sn): CJ cf c (Exit.inBlock id (Exit.then (P3 cf.rd cf.P y Q') Q)) σ env hp A nh:=by
 have key:∀ e a w,Exit.then (DS cf I (fun _=>0) AI sE sH sA sn 1) Q e a w->Exit.then (P3 cf.rd cf.P y Q') Q e a w:=by
  intro e a w q
  cases e with
  | normal =>
   obtain⟨i,hI,_,hb,β,ha,hw⟩:=q
   exact(hy i hI).run hb a β w ha hw
  | _=>exact q
 refine⟨fun hb a β w ha hw=>Code.wpIn_mono (fun e a w q=>?_) (hx.run hb a β w ha hw)⟩
 cases e with
 | exit i =>
  simp only[Exit.inBlock] at q ⊢
  split
  ·rename_i h;rw[au h] at q;exact key _ _ _ q
  ·rename_i h;rw[ai h] at q;exact key _ _ _ q
 | _=>simp only[Exit.inBlock] at q ⊢;exact key _ _ _ q
theorem ji{α:Type}{c y:Code}{Q':Exit->Act->World->Prop}(AI:α->al)(sE:α->Env)(sH:α->HP)(sA:α->List AE)(sn:Nat)(I:α->Prop)(hx:CJ cf c (Exit.then (DS cf I (fun _=>0) AI sE sH sA sn 1) Q) σ env hp A nh)(hy:∀ i,I i->CJ cf y Q' (AI i) (sE i) (sH i) (sA i) sn): CJ cf c (Exit.then (P3 cf.rd cf.P y Q') Q) σ env hp A nh:=by
 refine⟨fun hb a β w ha hw=>Code.wpIn_mono (fun e a w q=>?_) (hx.run hb a β w ha hw)⟩
 cases e with
 | normal =>
  obtain⟨i,hI,_,hb,β,ha,hw⟩:=q
  exact(hy i hI).run hb a β w ha hw
 | _=>exact q
theorem pH{d:Nat}{x y:Operand}{xt yt:TypeId}{m n:Int}(fL:it.o.op=.binOp .rem xt x y yt)(hd:it.o.dst=some d)(hg:bt it.guard env=some true)(hN:Nat.blt d cf.N=true)(hx:bP env x=some (.a (.v (.int .i64 m))))(hy:bP env y=some (.a (.v (.int .i64 n))))(hb:n≠0)(hk:OJ cf rest Q σ ((d,.a (.v (.int .i64 (m.tmod n))))::env) hp A nh): OJ cf (it::rest) Q σ env hp A nh :=
 kI _ fL hd hg hN hx hy (UK hb rfl) hk
end
end Go.Sy
