/- Parts of the proof of CStreamsValues: SyD, SyE, SyF, SyG, SyH. No conditions. -/
import Derived.Test.YtlonlnagmfdlbaaGreatDoorM1
/- The reckoning of a whole list of operations, and that what it leaves suffices. No program in sight. -/
namespace Go.Sy
section
variable {cf:Cf} {T:List (Nat×TI)} {env:Env} {hp:HP} {nh:Nat} {β:Nat->Addr} {a:Act} {o:Oper}
variable (hT:TTok cf.P T) (ha:StA cf env β a) (hb:Bd env hp nh)
theorem run_places {P:Program} (w:World):∀ (fs:List Field),(∀ f∈fs,∃ d,P.underlying f.type=some d) ->
    (fs.mapM fun f=>do pure (f.offset,<-sizeOf f.type):Sem (List (Nat×Nat))).run P w=.ok (fs.map fun f=>(f.offset,P.cellsOf f.type)) w
  | [],_=>rfl
  | f::fs,h=>by
    obtain ⟨d,hd⟩:=h f (List.mem_cons_self ..)
    simp only [List.mapM_cons,Sem.run_bind,run_sizeB rfl hd,Result.andThen_ok,Sem.run_pure,run_places w fs (fun g hg=>h g (List.mem_cons_of_mem _ hg)),List.map_cons]
include hT ha hb in
theorem ok_build {t:TypeId} {parts:Array (Nat×Operand)} (ho:o.op=.build t parts) {eff:Eff} (h:stepOp T (.build t parts) env hp nh=some eff):EffOk cf o a hp nh β eff:=by
  simp only [stepOp] at h
  split at h
  · rename_i ti hti
    obtain ⟨inf,d,z,hs⟩:=tiOf_spec (hT _ _ hti)
    split at h
    · rename_i hk
      obtain ⟨hall,h⟩:=cond_some h
      obtain ⟨l,hl,rfl⟩:=map_some h
      obtain ⟨fs,hu,hfs⟩:=struct_of hs hk
      obtain ⟨h1,h2⟩:=fillA_ok ha hb ti.fields parts.toList ti.zero l (zero_lt hs nh) hl
      refine ⟨h2,fun w _=>?_⟩
      have hund:∀ f∈fs.toList,∃ d,cf.P.underlying f.type=some d:=by
        intro f hf
        have:=List.all_eq_true.1 hall (f.offset,cf.P.cellsOf f.type,(cf.P.underlying f.type).map aggD) (by rw [hfs];exact List.mem_map.2 ⟨f,hf,rfl⟩)
        cases hd:cf.P.underlying f.type with
        | none=>simp [hd] at this
        | some d=>exact ⟨d,rfl⟩
      have hpl:=run_places w fs.toList hund
      have hz:=zero_den hs β
      simp only [execOp,ho,Instr.build,Sem.run_bind,run_zero hs.info hs.zero,Result.andThen_ok,run_underlying hu,Array.mapM_eq_mapM_toList,Sem.run_map,hpl]
      have hparts:(parts.map fun (x:Nat×Operand)=>(x.1,a.eval x.2)).toList=parts.toList.map fun p=>(p.1,a.eval p.2):=by simp
      have hplace:(fun (i:Nat)=>((fs.toList.map fun f=>(f.offset,cf.P.cellsOf f.type)).toArray)[i]?)=fun (i:Nat)=>(ti.fields[i]?).map fun (f:Nat×Nat×Option Bool)=>(f.1,f.2.1):=by
        funext i
        rw [hfs]
        simp only [List.getElem?_toArray,List.getElem?_map,Option.map_map]
        rfl
      rw [hz,<-hplace] at h1
      have hparts':(Array.map (fun x=>match x with | (i,x)=>(i,a.eval x)) parts).toList=parts.toList.map fun p=>(p.1,a.eval p.2):=hparts
      rw [hparts']
      simp only [h1]
      rfl
    · cases h
  · cases h
include ha hb in
theorem fillS_ok (size:Nat):∀ (parts:List (Nat×Operand)) (k:Nat) (l:List AT),fillS env size k parts=some l ->
    l.length=parts.length*size/\(∀ c∈l,c.lt nh)/\∀ cs:Array Value,cs.size=(k+parts.length)*size ->
      Instr.fill (fun i=>some (i*size,size)) cs (parts.map fun p=>(p.1,a.eval p.2))=some (cs.toList.take (k*size)++l.map (AT.den β)).toArray
  | [],k,l,h=>by
    simp only [fillS,Option.some.injEq] at h
    subst h
    refine ⟨by simp,by simp,fun cs hcs=>?_⟩
    simp only [List.length_nil,Nat.add_zero] at hcs
    have:cs.toList.take (k*size)=cs.toList:=List.take_of_length_le (by simp [hcs])
    simp [Instr.fill,this]
  | (i,x)::rest,k,l,h=>by
    simp only [fillS] at h
    split at h
    · rename_i ns hx
      obtain ⟨y,hy,hyc⟩:=bind_some hx
      obtain ⟨hc,h⟩:=cond_some h
      simp only [Bool.and_eq_true] at hc
      have hi:=Nat.eq_of_beq_eq_true hc.1
      have hlen:=Nat.eq_of_beq_eq_true hc.2
      subst hi
      obtain ⟨m,hm,rfl⟩:=map_some h
      obtain ⟨h1,h2,h3⟩:=fillS_ok size rest (i+1) m hm
      have hcd:=cells_den (β:=β) hyc
      refine ⟨by simp [hlen,h1,Nat.add_mul];omega,?_,fun cs hcs=>?_⟩
      · intro c hcc
        rcases List.mem_append.1 hcc with hcc | hcc
        · exact cells_lt hyc (evalO_lt hb hy) c hcc
        · exact h2 c hcc
      · have e1:(i+(rest.length+1))*size=i*size+size+rest.length*size:=by simp [Nat.add_mul];omega
        simp only [List.length_cons] at hcs
        rw [e1] at hcs
        simp only [List.map_cons,evalO_eval ha hy]
        rw [fill_lay (off:=i*size) (size:=size) rfl (by rw [hcd];simp [hlen]) (by omega)]
        rw [h3 _ (by simp [hcd,hlen,Nat.add_mul];omega)]
        congr 2
        simp only [Nat.add_mul,Nat.one_mul,hcd,List.map_append]
        have e2:(cs.toList.take (i*size)++ns.map (AT.den β)).length=i*size+size:=by simp [hlen];omega
        rw [<-List.append_assoc,List.take_append_of_le_length (by rw [e2];exact Nat.le_refl _),List.take_of_length_le (by rw [e2];exact Nat.le_refl _)]
    · cases h
include hT ha hb in
theorem ok_buildSlice {t:TypeId} {n:Nat} {parts:Array (Nat×Operand)} (ho:o.op=.buildSlice t n parts) {eff:Eff} (h:stepOp T (.buildSlice t n parts) env hp nh=some eff):EffOk cf o a hp nh β eff:=by
  simp only [stepOp] at h
  split at h
  · rename_i ti hti
    obtain ⟨inf,d,z,hs⟩:=tiOf_spec (hT _ _ hti)
    split at h
    · rename_i e hk
      split at h
      · rename_i te hte
        obtain ⟨ie,de,ze,hse⟩:=tiOf_spec (hT _ _ hte)
        obtain ⟨hc,h⟩:=cond_some h
        simp only [Bool.and_eq_true] at hc
        have hlen:=Nat.eq_of_beq_eq_true hc.1
        have hle:=Nat.le_of_ble_eq_true hc.2
        obtain ⟨l,hl,rfl⟩:=map_some h
        obtain ⟨h1,h2,h3⟩:=fillS_ok ha hb te.size parts.toList 0 l hl
        have hu:cf.P.underlying t=some (.slice e):=by
          have h1:=hs.kind
          rw [hk] at h1
          have h2:=hs.und
          cases d<;>first
            | (simp only [kindD,TK.slice.injEq] at h1;subst h1;exact h2)
            | (simp only [kindD] at h1;cases h1)
        refine ⟨h2,.inr ⟨n,rfl⟩,fun w=>?_⟩
        have hparts:(parts.map fun (x:Nat×Operand)=>(x.1,a.eval x.2)).toList=parts.toList.map fun p=>(p.1,a.eval p.2):=by simp
        have hparts':(Array.map (fun x=>match x with | (i,x)=>(i,a.eval x)) parts).toList=parts.toList.map fun p=>(p.1,a.eval p.2):=hparts
        have hall:∀ zc:Array Value,Instr.fill (fun i=>some (i*te.size,te.size)) ((Array.range (n*te.size)).map fun j=>zc[j % zc.size]!) (parts.toList.map fun p=>(p.1,a.eval p.2))=some (l.map (AT.den β)).toArray:=by
          intro zc
          have hf:=h3 ((Array.range (n*te.size)).map fun j=>zc[j % zc.size]!) (by simp [hlen])
          simpa only [Nat.zero_mul,List.take_zero,List.nil_append] using hf
        simp only [execOp,ho,Instr.buildSlice,Sem.run_bind,run_underlying hu,Result.andThen_ok,run_size hse.info,hse.size]
        rw [if_neg (by omega)]
        by_cases h0:n*te.size=0
        · have:=hall #[]
          simp only [if_pos h0,Sem.run_bind,Sem.run_pure,Result.andThen_ok,hparts',this]
          simp only [newRow,Sem.run_bind,run_newObj,Sem.run_pure,Result.andThen_ok,AT.den,upd_new]
          rfl
        · have:=hall ze.cells
          simp only [if_neg h0,Sem.run_bind,run_zero hse.info hse.zero,Sem.run_pure,Result.andThen_ok,hparts',this]
          simp only [newRow,Sem.run_bind,run_newObj,Sem.run_pure,Result.andThen_ok,AT.den,upd_new]
          rfl
      · cases h
    · cases h
  · cases h
include hT ha hb in
theorem step_ok {eff:Eff} (h:stepOp T o.op env hp nh=some eff):EffOk cf o a hp nh β eff:=by
  generalize ho:o.op=op at h
  cases op with
  | move x=>exact ok_move ha hb ho (by simpa only [stepOp] using h)
  | assign x=>exact ok_assign ha hb ho (by simpa only [stepOp] using h)
  | pick c x y=>exact ok_pick ha hb ho h
  | alloc t=>exact ok_alloc hT ho h
  | box t x=>exact ok_box ha hb ho h
  | build t ps=>exact ok_build hT ha hb ho h
  | buildSlice t n ps=>exact ok_buildSlice hT ha hb ho h
  | load t x=>exact ok_load hT ha hb ho h
  | store t x y=>exact ok_store hT ha hb ho h
  | nilCheck x=>exact ok_nilCheck ha hb ho h
  | binOp op t x y u=>exact ok_binOp hT ha ho h
  | unOp op t x =>
    cases op with
    | not=>exact ok_not ha ho h
    | _=>simp only [stepOp] at h;cases h
  | convert s d x=>exact ok_convert hT ha ho h
  | makeInterface t x=>exact ok_makeInterface hT ha ho h
  | makeFunc f x y=>exact ok_makeFunc ha hb ho h
  | fieldAddr t x f=>exact ok_fieldAddr hT ha hb ho h
  | field t x f=>exact ok_field hT ha hb ho h
  | extract x f=>exact ok_extract ha hb ho h
  | call c=>exact ok_len hT ha ho h
  | _=>simp only [stepOp] at h;cases h
end
def undefSV:SV:=.tup []
def guardVal (g:Option (Option Nat×Bool)) (env:Env):Option Bool :=
  match g with
  | none=>some true
  | some (none,_)=>some false
  | some (some t,b) =>
    match env.get t with
    | some (.a .tt)=>some b
    | some (.a .ff)=>some (!b)
    | some (.tup _)=>some false
    | _=>none
def forceL {R:Type}:List AT->(List AT->R)->R
  | [],k=>k []
  | x::xs,k=>forceL xs fun ys=>k (x::ys)
theorem forceL_eq {R:Type}:∀ (l:List AT) (k:List AT->R),forceL l k=k l
  | [],_=>rfl
  | x::xs,k=>by simp only [forceL,forceL_eq xs]
def forceEff {R:Type} (e:Eff) (k:Eff->R):R :=
  match e with
  | .val (.agg cs)=>forceL cs fun cs=>k (.val (.agg cs))
  | .val (.a x)=>k (.val (.a x))
  | .val (.tup vs)=>k (.val (.tup vs))
  | .new e cs x=>forceL cs fun cs=>k (.new e cs x)
  | .put h e cs=>forceL cs fun cs=>k (.put h e cs)
theorem forceEff_eq {R:Type} (e:Eff) (k:Eff->R):forceEff e k=k e:=by
  cases e with
  | val x=>cases x<;>simp only [forceEff,forceL_eq]
  | new e cs x=>simp only [forceEff,forceL_eq]
  | put h e cs=>simp only [forceEff,forceL_eq]
inductive Out where
  | mk (l:List Item) (env:Env) (hp:HP) (nh:Nat)
  | no
def bindE (d:Option Tmp) (N:Nat) (x:SV) (env:Env) (k:Env->Out) (stop:Out):Out :=
  match d with
  | none=>k env
  | some d=>bif Nat.blt d N then k ((d,x)::env) else stop
def canRead:Tag->Op->Bool
  | .pure,op=>!isLoad op
  | _,_=>true
def canNew:Tag->Bool
  | .quiet | .pure=>false
  | _=>true
def canPut:Tag->Bool
  | .free | .sink=>true
  | _=>false
def exec (T:List (Nat×TI)) (N:Nat):List Item->Env->HP->Nat->Out
  | [],env,hp,nh=>.mk [] env hp nh
  | it::rest,env,hp,nh =>
    match guardVal it.guard env with
    | none=>.mk (it::rest) env hp nh
    | some false=>bindE it.o.dst N undefSV env (fun env'=>exec T N rest env' hp nh) (.mk (it::rest) env hp nh)
    | some true =>
      match stepOp T it.o.op env hp nh with
      | none=>.mk (it::rest) env hp nh
      | some eff=>forceEff eff fun
        | .val x=>bif canRead it.tag it.o.op then bindE it.o.dst N x env (fun env'=>exec T N rest env' hp nh) (.mk (it::rest) env hp nh) else .mk (it::rest) env hp nh
        | .new e cs x=>bif canNew it.tag then bindE it.o.dst N (.a x) env (fun env'=>exec T N rest env' ((nh,.loc e,cs)::hp) (nh+1)) (.mk (it::rest) env hp nh) else .mk (it::rest) env hp nh
        | .put i e cs=>bif canPut it.tag then bindE it.o.dst N undefSV env (fun env'=>exec T N rest env' ((i,.loc e,cs)::hp) nh) (.mk (it::rest) env hp nh) else .mk (it::rest) env hp nh
structure OJ (cf:Cf) (l:List Item) (Q:Exit->Act->World->Prop) (σ:Snap) (env:Env) (hp:HP) (A:List AE) (nh:Nat):Prop where
  run:Bd env hp nh->∀ a β,StA cf env β a->(∃ w,StW cf σ hp A β w)->RunT cf.P Q l (fun w=>StW cf σ hp A β w) (fun w=>StW cf σ hp A β w) a
theorem guardVal_ok {cf:Cf} {env:Env} {β:Nat->Addr} {a:Act} (ha:StA cf env β a) {g:Option (Option Nat×Bool)} {b:Bool} (h:guardVal g env=some b):wantedS g a=b:=by
  unfold guardVal at h
  unfold wantedS
  split at h
  · injection h
  · injection h
  · rename_i t b'
    split at h
    · rename_i ht
      have:=ha.env _ _ ht
      simp only [this,SV.den,AT.den]
      injection h with h
      subst h
      cases b'<;>rfl
    · rename_i ht
      have:=ha.env _ _ ht
      simp only [this,SV.den,AT.den]
      injection h with h
      subst h
      cases b'<;>rfl
    · rename_i ht
      have:=ha.env _ _ ht
      simp only [this,SV.den]
      injection h
    · cases h
theorem StA.put {cf:Cf} {env:Env} {β:Nat->Addr} {a:Act} (ha:StA cf env β a) {d:Nat} (hd:d<cf.N) (x:SV):StA cf ((d,x)::env) β (a.put (some d) (x.den β)):=by
  refine ⟨by simp [Act.put,ha.size],ha.defers,fun i y hy=>?_⟩
  rw [Env.get_cons] at hy
  by_cases hi:d=i
  · subst hi
    rw [if_pos rfl] at hy
    injection hy with hy
    subst hy
    simp [Act.put,ha.size,hd]
  · rw [if_neg hi] at hy
    simp only [Act.put,Array.getElem?_setIfInBounds_ne hi]
    exact ha.env i y hy
theorem StA.congr {cf:Cf} {env:Env} {β β':Nat->Addr} {a:Act} {hp:HP} {nh:Nat} (ha:StA cf env β a) (hb:Bd env hp nh) (h:∀ i,i<nh->β' i=β i):StA cf env β' a :=
  ⟨ha.size,ha.defers,fun i x hx=>by rw [SV.den_congr h (hb.env i x hx)];exact ha.env i x hx⟩
theorem Bd.put {env:Env} {hp:HP} {nh:Nat} (hb:Bd env hp nh) {x:SV} (hx:x.lt nh) (d:Nat):Bd ((d,x)::env) hp nh:=by
  refine ⟨fun i y hy=>?_,hb.hp⟩
  rw [Env.get_cons] at hy
  by_cases hi:d=i
  · rw [if_pos hi] at hy;injection hy with hy;subst hy;exact hx
  · rw [if_neg hi] at hy;exact hb.env i y hy
theorem Bd.mono {env:Env} {hp:HP} {n m:Nat} (hb:Bd env hp n) (h:n<=m):Bd env hp m :=
  ⟨fun i x hx=>SV.lt_mono h (hb.env i x hx),fun i k cs hi=>⟨Nat.lt_of_lt_of_le (hb.hp i k cs hi).1 h,fun c hc=>AT.lt_mono h ((hb.hp i k cs hi).2 c hc)⟩⟩
theorem Bd.row {env:Env} {hp:HP} {nh:Nat} (hb:Bd env hp nh) {i:Nat} {k:HK} {cs:List AT} (hi:i<nh) (hcs:∀ c∈cs,c.lt nh):Bd env ((i,k,cs)::hp) nh:=by
  refine ⟨hb.env,fun j k' cs' hj=>?_⟩
  rw [HP.get_cons] at hj
  by_cases hij:i=j
  · rw [if_pos hij] at hj
    injection hj with hj
    simp only [Prod.mk.injEq] at hj
    obtain ⟨_,rfl⟩:=hj
    exact ⟨hij▸hi,hcs⟩
  · rw [if_neg hij] at hj;exact hb.hp j k' cs' hj
theorem ArrOk.keep {cf:Cf} {σ:Snap} {w w':World} {E:AE} (h:ArrOk cf σ w E) (hk:∀ g,E.blk=some g->w'.heap[g]?=w.heap[g]?):ArrOk cf σ w' E:=by
  refine ⟨h.1,?_⟩
  rcases h.2 with h2 | ⟨g,cur,h3,h4,h5⟩
  · exact .inl h2
  · exact .inr ⟨g,cur,h3,by rw [hk g (by simp [AE.blk,h3])];exact h4,h5⟩
theorem ArrOk.lt {cf:Cf} {σ:Snap} {w:World} {E:AE} (h:ArrOk cf σ w E) {g:Nat} (hg:E.blk=some g):g<w.heap.size/\σ g=none/\Own cf g:=by
  rcases h.2 with h2 | ⟨g',cur,h3,h4,_,_,_,_,h8,h9⟩
  · simp [AE.blk,h2.1] at hg
  · simp only [AE.blk,h3,Option.map_some,Option.some.injEq] at hg
    subst hg
    exact ⟨(Array.getElem?_eq_some_iff.1 h4).1,h8,h9⟩
theorem StW.alloc {cf:Cf} {σ:Snap} {hp:HP} {A:List AE} {β:Nat->Addr} {w:World} (h:StW cf σ hp A β w) {env:Env} {nh:Nat} (hb:Bd env hp nh) {e:TypeId} {cs:List AT}
    (hcs:∀ c∈cs,c.lt nh):StW cf σ ((nh,.loc e,cs)::hp) A (upd β nh w) (w.alloc (.cells (cs.map (AT.den β)).toArray e)):=by
  have hold:∀ b,b<w.heap.size->(w.alloc (.cells (cs.map (AT.den β)).toArray e)).heap[b]?=w.heap[b]?:=fun b hb=>by show (w.heap.push _)[b]?=_;rw [Array.getElem?_push,if_neg (Nat.ne_of_lt hb)]
  have hσ:σ w.heap.size=none:=by
    cases hs:σ w.heap.size with
    | none=>rfl
    | some ob =>
      have:=h.sealed _ _ hs
      have:=(Array.getElem?_eq_some_iff.1 this).1
      omega
  have hget:∀ {i:Nat} {k:HK} {l:List AT},HP.get ((nh,HK.loc e,cs)::hp) i=some (k,l)->(i=nh/\k=.loc e/\l=cs)\/(i<nh/\hp.get i=some (k,l)):=by
    intro i k l hi
    rw [HP.get_cons] at hi
    by_cases hin:nh=i
    · rw [if_pos hin] at hi
      injection hi with hi
      simp only [Prod.mk.injEq] at hi
      exact .inl ⟨hin.symm,hi.1.symm,hi.2.symm⟩
    · rw [if_neg hin] at hi
      exact .inr ⟨(hb.hp i k l hi).1,hi⟩
  have hlocb:∀ {i:Nat} {e':TypeId} {l:List AT},hp.get i=some (.loc e',l)->(β i).block<w.heap.size:=fun hi=>(Array.getElem?_eq_some_iff.1 (h.loc _ _ _ hi).2.1).1
  refine ⟨h.os,h.tape,h.output,by have:=h.size;simp only [World.alloc,Array.size_push];omega,fun b hb hm=>?_,fun b ob hs=>?_,h.le,h.grow,fun i e' l hi=>?_,fun i l hi=>?_,fun i j e1 e2 l1 l2 hi hj hij=>?_,fun i E hE=>?_,h.arrd,fun i j E e' l hE hj=>?_⟩
  · rw [hold b (Nat.lt_of_lt_of_le hb h.size)];exact h.fr b hb hm
  · have:=h.sealed b ob hs
    rw [hold b (Array.getElem?_eq_some_iff.1 this).1];exact this
  · rcases hget hi with ⟨rfl,hk,rfl⟩ | ⟨hlt,hi⟩
    · injection hk with hk
      subst hk
      refine ⟨by rw [upd_new],?_,?_,.inl (by rw [upd_new];exact h.size)⟩
      · rw [upd_new,AT.denL_congr (upd_old β i w) hcs];exact Go.heap_alloc_new w _
      · rw [upd_new];exact hσ
    · rw [upd_old β nh w i hlt,AT.denL_congr (upd_old β nh w) (hb.hp i _ l hi).2]
      obtain ⟨h1,h2,h3⟩:=h.loc i e' l hi
      exact ⟨h1,by rw [hold _ (hlocb hi)];exact h2,h3⟩
  · rcases hget hi with ⟨_,hk,_⟩ | ⟨hlt,hi⟩
    · cases hk
    · intro j c hc
      rw [upd_old β nh w i hlt,AT.den_congr (upd_old β nh w) ((hb.hp i _ l hi).2 c (List.mem_of_getElem? hc))]
      exact h.ro i l hi j c hc
  · rcases hget hi with ⟨ei,_,_⟩ | ⟨hlt,hi'⟩<;>rcases hget hj with ⟨ej,_,_⟩ | ⟨hlt',hj'⟩
    · exact ei.trans ej.symm
    · rw [ei,upd_new,upd_old β nh w j hlt'] at hij
      have:=hlocb hj'
      simp only at hij
      omega
    · rw [ej,upd_new,upd_old β nh w i hlt] at hij
      have:=hlocb hi'
      simp only at hij
      omega
    · rw [upd_old β nh w i hlt,upd_old β nh w j hlt'] at hij
      exact h.inj i j _ _ _ _ hi' hj' hij
  · exact (h.arr i E hE).keep fun g hg=>hold g ((h.arr i E hE).lt hg).1
  · intro hc
    rcases hget hj with ⟨rfl,_,_⟩ | ⟨hlt,hj⟩
    · rw [upd_new] at hc
      have:=((h.arr i E hE).lt hc).1
      simp only at this
      omega
    · rw [upd_old β nh w j hlt] at hc
      exact h.arrh i j E e' l hE hj hc
theorem StW.store {cf:Cf} {σ:Snap} {hp:HP} {A:List AE} {β:Nat->Addr} {w:World} (h:StW cf σ hp A β w) {i:Nat} {e:TypeId} {cs0 cs:List AT} (hi:hp.get i=some (.loc e,cs0)) :
    StW cf σ ((i,.loc e,cs)::hp) A β (w.setRow (β i).block (cs.map (AT.den β)).toArray):=by
  obtain ⟨h1,h2,h3,h4⟩:=h.loc i e cs0 hi
  have hoth:∀ b,b≠(β i).block->(w.setRow (β i).block (cs.map (AT.den β)).toArray).heap[b]?=w.heap[b]?:=fun b hb=>setRow_other w _ b _ hb
  refine ⟨h.os,h.tape,h.output,by have:=h.size;simpa using this,fun b hb hm=>?_,fun b ob hs=>?_,h.le,h.grow,fun j e' l hj=>?_,fun j l hj=>?_,fun j k e1 e2 l1 l2 hj hk hjk=>?_,fun j E hE=>?_,h.arrd,fun j k E e' l hE hk=>?_⟩
  · rw [hoth b (fun hc=>by subst hc;rcases h4 with h4 | h4<;>first | omega | exact hm h4)];exact h.fr b hb hm
  · rw [hoth b (fun hc=>by subst hc;rw [h3] at hs;cases hs)];exact h.sealed b ob hs
  · rw [HP.get_cons] at hj
    by_cases hij:i=j
    · rw [if_pos hij] at hj
      injection hj with hj
      simp only [Prod.mk.injEq,HK.loc.injEq] at hj
      obtain ⟨rfl,rfl⟩:=hj
      subst hij
      exact ⟨h1,setRow_heap w _ _ _ _ _ h2,h3,h4⟩
    · rw [if_neg hij] at hj
      obtain ⟨g1,g2,g3⟩:=h.loc j e' l hj
      exact ⟨g1,by rw [hoth _ (fun hc=>hij (h.inj j i _ _ _ _ hj hi hc).symm)];exact g2,g3⟩
  · rw [HP.get_cons] at hj
    by_cases hij:i=j
    · rw [if_pos hij] at hj;injection hj with hj;simp at hj
    · rw [if_neg hij] at hj;exact h.ro j l hj
  · rw [HP.get_cons] at hj hk
    by_cases hij:i=j<;>by_cases hik:i=k
    · exact hij.symm.trans hik
    · rw [if_neg hik] at hk;subst hij;exact h.inj i k _ _ _ _ hi hk hjk
    · rw [if_neg hij] at hj;subst hik;exact h.inj j i _ _ _ _ hj hi hjk
    · rw [if_neg hij] at hj;rw [if_neg hik] at hk;exact h.inj j k _ _ _ _ hj hk hjk
  · exact (h.arr j E hE).keep fun g hg=>hoth g (fun hc=>h.arrh j i E e cs0 hE hi (hc▸hg))
  · rw [HP.get_cons] at hk
    by_cases hik:i=k
    · subst hik;exact h.arrh j i E e cs0 hE hi
    · rw [if_neg hik] at hk;exact h.arrh j k E e' l hE hk
theorem undef_lt (n:Nat):undefSV.lt n:=fun x hx=>by cases hx
theorem bindE_ok {cf:Cf} {d:Option Tmp} {x:SV} {env:Env} {k:Env->Out} {stop:Out}
    (R:Out->Prop) (hr:R (bindE d cf.N x env k stop)) :
    R stop\/(d=none/\R (k env))\/∃ t,d=some t/\t<cf.N/\R (k ((t,x)::env)):=by
  unfold bindE at hr
  cases d with
  | none=>exact .inr (.inl ⟨rfl,hr⟩)
  | some t =>
    simp only at hr
    cases hlt:Nat.blt t cf.N with
    | false=>rw [hlt] at hr;exact .inl hr
    | true =>
      rw [hlt] at hr
      exact .inr (.inr ⟨t,rfl,by simpa [Nat.blt_eq] using hlt,hr⟩)
def OutJ (cf:Cf) (Q:Exit->Act->World->Prop) (σ:Snap) (A:List AE):Out->Prop
  | .mk l env hp nh=>OJ cf l Q σ env hp A nh
  | .no=>False
theorem exec_ok {cf:Cf} {T:List (Nat×TI)} (hT:TTok cf.P T) {Q:Exit->Act->World->Prop} {σ:Snap} {A:List AE}:∀ (l:List Item) (env:Env) (hp:HP) (nh:Nat),
    OutJ cf Q σ A (exec T cf.N l env hp nh)->OJ cf l Q σ env hp A nh
  | [],env,hp,nh,h=>h
  | it::rest,env,hp,nh,h=>by
    simp only [exec] at h
    split at h
    · exact h
    · rename_i hg
      rcases bindE_ok (cf:=cf) (fun o=>OutJ cf Q σ A o) h with h | ⟨hd,h⟩ | ⟨t,hd,ht,h⟩
      · exact h
      · refine ⟨fun hb a β ha hex=>?_⟩
        have h':=(exec_ok hT rest _ _ _ h).run hb a β ha hex
        simp only [RunT]
        rw [if_neg (by rw [guardVal_ok ha hg];simp),hd]
        exact h'
      · refine ⟨fun hb a β ha hex=>?_⟩
        have h':=(exec_ok hT rest _ _ _ h).run (hb.put (undef_lt nh) t) (a.put (some t) undef) β (ha.put ht undefSV) hex
        simp only [RunT]
        rw [if_neg (by rw [guardVal_ok ha hg];simp),hd]
        exact h'
    · rename_i hg
      split at h
      · exact h
      · rename_i eff heff
        rw [forceEff_eq] at h
        cases eff with
        | val x =>
          cases hcan:canRead it.tag it.o.op with
          | false=>rw [hcan] at h;exact h
          | true =>
          rw [hcan] at h
          simp only [cond_true] at h
          have fin:∀ env',(∀ a β,StA cf env β a->Bd env hp nh->x.lt nh->Bd env' hp nh/\StA cf env' β (a.put it.o.dst (x.den β)))->OJ cf rest Q σ env' hp A nh->OJ cf (it::rest) Q σ env hp A nh:=by
            intro env' hput h
            refine ⟨fun hb a β ha hex=>?_⟩
            obtain ⟨hx,hrun⟩:=step_ok (o:=it.o) hT ha hb heff
            obtain ⟨hb',ha'⟩:=hput a β ha hb hx
            have h':=h.run hb' _ β ha' hex
            simp only [RunT]
            rw [if_pos (guardVal_ok ha hg)]
            cases htag:it.tag with
            | pure =>
              rw [htag] at hcan
              have hnl:isLoad it.o.op=false:=by simpa [canRead] using hcan
              exact ⟨_,fun w=>.inl (hrun w (fun h=>by rw [hnl] at h;cases h)),h'⟩
            | quiet=>exact ⟨_,fun w hw=>.inl (hrun w fun _=>⟨σ,A,hw⟩),h'⟩
            | keep=>exact fun w hw=>wp_of_quiet (.inl (hrun w fun _=>⟨σ,A,hw⟩)) ⟨_,_,hw,fun _ h=>h,fun _ h=>h,h'⟩
            | sink=>exact fun w hw=>wp_of_quiet (.inl (hrun w fun _=>⟨σ,A,hw⟩)) ⟨_,_,hw,fun _ h=>h,h'⟩
            | free=>exact fun w hw=>wp_of_quiet (.inl (hrun w fun _=>⟨σ,A,hw⟩)) ⟨_,_,hw,fun _ h=>h,h'⟩
          rcases bindE_ok (cf:=cf) (fun o=>OutJ cf Q σ A o) h with h | ⟨hd,h⟩ | ⟨t,hd,ht,h⟩
          · exact h
          · exact fin env (fun a β ha hb _=>⟨hb,by rw [hd];exact ha⟩) (exec_ok hT rest _ _ _ h)
          · exact fin _ (fun a β ha hb hx=>⟨hb.put hx t,by rw [hd];exact ha.put ht x⟩) (exec_ok hT rest _ _ _ h)
        | new e cs x =>
          cases hcan:canNew it.tag with
          | false=>rw [hcan] at h;exact h
          | true =>
            rw [hcan] at h
            simp only [cond_true] at h
            have fin:∀ env',(∀ a β,StA cf env β a->Bd env hp nh->(SV.a x).lt (nh+1)->Bd env' hp (nh+1)/\StA cf env' β (a.put it.o.dst ((SV.a x).den β))) ->
                OJ cf rest Q σ env' ((nh,.loc e,cs)::hp) A (nh+1)->OJ cf (it::rest) Q σ env hp A nh:=by
              intro env' hput h
              refine ⟨fun hb a β ha _=>?_⟩
              obtain ⟨hcs,hx,hrun⟩:=step_ok (o:=it.o) hT ha hb heff
              have hxl:(SV.a x).lt (nh+1):=by
                rcases hx with rfl | ⟨n,rfl⟩<;>exact Nat.lt_succ_self nh
              have goal:∀ w,StW cf σ hp A β w->∀ (K:Act->World->Prop) (Q':Exit->Act->World->Prop),
                  (∀ w' β',(∀ i,i<nh->β' i=β i)->StW cf σ ((nh,.loc e,cs)::hp) A β' w'->K (a.put it.o.dst ((SV.a x).den β')) w')->it.o.wq cf.P a w K Q':=by
                intro w hw K Q' hK
                unfold Oper.wq
                rw [hrun w]
                exact hK _ _ (upd_old β nh w) (hw.alloc hb hcs)
              have cont:∀ β',(∀ i,i<nh->β' i=β i)->(∃ w,StW cf σ ((nh,.loc e,cs)::hp) A β' w)->RunT cf.P Q rest (fun w=>StW cf σ ((nh,.loc e,cs)::hp) A β' w) (fun w=>StW cf σ ((nh,.loc e,cs)::hp) A β' w) (a.put it.o.dst ((SV.a x).den β')):=by
                intro β' hβ hex
                obtain ⟨hb',ha'⟩:=hput a β' (ha.congr hb hβ) hb hxl
                exact h.run (hb'.row (Nat.lt_succ_self nh) fun c hc=>AT.lt_mono (Nat.le_succ nh) (hcs c hc)) _ β' ha' hex
              have keepS:∀ β',(∀ i,i<nh->β' i=β i)->∀ w',StW cf σ ((nh,.loc e,cs)::hp) A β' w'->StW cf σ hp A β w':=by
                intro β' hβ w' hw'
                have hg2:∀ {i k l},hp.get i=some (k,l)->HP.get ((nh,HK.loc e,cs)::hp) i=some (k,l):=by
                  intro i k l hi
                  rw [HP.get_cons,if_neg (fun hc=>by have:=(hb.hp i k l hi).1;omega)];exact hi
                have hlt:∀ {i k l},hp.get i=some (k,l)->i<nh:=fun hi=>(hb.hp _ _ _ hi).1
                refine ⟨hw'.os,hw'.tape,hw'.output,hw'.size,hw'.fr,hw'.sealed,hw'.le,hw'.grow,fun i e' l hi=>?_,fun i l hi j c hc=>?_,fun i j e1 e2 l1 l2 hi hj hij=>?_,hw'.arr,hw'.arrd,fun i j E e' l hE hj=>?_⟩
                · have:=hw'.loc i e' l (hg2 hi)
                  rw [hβ i (hlt hi),AT.denL_congr hβ (hb.hp i _ l hi).2] at this
                  exact this
                · have:=hw'.ro i l (hg2 hi) j c hc
                  rw [hβ i (hlt hi),AT.den_congr hβ ((hb.hp i _ l hi).2 c (List.mem_of_getElem? hc))] at this
                  exact this
                · refine hw'.inj i j _ _ _ _ (hg2 hi) (hg2 hj) ?_
                  rw [hβ i (hlt hi),hβ j (hlt hj)];exact hij
                · have:=hw'.arrh i j E e' l hE (hg2 hj)
                  rw [hβ j (hlt hj)] at this
                  exact this
              simp only [RunT]
              rw [if_pos (guardVal_ok ha hg)]
              cases htag:it.tag with
              | pure=>rw [htag] at hcan;cases hcan
              | quiet=>rw [htag] at hcan;cases hcan
              | keep=>exact fun w hw=>goal w hw _ _ fun w' β' hβ hw'=>⟨_,_,hw',fun _ h=>h,fun x hx=>keepS β' hβ x hx,cont β' hβ ⟨_,hw'⟩⟩
              | sink=>exact fun w hw=>goal w hw _ _ fun w' β' hβ hw'=>⟨_,_,hw',fun _ h=>h,cont β' hβ ⟨_,hw'⟩⟩
              | free=>exact fun w hw=>goal w hw _ _ fun w' β' hβ hw'=>⟨_,_,hw',fun _ h=>h,cont β' hβ ⟨_,hw'⟩⟩
            rcases bindE_ok (cf:=cf) (fun o=>OutJ cf Q σ A o) h with h | ⟨hd,h⟩ | ⟨t,hd,ht,h⟩
            · exact h
            · exact fin env (fun a β ha hb _=>⟨hb.mono (Nat.le_succ nh),by rw [hd];exact ha⟩) (exec_ok hT rest _ _ _ h)
            · exact fin _ (fun a β ha hb hx=>⟨(hb.mono (Nat.le_succ nh)).put hx t,by rw [hd];exact ha.put ht _⟩) (exec_ok hT rest _ _ _ h)
        | put i e cs =>
          cases hcan:canPut it.tag with
          | false=>rw [hcan] at h;exact h
          | true =>
            rw [hcan] at h
            simp only [cond_true] at h
            have fin:∀ env',(∀ a β,StA cf env β a->Bd env hp nh->Bd env' hp nh/\StA cf env' β (a.put it.o.dst undef)) ->
                OJ cf rest Q σ env' ((i,.loc e,cs)::hp) A nh->OJ cf (it::rest) Q σ env hp A nh:=by
              intro env' hput h
              refine ⟨fun hb a β ha _=>?_⟩
              obtain ⟨hcs,⟨cs0,hi⟩,hrun⟩:=step_ok (o:=it.o) hT ha hb heff
              obtain ⟨hb',ha'⟩:=hput a β ha hb
              have h':=fun hex=>h.run (hb'.row (hb.hp i _ _ hi).1 hcs) _ β ha' hex
              have goal:∀ w,StW cf σ hp A β w->∀ (K:Act->World->Prop) (Q':Exit->Act->World->Prop),
                  (∀ w',StW cf σ ((i,.loc e,cs)::hp) A β w'->K (a.put it.o.dst undef) w')->it.o.wq cf.P a w K Q':=by
                intro w hw K Q' hK
                unfold Oper.wq
                rw [hrun σ A w hw]
                exact hK _ (hw.store hi)
              simp only [RunT]
              rw [if_pos (guardVal_ok ha hg)]
              cases htag:it.tag with
              | pure=>rw [htag] at hcan;cases hcan
              | quiet=>rw [htag] at hcan;cases hcan
              | keep=>rw [htag] at hcan;cases hcan
              | sink=>exact fun w hw=>goal w hw _ _ fun w' hw'=>⟨_,_,hw',fun _ h=>h,h' ⟨_,hw'⟩⟩
              | free=>exact fun w hw=>goal w hw _ _ fun w' hw'=>⟨_,_,hw',fun _ h=>h,h' ⟨_,hw'⟩⟩
            rcases bindE_ok (cf:=cf) (fun o=>OutJ cf Q σ A o) h with h | ⟨hd,h⟩ | ⟨t,hd,ht,h⟩
            · exact h
            · exact fin env (fun a β ha hb=>⟨hb,by rw [hd];exact ha⟩) (exec_ok hT rest _ _ _ h)
            · exact fin _ (fun a β ha hb=>⟨hb.put (undef_lt nh) t,by rw [hd];exact ha.put ht undefSV⟩) (exec_ok hT rest _ _ _ h)
end Go.Sy
/- The judgement on code, and its rules. No program in sight. -/
namespace Go.Sy
structure CJ (cf:Cf) (c:Code) (Q:Exit->Act->World->Prop) (σ:Snap) (env:Env) (hp:HP) (A:List AE) (nh:Nat):Prop where
  run:Bd env hp nh->∀ a β w,StA cf env β a->StW cf σ hp A β w->wpR cf.rd cf.P c Q a w
structure NJ (cf:Cf) (e:Exit) (Q:Exit->Act->World->Prop) (σ:Snap) (env:Env) (hp:HP) (A:List AE) (nh:Nat):Prop where
  run:Bd env hp nh->∀ a β w,StA cf env β a->StW cf σ hp A β w->Q e a w
section
variable {cf:Cf} {Q:Exit->Act->World->Prop} {σ:Snap} {env:Env} {hp:HP} {A:List AE} {nh:Nat}
theorem cj_seq {x y:Code} (h:CJ cf x (Exit.then (wpR cf.rd cf.P y Q) Q) σ env hp A nh):CJ cf (.seq x y) Q σ env hp A nh :=
  ⟨fun hb a β w ha hw=>wpIn_seq (h.run hb a β w ha hw)⟩
theorem cj_skip (h:NJ cf .normal Q σ env hp A nh):CJ cf .skip Q σ env hp A nh:=⟨fun hb a β w ha hw=>wpIn_skip (h.run hb a β w ha hw)⟩
theorem cj_exit {id:Nat} (h:NJ cf (.exit id) Q σ env hp A nh):CJ cf (.exit id) Q σ env hp A nh:=⟨fun hb a β w ha hw=>wpIn_exit (h.run hb a β w ha hw)⟩
theorem cj_ret (h:NJ cf .ret Q σ env hp A nh):CJ cf .ret Q σ env hp A nh:=⟨fun hb a β w ha hw=>wpIn_ret (h.run hb a β w ha hw)⟩
theorem cj_block {id:Nat} {c:Code} (h:CJ cf c (Exit.inBlock id Q) σ env hp A nh):CJ cf (.block id c) Q σ env hp A nh :=
  ⟨fun hb a β w ha hw=>wpIn_block (h.run hb a β w ha hw)⟩
theorem cj_region {id:Nat} {ops:Array Oper} (h:OJ cf (frees ops) Q σ env hp A nh) (hd:okRd cf.rd ops=true:=by rfl):CJ cf (.region id ops false) Q σ env hp A nh :=
  ⟨fun hb a β _ ha hw=>wp_of_frees hd hw (h.run hb a β ha ⟨_,hw⟩)⟩
theorem StW.drew {β:Nat->Addr} {w:World} (h:StW cf σ hp A β w):StW cf σ hp A β { w with drawn:=w.drawn+1 } :=
  ⟨h.os,h.tape,h.output,h.size,h.fr,h.sealed,h.le,h.grow,h.loc,h.ro,h.inj,h.arr,h.arrd,h.arrh⟩
theorem cj_draw {id:Nat} {ops:Array Oper} (l:List (Nat×Tag)) (hm:cf.P.follows .mixedOrders=true) (hB:orderOk ops l=true)
    (h:OJ cf (itemsOf ops l) Q σ env hp A nh) (hd:okRd cf.rd ops=true:=by rfl):CJ cf (.region id ops true) Q σ env hp A nh :=
  ⟨fun hb a β _ ha hw=>wp_of_order l hm hB hd (fun _ h=>h) hw.drew (h.run hb a β ha ⟨_,hw⟩)⟩
theorem cj_if {c:Operand} {x y:Code} {b:Bool} (hc:evalO env c=some (.a (.b b))) (ht:b=true->CJ cf x Q σ env hp A nh) (hf:b=false->CJ cf y Q σ env hp A nh) :
    CJ cf (.cond c x y) Q σ env hp A nh:=by
  refine ⟨fun hb a β w ha hw=>?_⟩
  have he:a.eval c=.bool b:=evalO_eval ha hc
  exact wpIn_cond_split he (fun h=>(ht h).run hb a β w ha hw) (fun h=>(hf h).run hb a β w ha hw)
theorem cj_if_t {c:Operand} {x y:Code} (hc:evalO env c=some (.a .tt)) (ht:CJ cf x Q σ env hp A nh):CJ cf (.cond c x y) Q σ env hp A nh:=by
  exact ⟨fun hb a β w ha hw=>wpIn_cond_true (evalO_eval ha hc) (ht.run hb a β w ha hw)⟩
theorem cj_if_f {c:Operand} {x y:Code} (hc:evalO env c=some (.a .ff)) (ht:CJ cf y Q σ env hp A nh):CJ cf (.cond c x y) Q σ env hp A nh:=by
  exact ⟨fun hb a β w ha hw=>wpIn_cond_false (evalO_eval ha hc) (ht.run hb a β w ha hw)⟩
theorem oj_nil (h:NJ cf .normal Q σ env hp A nh):OJ cf [] Q σ env hp A nh:=⟨fun hb a β ha _ w hw=>h.run hb a β w ha hw⟩
theorem oj_then {y:Code} (h:CJ cf y Q σ env hp A nh):OJ cf [] (Exit.then (wpR cf.rd cf.P y Q) Q) σ env hp A nh:=⟨fun hb a β ha _ w hw=>h.run hb a β w ha hw⟩
theorem nj_then {y:Code} (h:CJ cf y Q σ env hp A nh):NJ cf .normal (Exit.then (wpR cf.rd cf.P y Q) Q) σ env hp A nh:=⟨h.run⟩
theorem nj_then_exit {id:Nat} {K:Act->World->Prop} (h:NJ cf (.exit id) Q σ env hp A nh):NJ cf (.exit id) (Exit.then K Q) σ env hp A nh:=⟨h.run⟩
theorem nj_then_ret {K:Act->World->Prop} (h:NJ cf .ret Q σ env hp A nh):NJ cf .ret (Exit.then K Q) σ env hp A nh:=⟨h.run⟩
theorem nj_block {id:Nat} (h:NJ cf .normal Q σ env hp A nh):NJ cf .normal (Exit.inBlock id Q) σ env hp A nh:=⟨h.run⟩
theorem nj_block_ret {id:Nat} (h:NJ cf .ret Q σ env hp A nh):NJ cf .ret (Exit.inBlock id Q) σ env hp A nh:=⟨h.run⟩
theorem nj_block_out {id:Nat} (h:NJ cf .normal Q σ env hp A nh):NJ cf (.exit id) (Exit.inBlock id Q) σ env hp A nh:=by
  refine ⟨fun hb a β w ha hw=>?_⟩
  simp only [Exit.inBlock,if_true]
  exact h.run hb a β w ha hw
theorem nj_block_on {id id':Nat} (hne:Nat.beq id' id=false) (h:NJ cf (.exit id') Q σ env hp A nh):NJ cf (.exit id') (Exit.inBlock id Q) σ env hp A nh:=by
  refine ⟨fun hb a β w ha hw=>?_⟩
  have:id'≠id:=fun e=>by subst e;simp at hne
  simp only [Exit.inBlock,if_neg this]
  exact h.run hb a β w ha hw
def subE (e1 e2:Env):Prop:=∀ i x,e1.get i=some x->e2.get i=some x
def subH (h1 h2:HP):Prop:=∀ i x,h1.get i=some x->h2.get i=some x
theorem StA.sub {β:Nat->Addr} {a:Act} {env':Env} (h:subE env' env) (ha:StA cf env β a):StA cf env' β a:=⟨ha.size,ha.defers,fun i x hx=>ha.env i x (h i x hx)⟩
theorem StW.sub {β:Nat->Addr} {w:World} {hp':HP} (h:subH hp' hp) (hw:StW cf σ hp A β w):StW cf σ hp' A β w :=
  ⟨hw.os,hw.tape,hw.output,hw.size,hw.fr,hw.sealed,hw.le,hw.grow,fun i e cs hi=>hw.loc i e cs (h i _ hi),fun i cs hi=>hw.ro i cs (h i _ hi),
   fun i j e e' cs cs' hi hj=>hw.inj i j e e' cs cs' (h i _ hi) (h j _ hj),hw.arr,hw.arrd,fun i j E e cs hE hj=>hw.arrh i j E e cs hE (h j _ hj)⟩
theorem Bd.sub {env':Env} {hp':HP} (he:subE env' env) (hh:subH hp' hp) (hb:Bd env hp nh):Bd env' hp' nh :=
  ⟨fun i x hx=>hb.env i x (he i x hx),fun i k cs hi=>hb.hp i k cs (hh i _ hi)⟩
theorem cj_sub {c:Code} {env':Env} {hp':HP} (he:subE env' env) (hh:subH hp' hp) (h:CJ cf c Q σ env' hp' A nh):CJ cf c Q σ env hp A nh :=
  ⟨fun hb a β w ha hw=>h.run (hb.sub he hh) a β w (ha.sub he) (hw.sub hh)⟩
structure LS where
  σ:Snap
  env:Env
  hp:HP
  A:List AE
  nh:Nat
def AtLS (cf:Cf) (s:LS) (a:Act) (w:World):Prop:=Bd s.env s.hp s.nh/\∃ β,StA cf s.env β a/\StW cf s.σ s.hp s.A β w
def Again {α:Type} (cf:Cf) (I:α->Prop) (μ:α->Nat) (sσ:α->Snap) (sE:α->Env) (sH:α->HP) (sA:α->List AE) (sn:Nat) (n:Nat) (a:Act) (w:World):Prop :=
  ∃ x,I x/\μ x<n/\AtLS cf ⟨sσ x,sE x,sH x,sA x,sn⟩ a w
theorem wpR_loop_rel {rd:Option Nat} {P:Program} {c:Code} {Q:Exit->Act->World->Prop} {a:Act} {w:World} (R:Nat->Act->World->Prop) (n0:Nat) (h0:R n0 a w)
    (round:∀ n a w,R n a w->wpR rd P c (Exit.then (fun a' w'=>∃ m,m<n/\R m a' w') Q) a w):wpR rd P (.loop c) Q a w:=by
  intro b k cs hro hb hr
  have key:∀ n a w,R n a w->∃ e a' w',Q e a' w'/\ArrivesIn (Machine.fenced P (FR rd)) P (lone (b.atR a (.code c::.inLoop c::k)) cs w) b k cs e a' w':=by
    intro n
    induction n using Nat.strongRecOn with
    | _ n ih =>
      intro a w hR
      obtain ⟨e,a₁,w₁,hq,harr⟩:=round n a w hR b (.inLoop c::k) cs hro hb hr
      cases e with
      | normal =>
        obtain ⟨m,hlt,hR₁⟩:=hq
        obtain ⟨e₂,a₂,w₂,hq₂,harr₂⟩:=ih m hlt a₁ w₁ hR₁
        exact ⟨e₂,a₂,w₂,hq₂,.of_steps (StepsIn.trans harr (.one (fenced_calm hb hr rfl) stepR_inLoop)) harr₂⟩
      | exit id=>exact ⟨_,a₁,w₁,hq,.pass (x:=.inLoop c) rfl (fun _ _=>.inl (by simp)) harr⟩
      | goto l=>exact ⟨_,a₁,w₁,hq,.pass (x:=.inLoop c) rfl (fun _ _=>.inl (by simp)) harr⟩
      | ret=>exact ⟨_,a₁,w₁,hq,.pass (x:=.inLoop c) rfl (fun _ _=>.inl (by simp)) harr⟩
      | panic ch=>exact ⟨_,a₁,w₁,hq,.pass (x:=.inLoop c) rfl (fun _ _=>.inl (by simp)) harr⟩
      | outgrown=>exact ⟨_,a₁,w₁,hq,.pass (x:=.inLoop c) rfl (fun _ _=>.inl (by simp)) harr⟩
  obtain ⟨e,a',w',hq,harr⟩:=key n0 a w h0
  exact ⟨e,a',w',hq,.of_steps (.one (fenced_calm hb hr rfl) stepR_loop) harr⟩
def allInE:Env->Env->Prop
  | [],_=>True
  | (i,x)::l,e=>e.get i=some x/\allInE l e
def allInH:HP->HP->Prop
  | [],_=>True
  | (i,x)::l,e=>e.get i=some x/\allInH l e
theorem subE_of:∀ {l e:Env},allInE l e->subE l e
  | [],_,_,_,_,h=>by cases h
  | (j,y)::l,e,⟨h1,h2⟩,i,x,h=>by
    rw [Env.get_cons] at h
    by_cases hji:j=i
    · rw [if_pos hji] at h;injection h with h;subst h;subst hji;exact h1
    · rw [if_neg hji] at h;exact subE_of h2 i x h
theorem subH_of:∀ {l e:HP},allInH l e->subH l e
  | [],_,_,_,_,h=>by cases h
  | (j,k,cs)::l,e,⟨h1,h2⟩,i,x,h=>by
    rw [HP.get_cons] at h
    by_cases hji:j=i
    · rw [if_pos hji] at h;injection h with h;subst h;subst hji;exact h1
    · rw [if_neg hji] at h;exact subH_of h2 i x h
def EnvLt (n:Nat):Env->Prop
  | []=>True
  | (_,x)::l=>x.lt n/\EnvLt n l
def HpLt (n:Nat):HP->Prop
  | []=>True
  | (i,_,cs)::l=>(i<n/\∀ c∈cs,c.lt n)/\HpLt n l
theorem Bd.of {env:Env} {hp:HP} {n:Nat} (h1:EnvLt n env) (h2:HpLt n hp):Bd env hp n:=by
  constructor
  · intro i x hx
    induction env with
    | nil=>cases hx
    | cons e l ih =>
      obtain ⟨j,y⟩:=e
      rw [Env.get_cons] at hx
      by_cases hji:j=i
      · rw [if_pos hji] at hx;injection hx with hx;subst hx;exact h1.1
      · rw [if_neg hji] at hx;exact ih h1.2 hx
  · intro i k cs hx
    induction hp with
    | nil=>cases hx
    | cons e l ih =>
      obtain ⟨j,q,ds⟩:=e
      rw [HP.get_cons] at hx
      by_cases hji:j=i
      · rw [if_pos hji] at hx
        injection hx with hx
        simp only [Prod.mk.injEq] at hx
        obtain ⟨_,rfl⟩:=hx
        subst hji
        exact h2.1
      · rw [if_neg hji] at hx;exact ih h2.2 hx
theorem cj_loop {α:Type} {c:Code} (sσ:α->Snap) (sE:α->Env) (sH:α->HP) (sA:α->List AE) (sn:Nat) (I:α->Prop) (μ:α->Nat) (x0:α) (h0:I x0) (hσ:sσ x0=σ) (he:allInE (sE x0) env) (hh:allInH (sH x0) hp)
    (hA:sA x0=A) (hl:EnvLt sn (sE x0)) (hl':HpLt sn (sH x0))
    (hround:∀ x,I x->CJ cf c (Exit.then (Again cf I μ sσ sE sH sA sn (μ x)) Q) (sσ x) (sE x) (sH x) (sA x) sn):CJ cf (.loop c) Q σ env hp A nh:=by
  refine ⟨fun _ a β w ha hw=>?_⟩
  have hx0:AtLS cf ⟨sσ x0,sE x0,sH x0,sA x0,sn⟩ a w:=⟨Bd.of hl hl',β,ha.sub (subE_of he),by rw [hσ,hA];exact hw.sub (subH_of hh)⟩
  exact wpR_loop_rel (fun n a w=>∃ x,I x/\μ x=n/\AtLS cf ⟨sσ x,sE x,sH x,sA x,sn⟩ a w) (μ x0) ⟨x0,h0,rfl,hx0⟩ fun n a w ⟨x,hI,hμ,hb,β,ha,hw⟩=>by
    subst hμ
    exact Code.wpIn_mono (fun e a w q=>by
      cases e with
      | normal=>obtain ⟨y,h1,h2,h3⟩:=q;exact ⟨μ y,h2,y,h1,rfl,h3⟩
      | _=>exact q) ((hround x hI).run hb a β w ha hw)
theorem nj_again {α:Type} {I:α->Prop} {μ:α->Nat} {sσ:α->Snap} {sE:α->Env} {sH:α->HP} {sA:α->List AE} {sn:Nat} {n:Nat} (x:α) (hI:I x) (hμ:μ x<n) (hσ:sσ x=σ) (he:allInE (sE x) env) (hh:allInH (sH x) hp)
    (hA:sA x=A) (hl:EnvLt sn (sE x)) (hl':HpLt sn (sH x)):NJ cf .normal (Exit.then (Again cf I μ sσ sE sH sA sn n) Q) σ env hp A nh :=
  ⟨fun _ _ β _ ha hw=>⟨x,hI,hμ,Bd.of hl hl',β,ha.sub (subE_of he),by rw [hσ,hA];exact hw.sub (subH_of hh)⟩⟩
theorem cj_cut {α:Type} {x y:Code} (sσ:α->Snap) (sE:α->Env) (sH:α->HP) (sA:α->List AE) (sn:Nat) (I:α->Prop)
    (hx:CJ cf x (Exit.then (Again cf I (fun _=>0) sσ sE sH sA sn 1) Q) σ env hp A nh) (hy:∀ i,I i->CJ cf y Q (sσ i) (sE i) (sH i) (sA i) sn):CJ cf (.seq x y) Q σ env hp A nh:=by
  refine ⟨fun hb a β w ha hw=>wpIn_seq (Code.wpIn_mono (fun e a w q=>?_) (hx.run hb a β w ha hw))⟩
  cases e with
  | normal =>
    obtain ⟨i,hI,_,hb,β,ha,hw⟩:=q
    exact (hy i hI).run hb a β w ha hw
  | _=>exact q
theorem oj_sub {l:List Item} {env':Env} {hp':HP} (he:subE env' env) (hh:subH hp' hp) (hS:∀ β w,StW cf σ hp' A β w->StW cf σ hp A β w) (h:OJ cf l Q σ env' hp' A nh):OJ cf l Q σ env hp A nh:=by
  refine ⟨fun hb a β ha hex=>?_⟩
  have e:(fun w=>StW cf σ hp A β w)=fun w=>StW cf σ hp' A β w:=by
    funext w
    exact propext ⟨fun hw=>hw.sub hh,hS β w⟩
  rw [e]
  obtain ⟨w,hw⟩:=hex
  exact h.run (hb.sub he hh) a β (ha.sub he) ⟨w,hw.sub hh⟩
theorem oj_subE {l:List Item} {env':Env} (he:subE env' env) (h:OJ cf l Q σ env' hp A nh):OJ cf l Q σ env hp A nh:=oj_sub he (fun _ _ h=>h) (fun _ _ h=>h) h
end
end Go.Sy
/- Contracts of functions; entering, returning, calls; single operations that the reckoning leaves. No program in sight. -/
namespace Go.Sy
def Sealed (σ:Snap) (w:World):Prop:=∀ b o,σ b=some o->w.heap[b]?=some o
structure Fr (M:Nat->Prop) (w w':World):Prop where
  os:w'.os=w.os
  tape:w'.tape=w.tape
  output:w'.output=w.output
  size:w.heap.size<=w'.heap.size
  block:∀ b,b<w.heap.size->¬ M b->w'.heap[b]?=w.heap[b]?
def Snap.le (σ σ':Snap):Prop:=∀ b o,σ b=some o->σ' b=some o
structure SGrow (M:Nat->Prop) (σ:Snap) (w:World) (σ':Snap):Prop where
  le:σ.le σ'
  new:∀ b,σ' b≠none->σ b≠none\/w.heap.size<=b\/M b
theorem Snap.le_refl (σ:Snap):σ.le σ:=fun _ _ h=>h
theorem Snap.le_trans {a b c:Snap} (h:a.le b) (h':b.le c):a.le c:=fun x o hx=>h' x o (h x o hx)
theorem Snap.le.cell {σ σ':Snap} (h:σ.le σ') {a:Addr} {v:Value} (hv:σ.cell a=some v):σ'.cell a=some v:=by
  unfold Snap.cell at *
  split at hv
  · rename_i c e f hc
    rw [h _ _ hc];exact hv
  · cases hv
def postR (w:World) (M:Nat->Prop) (σ:Snap) (Post:Value->World->Snap->Prop):Ending->World->Prop :=
  fun e w'=>∃ v σ',e=.returned v/\Fr M w w'/\SGrow M σ w σ'/\Sealed σ' w'/\Post v w' σ'
def CallC (P:Program) (f:FuncId) (args:Array Value) (w:World) (M:Nat->Prop) (σ:Snap) (Post:Value->World->Snap->Prop):Prop :=
  Calls P f args w (postR w M σ Post)
def PureC (P:Program) (f:FuncId) (args:Array Value) (σ:Snap) (Φ:Value->Snap->Prop):Prop :=
  ∀ w,Sealed σ w->CallC P f args w (fun _=>False) σ (fun v _ σ'=>Φ v σ')
def argEnv:Nat->List SV->Env
  | _,[]=>[]
  | i,x::xs=>(i,x)::argEnv (i+1) xs
theorem argEnv_get:∀ (xs:List SV) (k i:Nat) (x:SV),(argEnv k xs).get i=some x->k<=i/\xs[i - k]?=some x
  | [],_,_,_,h=>by cases h
  | y::xs,k,i,x,h=>by
    simp only [argEnv,Env.get_cons] at h
    by_cases hk:k=i
    · subst hk;rw [if_pos rfl] at h;injection h with h;subst h;simp
    · rw [if_neg hk] at h
      obtain ⟨h1,h2⟩:=argEnv_get xs (k+1) i x h
      refine ⟨by omega,?_⟩
      have e:i - k=(i - (k+1))+1:=by omega
      rw [e,List.getElem?_cons_succ];exact h2
theorem enter {P:Program} {f:FuncId} {fn:Func} {c:Code} {args:Array Value} {w:World} {M:Nat->Prop} {σ:Snap} {Post:Value->World->Snap->Prop}
    (hf:P.funcs[f]?=some fn) (hb:fn.body=some c) (svs:List SV) (β:Nat->Addr) (hp:HP) (A:List AE) (nh:Nat) (hargs:args=(svs.map (SV.den β)).toArray) (hN:svs.length<=fn.ntmps)
    (hlt:∀ x∈svs,x.lt nh) (hhp:∀ i k cs,hp.get i=some (k,cs)->i<nh/\∀ c∈cs,c.lt nh)
    (hw:StW ⟨P,w,σ,M,fn.ntmps,[],none⟩ σ hp A β w)
    (h:CJ ⟨P,w,σ,M,fn.ntmps,[],none⟩ c (bodyPost P fn (postR w M σ Post)) σ (argEnv 0 svs) hp A nh):CallC P f args w M σ Post:=by
  refine calls_of_wp hf hb (wpR_none (h.run ⟨fun i x hx=>?_,hhp⟩ _ β w ⟨?_,rfl,fun i x hx=>?_⟩ hw))
  · obtain ⟨_,h2⟩:=argEnv_get svs 0 i x hx
    exact hlt x (List.mem_of_getElem? h2)
  · subst hargs
    simp only [Array.size_append,List.size_toArray,List.length_map,Array.size_replicate]
    omega
  · obtain ⟨_,h2⟩:=argEnv_get svs 0 i x hx
    simp only [Nat.sub_zero] at h2
    subst hargs
    rw [Array.getElem?_append_left (by simp;exact (List.getElem?_eq_some_iff.1 h2).1)]
    simp [h2]
theorem StW.start {P:Program} {w:World} {σ:Snap} {M:Nat->Prop} {N:Nat} (hs:Sealed σ w) (β:Nat->Addr):StW ⟨P,w,σ,M,N,[],none⟩ σ [] [] β w where
  os:=rfl
  tape:=rfl
  output:=rfl
  size:=Nat.le_refl _
  fr:=fun _ _ _=>rfl
  sealed:=hs
  le:=fun _ _ h=>h
  grow:=fun _ h=>.inl h
  loc:=fun _ _ _ h=>by cases h
  ro:=fun _ _ h=>by cases h
  inj:=fun _ _ _ _ _ _ h=>by cases h
  arr:=fun _ _ h=>by cases h
  arrd:=fun _ _ _ _ h=>by cases h
  arrh:=fun _ _ _ _ _ h=>by cases h
def β0:Nat->Addr:=fun _=>⟨0,0,none⟩
theorem enter_pure {P:Program} {f:FuncId} {fn:Func} {c:Code} {args:Array Value} {σ:Snap} {Φ:Value->Snap->Prop}
    (hf:P.funcs[f]?=some fn) (hb:fn.body=some c) (svs:List SV) (hargs:args=(svs.map (SV.den β0)).toArray) (hN:svs.length<=fn.ntmps) (hlt:∀ x∈svs,x.lt 0)
    (h:∀ w,CJ ⟨P,w,σ,fun _=>False,fn.ntmps,[],none⟩ c (bodyPost P fn (postR w (fun _=>False) σ (fun v _ σ'=>Φ v σ'))) σ (argEnv 0 svs) [] [] 0):PureC P f args σ Φ :=
  fun w hs=>enter hf hb svs β0 [] [] 0 hargs hN hlt (fun _ _ _ h=>by cases h) (StW.start hs β0) (h w)
def resS1 (T:List (Nat×TI)) (env:Env) (hp:HP):ResultVar->Option S1
  | .tmp t =>
    match env.get t with
    | some (.a x)=>some (.a x)
    | some (.agg cs)=>some (.agg cs)
    | _=>none
  | .cell t ty =>
    match env.get t,tget T ty with
    | some (.a (.p h off)),some ti =>
      match hp.get h with
      | some (_,cs)=>bif ti.agg then (takeAt cs off ti.size).map .agg else (nthAt cs off).map .a
      | none=>none
    | _,_=>none
def resL (T:List (Nat×TI)) (env:Env) (hp:HP):List ResultVar->Option (List S1)
  | []=>some []
  | r::rs =>
    match resS1 T env hp r,resL T env hp rs with
    | some x,some xs=>some (x::xs)
    | _,_=>none
def resSV (l:List S1):SV :=
  match l with
  | [x]=>x.sv
  | _=>.tup l
def resOne (tmps:Array Value):ResultVar->Sem Value
  | .tmp t=>pure (tmps.getD t undef)
  | .cell p t=>do loadVar t (<-asAddr (tmps.getD p undef))
theorem results_eq (fn:Func) (tmps:Array Value):results fn tmps=(do let vs <-fn.results.mapM (resOne tmps);pure (if h:vs.size=1 then vs[0] else .tuple vs)):=by
  unfold results
  congr
section
variable {cf:Cf} {T:List (Nat×TI)} {env:Env} {hp:HP} {nh:Nat} {β:Nat->Addr} {a:Act} {σ:Snap} {A:List AE} {w:World}
theorem resS1_ok (hT:TTok cf.P T) (ha:StA cf env β a) (hb:Bd env hp nh) (hw:StW cf σ hp A β w) {r:ResultVar} {x:S1} (h:resS1 T env hp r=some x) :
    (resOne a.tmps r).run cf.P w=.ok (x.den β) w:=by
  cases r with
  | tmp t =>
    simp only [resOne]
    simp only [resS1] at h
    split at h
    · rename_i y hy
      injection h with h;subst h
      have:=ha.env t _ hy
      simp only [Sem.run_pure,Array.getD_eq_getD_getElem?,this]
      rfl
    · rename_i y hy
      injection h with h;subst h
      have:=ha.env t _ hy
      simp only [Sem.run_pure,Array.getD_eq_getD_getElem?,this]
      rfl
    · cases h
  | cell p t =>
    simp only [resOne]
    have key : ∀ (eff : Eff), stepOp T (.load t (.tmp p)) env hp nh = some eff → EffOk cf ⟨none, .load t (.tmp p), t, "", #[], none⟩ a hp nh β eff := fun eff he => ok_load hT ha hb rfl he
    simp only [resS1] at h
    split at h
    · rename_i i off ti hp' hti
      split at h
      · rename_i k cs hrow
        have hev:evalO env (.tmp p)=some (.a (.p i off)):=hp'
        have haddr:a.eval (.tmp p)=.pointer (some ((β i).add off)):=evalO_eval ha hev
        have fin:∀ y:SV,y.den β=x.den β->stepOp T (.load t (.tmp p)) env hp nh=some (.val y)->((do loadVar t (<-asAddr (a.tmps.getD p undef))):Sem Value).run cf.P w=.ok (x.den β) w:=by
          intro y hy hst
          have:=(key _ hst).2 w (fun _=>⟨σ,A,hw⟩)
          simp only [execOp,Instr.loadAt,haddr,Instr.sureAddr,Sem.run_bind,Sem.run_pure,Result.andThen_ok] at this
          have haddr':a.tmps.getD p undef=.pointer (some ((β i).add off)):=haddr
          simp only [haddr',asAddr,Sem.run_bind,Sem.run_pure,Result.andThen_ok]
          generalize (loadVar t ((β i).add off)).run cf.P w=r at this
          cases r with
          | ok v w' =>
            simp only [Result.andThen_ok,Result.ok.injEq,Next.value.injEq] at this
            obtain ⟨rfl,rfl⟩:=this
            rw [hy]
          | halt e w'=>simp only [Result.andThen_halt] at this;cases this
        cases hag:ti.agg with
        | true =>
          rw [hag] at h
          obtain ⟨l,hl,rfl⟩:=map_some h
          refine fin (.agg l) rfl ?_
          simp only [stepOp,hev,hti,hrow,hag,cond_true,hl,Option.map_some]
        | false =>
          rw [hag] at h
          obtain ⟨c,hc,rfl⟩:=map_some h
          refine fin (.a c) rfl ?_
          simp only [stepOp,hev,hti,hrow,hag,cond_false,hc,Option.map_some]
      · cases h
    · cases h
theorem resL_ok (hT:TTok cf.P T) (ha:StA cf env β a) (hb:Bd env hp nh) (hw:StW cf σ hp A β w):∀ (rs:List ResultVar) (xs:List S1),resL T env hp rs=some xs ->
    (rs.mapM (resOne a.tmps)).run cf.P w=.ok (xs.map (S1.den β)) w
  | [],xs,h=>by simp only [resL,Option.some.injEq] at h;subst h;rfl
  | r::rs,xs,h=>by
    simp only [resL] at h
    split at h
    · rename_i y ys hy hys
      injection h with h;subst h
      have h1:=resS1_ok hT ha hb hw hy
      have h2:=resL_ok hT ha hb hw rs ys hys
      simp only [List.mapM_cons,Sem.run_bind,Sem.run_pure,h1,Result.andThen_ok,h2,List.map_cons]
    · cases h
theorem results_ok (hT:TTok cf.P T) (ha:StA cf env β a) (hb:Bd env hp nh) (hw:StW cf σ hp A β w) {fn:Func} {xs:List S1} (h:resL T env hp fn.results.toList=some xs) :
    (results fn a.tmps).run cf.P w=.ok ((resSV xs).den β) w:=by
  have h1:=resL_ok hT ha hb hw _ _ h
  rw [results_eq,Array.mapM_eq_mapM_toList,Sem.run_bind,Sem.run_map,h1]
  simp only [Result.andThen_ok,Sem.run_pure]
  congr 1
  match xs with
  | []=>rfl
  | [x]=>simp [resSV];cases x<;>rfl
  | x::y::xs=>simp [resSV,SV.den]
end
theorem SGrow.of {cf:Cf} {σ:Snap} {hp:HP} {A:List AE} {β:Nat->Addr} {w:World} (h:StW cf σ hp A β w):SGrow cf.M cf.σ0 cf.w0 σ :=
  ⟨h.le,fun b hb=>h.grow b hb⟩
theorem Fr.of {cf:Cf} {σ:Snap} {hp:HP} {A:List AE} {β:Nat->Addr} {w:World} (h:StW cf σ hp A β w):Fr cf.M cf.w0 w :=
  ⟨h.os,h.tape,h.output,h.size,h.fr⟩
theorem nj_ret {P:Program} {w0:World} {σ0:Snap} {M:Nat->Prop} {N:Nat} {T:List (Nat×TI)} (hT:TTok P T) {fn:Func} {Post:Value->World->Snap->Prop} {σ:Snap} {env:Env} {hp:HP} {A:List AE} {nh:Nat}
    {xs:List S1} (hr:resL T env hp fn.results.toList=some xs) (h:∀ β w,Bd env hp nh->StW ⟨P,w0,σ0,M,N,[],none⟩ σ hp A β w->Post ((resSV xs).den β) w σ) :
    NJ ⟨P,w0,σ0,M,N,[],none⟩ .ret (bodyPost P fn (postR w0 M σ0 Post)) σ env hp A nh:=⟨fun hb _ β w ha hw =>
  ⟨ha.defers,_,results_ok (cf:=⟨P,w0,σ0,M,N,[],none⟩) hT ha hb hw hr,_,σ,rfl,Fr.of hw,SGrow.of hw,hw.sealed,h β w hb hw⟩⟩
theorem nj_end {P:Program} {w0:World} {σ0:Snap} {M:Nat->Prop} {N:Nat} {T:List (Nat×TI)} (hT:TTok P T) {fn:Func} {Post:Value->World->Snap->Prop} {σ:Snap} {env:Env} {hp:HP} {A:List AE} {nh:Nat}
    {xs:List S1} (hr:resL T env hp fn.results.toList=some xs) (h:∀ β w,Bd env hp nh->StW ⟨P,w0,σ0,M,N,[],none⟩ σ hp A β w->Post ((resSV xs).den β) w σ) :
    NJ ⟨P,w0,σ0,M,N,[],none⟩ .normal (bodyPost P fn (postR w0 M σ0 Post)) σ env hp A nh:=⟨fun hb _ β w ha hw =>
  ⟨ha.defers,_,results_ok (cf:=⟨P,w0,σ0,M,N,[],none⟩) hT ha hb hw hr,_,σ,rfl,Fr.of hw,SGrow.of hw,hw.sealed,h β w hb hw⟩⟩
section
variable {cf:Cf} {Q:Exit->Act->World->Prop} {σ:Snap} {env:Env} {hp:HP} {A:List AE} {nh:Nat} {it:Item} {rest:List Item}
theorem oj_run {T:List (Nat×TI)} (hT:TTok cf.P T) {l l':List Item} {env':Env} {hp':HP} {nh':Nat} (h:exec T cf.N l env hp nh=.mk l' env' hp' nh')
    (k:OJ cf l' Q σ env' hp' A nh'):OJ cf l Q σ env hp A nh:=by
  refine exec_ok hT l env hp nh ?_
  rw [h];exact k
theorem cjr {T:List (Nat×TI)} (hT:TTok cf.P T) {id:Nat} {ops:Array Oper} {l':List Item} {env':Env} {hp':HP} {nh':Nat} (h:exec T cf.N (frees ops) env hp nh=.mk l' env' hp' nh')
    (k:OJ cf l' Q σ env' hp' A nh') (hd:okRd cf.rd ops=true:=by rfl):CJ cf (.region id ops false) Q σ env hp A nh:=cj_region (oj_run hT h k) hd
theorem oj_split {l:List Item} (t:Nat) {b:Bool} (h:env.get t=some (.a (.b b))) (ht:b=true->OJ cf l Q σ ((t,.a .tt)::env) hp A nh) (hf:b=false->OJ cf l Q σ ((t,.a .ff)::env) hp A nh) :
    OJ cf l Q σ env hp A nh:=by
  have key:∀ c:AT,(∀ β,c.den β=.bool b)->c.lt nh->OJ cf l Q σ ((t,.a c)::env) hp A nh->OJ cf l Q σ env hp A nh:=by
    intro c hc hl hk
    refine ⟨fun hb a β ha hex=>?_⟩
    refine hk.run (hb.put (x:=.a c) hl t) a β ⟨ha.size,ha.defers,fun i x hx=>?_⟩ hex
    rw [Env.get_cons] at hx
    by_cases hi:t=i
    · rw [if_pos hi] at hx
      injection hx with hx
      subst hx
      subst hi
      have:=ha.env t _ h
      simp only [SV.den,AT.den] at this
      simp only [SV.den,hc β,this]
    · rw [if_neg hi] at hx;exact ha.env i x hx
  cases b with
  | true=>exact key .tt (fun _=>rfl) trivial (ht rfl)
  | false=>exact key .ff (fun _=>rfl) trivial (hf rfl)
theorem oj_set {l:List Item} (t:Nat) {x:SV} (y:SV) (h:env.get t=some x) (hy:y.lt nh) (hxy:∀ β,x.den β=y.den β) (k:OJ cf l Q σ ((t,y)::env) hp A nh):OJ cf l Q σ env hp A nh:=by
  refine ⟨fun hb a β ha hex=>?_⟩
  refine k.run (hb.put hy t) a β ⟨ha.size,ha.defers,fun i z hz=>?_⟩ hex
  rw [Env.get_cons] at hz
  by_cases hi:t=i
  · rw [if_pos hi] at hz
    injection hz with hz
    subst hz;subst hi
    rw [<-hxy β];exact ha.env t _ h
  · rw [if_neg hi] at hz;exact ha.env i z hz
theorem oj_val {d:Nat} (y:SV) (hd:it.o.dst=some d) (hg:guardVal it.guard env=some true) (hN:Nat.blt d cf.N=true) (hlt:y.lt nh)
    (hrun:Bd env hp nh->∀ a β,StA cf env β a->∀ w,(execOp a.eval it.o).run cf.P w=.ok (.value (y.den β)) w) (k:OJ cf rest Q σ ((d,y)::env) hp A nh):OJ cf (it::rest) Q σ env hp A nh:=by
  refine ⟨fun hb a β ha hex=>?_⟩
  have hN':d<cf.N:=by simpa [Nat.blt_eq] using hN
  have h':=k.run (hb.put hlt d) (a.put (some d) (y.den β)) β (ha.put hN' y) hex
  have hrun:=hrun hb a β ha
  simp only [RunT]
  rw [if_pos (guardVal_ok ha hg),hd]
  cases it.tag with
  | pure=>exact ⟨_,fun w=>.inl (hrun w),h'⟩
  | quiet=>exact ⟨_,fun w _=>.inl (hrun w),h'⟩
  | keep=>exact fun w hw=>wp_of_quiet (.inl (hrun w)) ⟨_,_,hw,fun _ h=>h,fun _ h=>h,by rw [hd];exact h'⟩
  | sink=>exact fun w hw=>wp_of_quiet (.inl (hrun w)) ⟨_,_,hw,fun _ h=>h,by rw [hd];exact h'⟩
  | free=>exact fun w hw=>wp_of_quiet (.inl (hrun w)) ⟨_,_,hw,fun _ h=>h,by rw [hd];exact h'⟩
theorem oj_arith {d:Nat} {op:BinOp} {x y:Operand} {xt yt:TypeId} {k:IntKind} {m n:Int} (r:Int) (hop:it.o.op=.binOp op xt x y yt) (hd:it.o.dst=some d) (hg:guardVal it.guard env=some true)
    (hN:Nat.blt d cf.N=true) (hx:evalO env x=some (.a (.v (.int k m)))) (hy:evalO env y=some (.a (.v (.int k n))))
    (hr:∀ w P,(binOp op xt (.int k m) (.int k n)).run P w=.ok (.int k r) w)
    (hk:OJ cf rest Q σ ((d,.a (.v (.int k r)))::env) hp A nh):OJ cf (it::rest) Q σ env hp A nh:=by
  refine oj_val (.a (.v (.int k r))) hd hg hN trivial (fun _ a β ha w=>?_) hk
  have h1:a.eval x=.int k m:=evalO_eval ha hx
  have h2:a.eval y=.int k n:=evalO_eval ha hy
  simp only [execOp,hop,h1,h2,eqGuard_at_int,Sem.run_bind,Sem.run_pure,Result.andThen_ok,hr]
  rfl
theorem run_add {xt:TypeId} {k:IntKind} {m n r:Int} (h:k.wrap (m+n)=r) (w:World) (P:Program):(binOp .add xt (.int k m) (.int k n)).run P w=.ok (.int k r) w:=by
  simp only [binOp,Op.intArith,ne_eq,not_true,if_false,h,Sem.run_pure]
theorem run_sub {xt:TypeId} {k:IntKind} {m n r:Int} (h:k.wrap (m - n)=r) (w:World) (P:Program):(binOp .sub xt (.int k m) (.int k n)).run P w=.ok (.int k r) w:=by
  simp only [binOp,Op.intArith,ne_eq,not_true,if_false,h,Sem.run_pure]
theorem run_mul {xt:TypeId} {k:IntKind} {m n r:Int} (h:k.wrap (m*n)=r) (w:World) (P:Program):(binOp .mul xt (.int k m) (.int k n)).run P w=.ok (.int k r) w:=by
  simp only [binOp,Op.intArith,ne_eq,not_true,if_false,h,Sem.run_pure]
theorem oj_add {d:Nat} {x y:Operand} {xt yt:TypeId} {m n:Int} (hop:it.o.op=.binOp .add xt x y yt) (hd:it.o.dst=some d) (hg:guardVal it.guard env=some true) (hN:Nat.blt d cf.N=true)
    (hx:evalO env x=some (.a (.v (.int .i64 m)))) (hy:evalO env y=some (.a (.v (.int .i64 n)))) (hb:-9223372036854775808<=m+n/\m+n<=9223372036854775807)
    (hk:OJ cf rest Q σ ((d,.a (.v (.int .i64 (m+n))))::env) hp A nh):OJ cf (it::rest) Q σ env hp A nh :=
  oj_arith _ hop hd hg hN hx hy (run_add (IntWalk.i64_in _ hb)) hk
theorem oj_minus {d:Nat} {x y:Operand} {xt yt:TypeId} {m n:Int} (hop:it.o.op=.binOp .sub xt x y yt) (hd:it.o.dst=some d) (hg:guardVal it.guard env=some true) (hN:Nat.blt d cf.N=true)
    (hx:evalO env x=some (.a (.v (.int .i64 m)))) (hy:evalO env y=some (.a (.v (.int .i64 n)))) (hb:-9223372036854775808<=m - n/\m - n<=9223372036854775807)
    (hk:OJ cf rest Q σ ((d,.a (.v (.int .i64 (m - n))))::env) hp A nh):OJ cf (it::rest) Q σ env hp A nh :=
  oj_arith _ hop hd hg hN hx hy (run_sub (IntWalk.i64_in _ hb)) hk
theorem oj_mul {d:Nat} {x y:Operand} {xt yt:TypeId} {m n:Int} (hop:it.o.op=.binOp .mul xt x y yt) (hd:it.o.dst=some d) (hg:guardVal it.guard env=some true) (hN:Nat.blt d cf.N=true)
    (hx:evalO env x=some (.a (.v (.int .i64 m)))) (hy:evalO env y=some (.a (.v (.int .i64 n)))) (hb:-9223372036854775808<=m*n/\m*n<=9223372036854775807)
    (hk:OJ cf rest Q σ ((d,.a (.v (.int .i64 (m*n))))::env) hp A nh):OJ cf (it::rest) Q σ env hp A nh :=
  oj_arith _ hop hd hg hN hx hy (run_mul (IntWalk.i64_in _ hb)) hk
theorem oj_conv {d:Nat} {x:Operand} {s t:TypeId} {T:List (Nat×TI)} (hT:TTok cf.P T) {ts ti:TI} {j k:IntKind} {n:Int} (r:Int) (hop:it.o.op=.convert s t x) (hd:it.o.dst=some d)
    (hg:guardVal it.guard env=some true) (hN:Nat.blt d cf.N=true) (hx:evalO env x=some (.a (.v (.int j n)))) (hs:tget T s=some ts) (ht:tget T t=some ti) (hkd:ti.kind=.int k) (hr:k.wrap n=r)
    (hk:OJ cf rest Q σ ((d,.a (.v (.int k r)))::env) hp A nh):OJ cf (it::rest) Q σ env hp A nh:=by
  refine oj_val (.a (.v (.int k r))) hd hg hN trivial (fun _ a β ha w=>?_) hk
  obtain ⟨i1,d1,z1,hs1⟩:=tiOf_spec (hT _ _ hs)
  obtain ⟨i2,d2,z2,hs2⟩:=tiOf_spec (hT _ _ ht)
  have h1:=hs2.kind
  have hu:cf.P.underlying t=some (.int k):=by
    rw [hkd] at h1
    have h2:=hs2.und
    cases d2<;>first
      | (simp only [kindD,TK.int.injEq] at h1;subst h1;exact h2)
      | (simp only [kindD] at h1;cases h1)
  have h2:a.eval x=.int j n:=evalO_eval ha hx
  simp only [execOp,hop,h2,convert,Sem.run_bind,run_underlying hs1.und,run_underlying hu,Result.andThen_ok,Conv.intToInt,Sem.run_pure,hr]
  rfl
theorem oj_index_str {d:Nat} {x i:Operand} {t:TypeId} {T:List (Nat×TI)} (hT:TTok cf.P T) {ti:TI} {s:ByteArray} {k:IntKind} {m:Int} {u:UInt8} (hop:it.o.op=.index t x i) (hd:it.o.dst=some d)
    (hg:guardVal it.guard env=some true) (hN:Nat.blt d cf.N=true) (hx:evalO env x=some (.a (.v (.string s)))) (hi:evalO env i=some (.a (.v (.int k m)))) (ht:tget T t=some ti) (hkd:ti.kind=.str)
    (h0:0<=m) (hu:s.data.toList[m.toNat]?=some u)
    (hk:OJ cf rest Q σ ((d,.a (.v (.int .u8 u.toNat)))::env) hp A nh):OJ cf (it::rest) Q σ env hp A nh:=by
  refine oj_val (.a (.v (.int .u8 u.toNat))) hd hg hN trivial (fun _ a β ha w=>?_) hk
  obtain ⟨i2,d2,z2,hs2⟩:=tiOf_spec (hT _ _ ht)
  have h1:=hs2.kind
  have hun:cf.P.underlying t=some .string:=by
    rw [hkd] at h1
    have h2:=hs2.und
    cases d2<;>first
      | exact h2
      | (simp only [kindD] at h1;cases h1)
  have h2:a.eval x=.string s:=evalO_eval ha hx
  have h3:a.eval i=.int k m:=evalO_eval ha hi
  have hget:s[m.toNat]?=some u:=by
    have hlt:m.toNat<s.size:=by
      have:=(List.getElem?_eq_some_iff.1 hu).1
      rw [Array.length_toList] at this
      exact this
    rw [ByteArray.getElem?_lt' s _ hlt]
    have:=(List.getElem?_eq_some_iff.1 hu).2
    rw [<-this]
    rfl
  simp only [execOp,hop,h2,h3,Instr.index,asIntOf,Sem.run_bind,Sem.run_pure,Result.andThen_ok,run_underlying hun,h0,if_true,hget]
  rfl
theorem oj_indexAddr {d:Nat} {x i:Operand} {t:TypeId} {T:List (Nat×TI)} (hT:TTok cf.P T) {ti te:TI} {e:Nat} {ad:Addr} {n c:Nat} {k:IntKind} {m:Int} (hop:it.o.op=.indexAddr t x i) (hd:it.o.dst=some d)
    (hg:guardVal it.guard env=some true) (hN:Nat.blt d cf.N=true) (hx:evalO env x=some (.a (.v (.slice (some ad) n c)))) (hi:evalO env i=some (.a (.v (.int k m)))) (ht:tget T t=some ti) (hkd:ti.kind=.slice e)
    (hte:tget T e=some te) (h0:0<=m/\m<n)
    (hk:OJ cf rest Q σ ((d,.a (.v (.pointer (some (ad.add (m.toNat*te.size))))))::env) hp A nh):OJ cf (it::rest) Q σ env hp A nh:=by
  refine oj_val (.a (.v (.pointer (some (ad.add (m.toNat*te.size)))))) hd hg hN trivial (fun _ a β ha w=>?_) hk
  obtain ⟨i2,d2,z2,hs2⟩:=tiOf_spec (hT _ _ ht)
  obtain ⟨i3,d3,z3,hs3⟩:=tiOf_spec (hT _ _ hte)
  have h1:=hs2.kind
  have hun:cf.P.underlying t=some (.slice e):=by
    rw [hkd] at h1
    have h2:=hs2.und
    cases d2<;>first
      | (simp only [kindD,TK.slice.injEq] at h1;subst h1;exact h2)
      | (simp only [kindD] at h1;cases h1)
  have h2:a.eval x=.slice (some ad) n c:=evalO_eval ha hx
  have h3:a.eval i=.int k m:=evalO_eval ha hi
  simp only [execOp,hop,h2,h3,Instr.indexAt,asIntOf,Sem.run_bind,Sem.run_pure,Result.andThen_ok,run_underlying hun,h0,and_self,if_true,run_size hs3.info,hs3.size]
  rfl
theorem oj_row {l:List Item} (t:Nat) {ad:Addr} (cs:List AT) (h:env.get t=some (.a (.v (.pointer (some ad))))) (hlt:∀ c∈cs,c.lt 0) (hσ:∀ (j:Nat) c,cs[j]?=some c->σ.cell (ad.add j)=some (c.den β0))
    (k:OJ cf l Q σ ((t,.a (.p nh 0))::env) ((nh,.ro,cs)::hp) A (nh+1)):OJ cf l Q σ env hp A nh:=by
  refine ⟨fun hb a β ha hex=>?_⟩
  let β':Nat->Addr:=fun i=>if i=nh then ad else β i
  have hβ:∀ i,i<nh->β' i=β i:=fun i hi=>by simp only [β'];rw [if_neg (by omega)]
  have hnew:β' nh=ad:=by simp only [β',if_true]
  have ha':StA cf ((t,.a (.p nh 0))::env) β' a:=by
    refine ⟨ha.size,ha.defers,fun i z hz=>?_⟩
    rw [Env.get_cons] at hz
    by_cases hi:t=i
    · rw [if_pos hi] at hz
      injection hz with hz
      subst hz;subst hi
      have:=ha.env t _ h
      simp only [SV.den,AT.den] at this
      simp only [SV.den,AT.den,hnew,Addr.add_zero']
      exact this
    · rw [if_neg hi] at hz;rw [SV.den_congr hβ (hb.env i z hz)];exact ha.env i z hz
  have hb':Bd ((t,.a (.p nh 0))::env) ((nh,.ro,cs)::hp) (nh+1) :=
    ((hb.mono (Nat.le_succ nh)).put (x:=.a (.p nh 0)) (Nat.lt_succ_self nh) t).row (Nat.lt_succ_self nh) fun c hc=>AT.lt_mono (Nat.zero_le _) (hlt c hc)
  have hget:∀ {i:Nat} {q:HK} {r:List AT},HP.get ((nh,HK.ro,cs)::hp) i=some (q,r)->(i=nh/\q=.ro/\r=cs)\/(i<nh/\hp.get i=some (q,r)):=by
    intro i q r hi
    rw [HP.get_cons] at hi
    by_cases hin:nh=i
    · rw [if_pos hin] at hi
      injection hi with hi
      simp only [Prod.mk.injEq] at hi
      exact .inl ⟨hin.symm,hi.1.symm,hi.2.symm⟩
    · rw [if_neg hin] at hi
      exact .inr ⟨(hb.hp i _ _ hi).1,hi⟩
  have hget':∀ {i q r},hp.get i=some (q,r)->HP.get ((nh,HK.ro,cs)::hp) i=some (q,r):=by
    intro i q r hi
    rw [HP.get_cons,if_neg (fun hc=>by have:=(hb.hp i q r hi).1;omega)];exact hi
  have hS:(fun w=>StW cf σ hp A β w)=fun w=>StW cf σ ((nh,.ro,cs)::hp) A β' w:=by
    funext w
    apply propext
    constructor
    · intro hw
      refine ⟨hw.os,hw.tape,hw.output,hw.size,hw.fr,hw.sealed,hw.le,hw.grow,fun i e' l hi=>?_,fun i l hi j c hc=>?_,fun i j e1 e2 l1 l2 hi hj hij=>?_,hw.arr,hw.arrd,fun i j E e' l hE hj=>?_⟩
      · rcases hget hi with ⟨_,hk,_⟩ | ⟨hl,hi'⟩
        · cases hk
        · rw [hβ i hl,AT.denL_congr hβ (hb.hp i _ l hi').2];exact hw.loc i e' l hi'
      · rcases hget hi with ⟨rfl,_,rfl⟩ | ⟨hl,hi'⟩
        · rw [hnew,hσ j c hc]
          congr 1
          exact AT.den_congr (n:=0) (fun i hi=>by omega) (hlt c (List.mem_of_getElem? hc))
        · rw [hβ i hl,AT.den_congr hβ ((hb.hp i _ l hi').2 c (List.mem_of_getElem? hc))];exact hw.ro i l hi' j c hc
      · rcases hget hi with ⟨_,hk,_⟩ | ⟨hl,hi'⟩
        · cases hk
        · rcases hget hj with ⟨_,hk,_⟩ | ⟨hl',hj'⟩
          · cases hk
          · rw [hβ i hl,hβ j hl'] at hij;exact hw.inj i j _ _ _ _ hi' hj' hij
      · rcases hget hj with ⟨_,hk,_⟩ | ⟨hl',hj'⟩
        · cases hk
        · rw [hβ j hl'];exact hw.arrh i j E e' l hE hj'
    · intro hw
      refine ⟨hw.os,hw.tape,hw.output,hw.size,hw.fr,hw.sealed,hw.le,hw.grow,fun i e' l hi=>?_,fun i l hi j c hc=>?_,fun i j e1 e2 l1 l2 hi hj hij=>?_,hw.arr,hw.arrd,fun i j E e' l hE hj=>?_⟩
      · have:=hw.loc i e' l (hget' hi)
        rw [hβ i (hb.hp i _ _ hi).1,AT.denL_congr hβ (hb.hp i _ l hi).2] at this;exact this
      · have:=hw.ro i l (hget' hi) j c hc
        rw [hβ i (hb.hp i _ _ hi).1,AT.den_congr hβ ((hb.hp i _ l hi).2 c (List.mem_of_getElem? hc))] at this;exact this
      · refine hw.inj i j _ _ _ _ (hget' hi) (hget' hj) ?_
        rw [hβ i (hb.hp i _ _ hi).1,hβ j (hb.hp j _ _ hj).1];exact hij
      · have:=hw.arrh i j E e' l hE (hget' hj)
        rw [hβ j (hb.hp j _ _ hj).1] at this;exact this
  rw [hS]
  refine k.run hb' a β' ha' ?_
  obtain ⟨w,hw⟩:=hex
  exact ⟨w,(congrFun hS w)▸hw⟩
def evalL (env:Env):List Operand->Option (List SV)
  | []=>some []
  | x::xs =>
    match evalO env x,evalL env xs with
    | some y,some ys=>some (y::ys)
    | _,_=>none
theorem evalL_ok {β:Nat->Addr} {a:Act} (ha:StA cf env β a):∀ (xs:List Operand) (ys:List SV),evalL env xs=some ys->xs.map a.eval=ys.map (SV.den β)
  | [],ys,h=>by simp only [evalL,Option.some.injEq] at h;subst h;rfl
  | x::xs,ys,h=>by
    simp only [evalL] at h
    split at h
    · rename_i y ys' hy hys
      injection h with h;subst h
      simp only [List.map_cons,evalO_eval ha hy,evalL_ok ha xs ys' hys]
    · cases h
def ptSV:PT->SV
  | .loc i o=>.a (.p i o)
  | .val x=>svOf x
theorem ptSV_den (β:Nat->Addr) (p:PT):(ptSV p).den β=p.den β:=by
  cases p with
  | loc i o=>rfl
  | val x=>exact svOf_den β x
def callee (env:Env) (op:Op):Option (FuncId×List SV) :=
  match op with
  | .call c =>
    match c.callee with
    | .value f =>
      match evalO env f,evalL env c.args.toList with
      | some (.a (.fn (.func g) cap)),some ys=>some (g,ys++cap.map ptSV)
      | _,_=>none
    | _=>none
  | _=>none
theorem callee_ok {β:Nat->Addr} {a:Act} {w:World} (ha:StA cf env β a) {o:Oper} {f:FuncId} {ys:List SV} (h:callee env o.op=some (f,ys))
    (hcall:∀ args w,(callFunc f args).run cf.P w=.ok (.enter f args) w):(execOp a.eval o).run cf.P w=.ok (.enter f (ys.map (SV.den β)).toArray) w:=by
  unfold callee at h
  split at h
  · rename_i c hop
    split at h
    · rename_i fo hcal
      split at h
      · rename_i g cap zs hf hz
        injection h with h
        simp only [Prod.mk.injEq] at h
        obtain ⟨rfl,rfl⟩:=h
        have h1:a.eval fo=.func (.func g) #[] (cap.map (PT.den β)).toArray:=evalO_eval ha hf
        have h2:c.args.map a.eval=(zs.map (SV.den β)).toArray:=by
          have:=evalL_ok ha _ _ hz
          rw [<-this,<-Array.toList_map]
        have h3:(zs.map (SV.den β)).toArray++(cap.map (PT.den β)).toArray=((zs++cap.map ptSV).map (SV.den β)).toArray:=by
          have:cap.map (SV.den β ∘ ptSV)=cap.map (PT.den β):=List.map_congr_left fun p _=>ptSV_den β p
          rw [List.map_append,List.map_map,this]
          exact List.append_toArray _ _
        simp only [execOp,hop,resolve,hcal,h1,h2,Deferred.ofValue,Sem.run_bind,Sem.run_pure,Result.andThen_ok,invoke,Array.empty_append,h3,hcall]
      · cases h
    · cases h
  · cases h
theorem StW.after {β:Nat->Addr} {w w':World} {σ':Snap} (h:StW cf σ hp A β w) (hfr:Fr (fun _=>False) w w') (hg:SGrow (fun _=>False) σ w σ') (hs:Sealed σ' w'):StW cf σ' hp A β w':=by
  have hold:∀ b,b<w.heap.size->w'.heap[b]?=w.heap[b]?:=fun b hb=>hfr.block b hb (fun h=>h)
  have hσ:∀ b,b<w.heap.size->σ b=none->σ' b=none:=by
    intro b hb hn
    cases hb':σ' b with
    | none=>rfl
    | some o =>
      rcases hg.new b (by rw [hb'];simp) with h1 | h1 | h1
      · exact absurd hn h1
      · omega
      · exact h1.elim
  refine ⟨hfr.os.trans h.os,hfr.tape.trans h.tape,hfr.output.trans h.output,Nat.le_trans h.size hfr.size,fun b hb hm=>?_,hs,fun b o hb=>hg.le b o (h.le b o hb),fun b hb=>?_,fun i e cs hi=>?_,fun i cs hi j c hc=>hg.le.cell (h.ro i cs hi j c hc),h.inj,fun i E hE=>?_,h.arrd,h.arrh⟩
  · rw [hold b (Nat.lt_of_lt_of_le hb h.size)];exact h.fr b hb hm
  · rcases hg.new b hb with h1 | h1 | h1
    · exact h.grow b h1
    · exact .inr (.inl (Nat.le_trans h.size h1))
    · exact h1.elim
  · obtain ⟨h1,h2,h3,h4⟩:=h.loc i e cs hi
    have hlt:=(Array.getElem?_eq_some_iff.1 h2).1
    exact ⟨h1,by rw [hold _ hlt];exact h2,hσ _ hlt h3,h4⟩
  · have hE':=h.arr i E hE
    refine ⟨hE'.1,?_⟩
    rcases hE'.2 with h2 | ⟨g,cur,h3,h4,h5,h6,h7,h8,h9,h10⟩
    · exact .inl h2
    · have hlt:=(Array.getElem?_eq_some_iff.1 h4).1
      exact .inr ⟨g,cur,h3,by rw [hold g hlt];exact h4,h5,h6,h7,h8,hσ g hlt h9,h10⟩
def notQuiet:Tag->Bool
  | .quiet | .pure=>false
  | _=>true
theorem oj_call {d:Nat} {f:FuncId} {ys:List SV} {Φ:Value->Snap->Prop} (hc:callee env it.o.op=some (f,ys)) (hd:it.o.dst=some d) (hg:guardVal it.guard env=some true)
    (hN:Nat.blt d cf.N=true) (hq:notQuiet it.tag=true) (hcall:∀ args w,(callFunc f args).run cf.P w=.ok (.enter f args) w) (hlt:∀ y∈ys,y.lt 0)
    (hC:PureC cf.P f (ys.map (SV.den β0)).toArray σ Φ)
    (k:∀ v σ',σ.le σ'->Φ v σ'->∃ y:SV,y.lt 0/\y.den β0=v/\OJ cf rest Q σ' ((d,y)::env) hp A nh):OJ cf (it::rest) Q σ env hp A nh:=by
  refine ⟨fun hb a β ha hex=>?_⟩
  have hN':d<cf.N:=by simpa [Nat.blt_eq] using hN
  have den0:∀ {y:SV},y.lt 0->y.den β=y.den β0:=fun hy=>SV.den_congr (n:=0) (fun i hi=>by omega) hy
  have hargs:(ys.map (SV.den β)).toArray=(ys.map (SV.den β0)).toArray:=by
    rw [List.map_congr_left fun y hy=>den0 (hlt y hy)]
  have hrun:∀ w,StW cf σ hp A β w->∀ (K:Act->World->Prop) (Q':Exit->Act->World->Prop),
      (∀ v w' σ',σ.le σ'->Φ v σ'->StW cf σ' hp A β w'->(∀ x,StW cf σ' hp A β x->StW cf σ hp A β x)->K (a.put it.o.dst v) w')->it.o.wq cf.P a w K Q':=by
    intro w hw K Q' hK
    unfold Oper.wq
    rw [callee_ok ha hc hcall]
    simp only [Oper.uponIn]
    rw [hargs]
    refine ⟨fun h=>(by cases h),CallsIn.mono (callsIn_FR.2 (hC w hw.sealed)) fun e w' ⟨v,σ',he,h1,h2,h3,h4⟩=>?_⟩
    subst he
    refine hK v w' σ' h2.le h4 (hw.after h1 h2 h3) fun x hx=>?_
    have hσ:∀ {b},σ' b=none->σ b=none:=by
      intro b hb
      cases hb':σ b with
      | none=>rfl
      | some o=>rw [h2.le b o hb'] at hb;cases hb
    refine ⟨hx.os,hx.tape,hx.output,hx.size,hx.fr,fun b o hb=>hx.sealed b o (h2.le b o hb),hw.le,hw.grow,fun i e cs hi=>?_,hw.ro,hx.inj,fun i E hE=>?_,hx.arrd,hx.arrh⟩
    · obtain ⟨q1,q2,q3,q4⟩:=hx.loc i e cs hi
      exact ⟨q1,q2,hσ q3,q4⟩
    · obtain ⟨q1,q2⟩:=hx.arr i E hE
      refine ⟨q1,q2.imp id ?_⟩
      rintro ⟨g,cur,h3,h4,h5,h6,h7,h8,h9,h10⟩
      exact ⟨g,cur,h3,h4,h5,h6,h7,h8,hσ h9,h10⟩
  have cont:∀ v σ',σ.le σ'->Φ v σ'->(∃ w,StW cf σ' hp A β w)->RunT cf.P Q rest (fun w=>StW cf σ' hp A β w) (fun w=>StW cf σ' hp A β w) (a.put it.o.dst v):=by
    intro v σ' hle hΦ hex'
    obtain ⟨y,hy,hyv,hk⟩:=k v σ' hle hΦ
    have:=hk.run (hb.put (SV.lt_mono (Nat.zero_le _) hy) d) (a.put (some d) (y.den β)) β (ha.put hN' y) hex'
    rw [hd,<-hyv,<-den0 hy]
    exact this
  simp only [RunT]
  rw [if_pos (guardVal_ok ha hg)]
  cases htag:it.tag with
  | pure=>rw [htag] at hq;cases hq
  | quiet=>rw [htag] at hq;cases hq
  | keep=>exact fun w hw=>hrun w hw _ _ fun v w' σ' hle hΦ hw' hsub=>⟨_,_,hw',fun _ h=>h,hsub,cont v σ' hle hΦ ⟨_,hw'⟩⟩
  | sink=>exact fun w hw=>hrun w hw _ _ fun v w' σ' hle hΦ hw' _=>⟨_,_,hw',fun _ h=>h,cont v σ' hle hΦ ⟨_,hw'⟩⟩
  | free=>exact fun w hw=>hrun w hw _ _ fun v w' σ' hle hΦ hw' _=>⟨_,_,hw',fun _ h=>h,cont v σ' hle hΦ ⟨_,hw'⟩⟩
theorem oj_call_plain {d:Nat} {f:FuncId} {ys:List SV} {Φ:Value->Prop} (hc:callee env it.o.op=some (f,ys)) (hd:it.o.dst=some d) (hg:guardVal it.guard env=some true)
    (hN:Nat.blt d cf.N=true) (hq:notQuiet it.tag=true) (hcall:∀ args w,(callFunc f args).run cf.P w=.ok (.enter f args) w) (hlt:∀ y∈ys,y.lt 0)
    (hC:PureC cf.P f (ys.map (SV.den β0)).toArray σ (fun v _=>Φ v))
    (k:∀ v,Φ v->∃ y:SV,y.lt 0/\y.den β0=v/\OJ cf rest Q σ ((d,y)::env) hp A nh):OJ cf (it::rest) Q σ env hp A nh:=by
  have hC':PureC cf.P f (ys.map (SV.den β0)).toArray σ (fun v σ'=>Φ v/\σ'=σ):=by
    intro w hs
    refine Calls.mono (hC w hs) fun e w' ⟨v,σ',he,h1,h2,h3,h4⟩=>⟨v,σ,he,h1,⟨Snap.le_refl σ,fun b hb=>.inl hb⟩,fun b o hb=>h3 b o (h2.le b o hb),h4,rfl⟩
  refine oj_call hc hd hg hN hq hcall hlt hC' fun v σ' _ ⟨hv,he⟩=>?_
  subst he
  exact k v hv
end
end Go.Sy
/- Slices that are sealed; and reading them. No program in sight. -/
namespace Go.Sy
structure SlAt (σ:Snap) (ao:Option Addr) (n cap sz:Nat) (rows:List (List AT)):Prop where
  len:rows.length=n
  ncap:n<=cap
  clo:∀ r∈rows,r.length=sz/\∀ c∈r,c.lt 0
  at_:n=0\/∃ ad,ao=some ad/\∀ (i:Nat) r (j:Nat) c,rows[i]?=some r->r[j]?=some c->σ.cell (ad.add (i*sz+j))=some (c.den β0)
theorem SlAt.mono {σ σ':Snap} {ao:Option Addr} {n cap sz:Nat} {rows:List (List AT)} (h:SlAt σ ao n cap sz rows) (hle:σ.le σ'):SlAt σ' ao n cap sz rows:=by
  refine ⟨h.len,h.ncap,h.clo,?_⟩
  rcases h.at_ with h0 | ⟨ad,h1,h2⟩
  · exact .inl h0
  · exact .inr ⟨ad,h1,fun i r j c hr hc=>hle.cell (h2 i r j c hr hc)⟩
theorem SlAt.nil (σ:Snap) (ao:Option Addr) (cap sz:Nat):SlAt σ ao 0 cap sz []:=⟨rfl,Nat.zero_le _,fun _ h=>(by cases h),.inl rfl⟩
theorem SlAt.sub {σ:Snap} {ao:Option Addr} {n cap sz:Nat} {rows:List (List AT)} (h:SlAt σ ao n cap sz rows) {l k:Nat} (hlk:l<=k) (hk:k<=n) :
    SlAt σ (if cap=l then ao else ao.map (·.add (l*sz))) (k - l) (cap - l) sz ((rows.take k).drop l):=by
  have hlen:=h.len
  have hn:=h.ncap
  refine ⟨by simp;omega,by omega,fun r hr=>h.clo r (List.mem_of_mem_take (List.mem_of_mem_drop hr)),?_⟩
  by_cases h0:k - l=0
  · exact .inl h0
  · rcases h.at_ with h1 | ⟨ad,rfl,h2⟩
    · omega
    · refine .inr ⟨ad.add (l*sz),by rw [if_neg (by omega)];rfl,fun i r j c hr hc=>?_⟩
      rw [List.getElem?_drop,List.getElem?_take] at hr
      split at hr
      · rw [Addr.add_add]
        have:=h2 (l+i) r j c hr hc
        rw [Nat.add_mul,Nat.add_assoc] at this
        exact this
      · cases hr
section
variable {cf:Cf} {Q:Exit->Act->World->Prop} {σ:Snap} {env:Env} {hp:HP} {A:List AE} {nh:Nat} {it:Item} {rest:List Item}
theorem oj_idx {d:Nat} {x i:Operand} {t:TypeId} {T:List (Nat×TI)} (hT:TTok cf.P T) {ti te:TI} {e:Nat} {ao:Option Addr} {n c:Nat} {k:IntKind} {m:Int} {rows:List (List AT)} {r:List AT}
    (hop:it.o.op=.indexAddr t x i) (hd:it.o.dst=some d)
    (hg:guardVal it.guard env=some true) (hN:Nat.blt d cf.N=true) (hx:evalO env x=some (.a (.v (.slice ao n c)))) (hi:evalO env i=some (.a (.v (.int k m)))) (ht:tget T t=some ti) (hkd:ti.kind=.slice e)
    (hte:tget T e=some te) (H:SlAt σ ao n c te.size rows) (h0:0<=m) (hr:rows[m.toNat]?=some r)
    (hk:OJ cf rest Q σ ((d,.a (.p nh 0))::env) ((nh,.ro,r)::hp) A (nh+1)):OJ cf (it::rest) Q σ env hp A nh:=by
  have hlt:m.toNat<n:=by rw [<-H.len];exact (List.getElem?_eq_some_iff.1 hr).1
  rcases H.at_ with h1 | ⟨ad,rfl,h2⟩
  · omega
  · refine oj_indexAddr hT hop hd hg hN hx hi ht hkd hte ⟨h0,by omega⟩ ?_
    refine oj_row d r (by rw [Env.get_cons,if_pos rfl]) (H.clo r (List.mem_of_getElem? hr)).2 (fun j c hc=>?_) (oj_subE (fun i x hx=>?_) hk)
    rotate_left
    · rw [Env.get_cons] at hx ⊢
      by_cases hdi:d=i
      · rw [if_pos hdi] at hx ⊢;exact hx
      · rw [if_neg hdi] at hx ⊢;rw [Env.get_cons,if_neg hdi];exact hx
    rw [Addr.add_add]
    exact h2 m.toNat r j c hr hc
end
end Go.Sy
/- Slices that the call makes; sealing; calls that change what is handed in. No program in sight. -/
namespace Go.Sy
def AT.val (c:AT):Value:=c.den β0
theorem AT.den_val {c:AT} (h:c.lt 0) (β:Nat->Addr):c.den β=c.val:=AT.den_congr (n:=0) (fun i hi=>by omega) h
section
variable {cf:Cf} {σ:Snap} {hp:HP} {A:List AE} {β:Nat->Addr} {w:World}
theorem set_get {A:List AE} {i j:Nat} {E' F:AE} (h:(A.set i E')[j]?=some F):(i=j/\F=E')\/(i≠j/\A[j]?=some F):=by
  rw [List.getElem?_set] at h
  by_cases hij:i=j
  · rw [if_pos hij] at h
    split at h
    · injection h with h;exact .inl ⟨hij,h.symm⟩
    · cases h
  · rw [if_neg hij] at h;exact .inr ⟨hij,h⟩
theorem StW.setArr (h:StW cf σ hp A β w) {i:Nat} {E E':AE} (hi:A[i]?=some E) {g:Nat} {cur cur':Array Value} (hg:E.ao=some ⟨g,0,none⟩) (hw:w.heap[g]?=some (.cells cur E.e (0,0)))
    (hao:E'.ao=E.ao) (he:E'.e=E.e) (hsz:E'.sz=E.sz) (hcap:E'.cap=E.cap) (hn:E'.n<=E'.cap) (hl:E'.xs.length=E'.n*E'.sz) (hs:cur'.size=E'.cap*E'.sz) (ht:cur'.toList.take (E'.n*E'.sz)=E'.xs) :
    StW cf σ hp (A.set i E') β (w.setRow g cur'):=by
  have hE:=h.arr i E hi
  have hblk:E.blk=some g:=by simp [AE.blk,hg]
  have hblk':E'.blk=some g:=by simp [AE.blk,hao,hg]
  obtain ⟨hlt,hσ,hown⟩:=hE.lt hblk
  have hoth:∀ b,b≠g->(w.setRow g cur').heap[b]?=w.heap[b]?:=fun b hb=>setRow_other w g b _ hb
  have hcm:E.cap<=maxLen:=by
    rcases hE.2 with h2 | ⟨g',c',h3,h4,h5,h6,_⟩
    · rw [h2.1] at hg;cases hg
    · exact h6
  refine ⟨h.os,h.tape,h.output,by have:=h.size;simpa using this,fun b hb hm=>?_,fun b ob hs=>?_,h.le,h.grow,fun j e' l hj=>?_,h.ro,h.inj,fun j F hF=>?_,fun j k F G hF hG hjk=>?_,fun j k F e' l hF hk=>?_⟩
  · rw [hoth b (fun hc=>by subst hc;rcases hown with h4 | h4<;>first | omega | exact hm h4)];exact h.fr b hb hm
  · rw [hoth b (fun hc=>by subst hc;rw [hσ] at hs;cases hs)];exact h.sealed b ob hs
  · obtain ⟨g1,g2,g3⟩:=h.loc j e' l hj
    exact ⟨g1,by rw [hoth _ (fun hc=>h.arrh i j E e' l hi hj (by rw [hc];exact hblk))];exact g2,g3⟩
  · rcases set_get hF with ⟨rfl,rfl⟩ | ⟨hij,hF⟩
    · refine ⟨hl,.inr ⟨g,cur',by rw [hao,hg],?_,hn,by rw [hcap];exact hcm,hs,ht,hσ,hown⟩⟩
      rw [he];exact setRow_heap w g cur _ _ _ hw
    · exact (h.arr j F hF).keep fun q hq=>hoth q fun hc=>h.arrd i j E F hi hF hij g hblk (hc▸hq)
  · intro q hq
    rcases set_get hF with ⟨rfl,rfl⟩ | ⟨hij,hF'⟩<;>rcases set_get hG with ⟨rfl,rfl⟩ | ⟨hik,hG'⟩
    · exact absurd rfl hjk
    · rw [hblk'] at hq;injection hq with hq;subst hq
      exact h.arrd _ _ E G hi hG' hjk _ hblk
    · rw [hblk'];intro hc;injection hc with hc;subst hc
      exact h.arrd _ _ E F hi hF' hij _ hblk hq
    · exact h.arrd _ _ F G hF' hG' hjk q hq
  · rcases set_get hF with ⟨rfl,rfl⟩ | ⟨hij,hF⟩
    · rw [hblk',<-hblk];exact h.arrh _ k E e' l hi hk
    · exact h.arrh j k F e' l hF hk
theorem StW.moveArr (h:StW cf σ hp A β w) {i:Nat} {E E':AE} (_:A[i]?=some E) {cur':Array Value}
    (hao:E'.ao=some ⟨w.heap.size,0,none⟩) (hn:E'.n<=E'.cap) (hcm:E'.cap<=maxLen) (hl:E'.xs.length=E'.n*E'.sz) (hs:cur'.size=E'.cap*E'.sz) (ht:cur'.toList.take (E'.n*E'.sz)=E'.xs) :
    StW cf σ hp (A.set i E') β (w.drew.alloc (.cells cur' E'.e)):=by
  have hblk':E'.blk=some w.heap.size:=by simp [AE.blk,hao]
  have hoth:∀ b,b<w.heap.size->(w.drew.alloc (.cells cur' E'.e)).heap[b]?=w.heap[b]?:=fun b hb=>by
    show (w.heap.push _)[b]?=_;rw [Array.getElem?_push,if_neg (Nat.ne_of_lt hb)]
  have hσ:σ w.heap.size=none:=by
    cases hs:σ w.heap.size with
    | none=>rfl
    | some ob =>
      have:=h.sealed _ _ hs
      have:=(Array.getElem?_eq_some_iff.1 this).1
      omega
  have hsz:w.heap.size<=(w.drew.alloc (.cells cur' E'.e)).heap.size:=by
    show w.heap.size<=(w.heap.push _).size;rw [Array.size_push];omega
  refine ⟨h.os,h.tape,h.output,Nat.le_trans h.size hsz,fun b hb hm=>?_,fun b ob hs=>?_,h.le,h.grow,fun j e' l hj=>?_,h.ro,h.inj,fun j F hF=>?_,fun j k F G hF hG hjk=>?_,fun j k F e' l hF hk=>?_⟩
  · rw [hoth b (Nat.lt_of_lt_of_le hb h.size)];exact h.fr b hb hm
  · have:=h.sealed b ob hs
    rw [hoth b (Array.getElem?_eq_some_iff.1 this).1];exact this
  · obtain ⟨g1,g2,g3⟩:=h.loc j e' l hj
    exact ⟨g1,by rw [hoth _ (Array.getElem?_eq_some_iff.1 g2).1];exact g2,g3⟩
  · rcases set_get hF with ⟨rfl,rfl⟩ | ⟨hij,hF⟩
    · refine ⟨hl,.inr ⟨w.heap.size,cur',hao,?_,hn,hcm,hs,ht,hσ,.inl h.size⟩⟩
      show (w.heap.push _)[w.heap.size]?=_
      rw [Array.getElem?_push,if_pos rfl]
    · exact (h.arr j F hF).keep fun q hq=>hoth q ((h.arr j F hF).lt hq).1
  · intro q hq
    rcases set_get hF with ⟨rfl,rfl⟩ | ⟨hij,hF'⟩<;>rcases set_get hG with ⟨rfl,rfl⟩ | ⟨hik,hG'⟩
    · exact absurd rfl hjk
    · rw [hblk'] at hq;injection hq with hq
      intro hc
      have:=((h.arr _ G hG').lt hc).1
      omega
    · rw [hblk']
      intro hc;injection hc with hc
      have:=((h.arr _ F hF').lt hq).1
      omega
    · exact h.arrd _ _ F G hF' hG' hjk q hq
  · rcases set_get hF with ⟨rfl,rfl⟩ | ⟨hij,hF⟩
    · rw [hblk'];intro hc;injection hc with hc
      have:=(Array.getElem?_eq_some_iff.1 (h.loc k e' l hk).2.1).1
      omega
    · exact h.arrh j k F e' l hF hk
theorem set_same {A:List AE} {i:Nat} {E:AE} (h:A[i]?=some E):A.set i E=A:=by
  apply List.ext_getElem?
  intro j
  rw [List.getElem?_set]
  by_cases hij:i=j
  · subst hij
    rw [if_pos rfl,if_pos (List.getElem?_eq_some_iff.1 h).1,h]
  · rw [if_neg hij]
theorem StW.append (h:StW cf σ hp A β w) {i:Nat} {E:AE} (hi:A[i]?=some E) {t u ty:TypeId} {ie:TypeInfo} {z x:Value} {m:Nat} {news:List Value} {du:TypeDesc}
    (ht:cf.P.underlying t=some (.slice E.e)) (hu:cf.P.underlying u=some du) (hdu:(∃ e',du=.slice e')\/du=.string) (hie:cf.P.info? E.e=some ie) (hz:ie.zero=some z) (hsz:ie.size=E.sz) (hzs:z.cells.size=E.sz)
    (hlen:∀ w',(Builtin.lenOf x).run cf.P w'=.ok m w') (hfc:∀ w':World,w'.heap=w.heap->(Builtin.firstCells E.sz m x).run cf.P w'=.ok news.toArray w') (hnl:news.length=m*E.sz) (h1:∀ v∈news,v.oneCell'=true)
    (hmax:E.n+m<=maxLen) (hbytes:(E.n+m)*ie.bytes<=140737488355328) :
    ∃ ao' cap' w',(Builtin.append_ #[t,u] ty #[.slice E.ao E.n E.cap,x]).run cf.P w=.ok (.slice ao' (E.n+m) cap') w'/\StW cf σ hp (A.set i ⟨ao',E.n+m,cap',E.e,E.sz,E.xs++news⟩) β w'/\E.n+m<=cap':=by
  have hE:=h.arr i E hi
  have hxl:(E.xs++news).length=(E.n+m)*E.sz:=by rw [List.length_append,hE.1,hnl,Nat.add_mul]
  by_cases hroom:E.n+m<=E.cap
  ·
    rcases hE.2 with ⟨e1,e2,e3⟩ | ⟨g,cur,hg,hw,hnc,hcm,hcs,htk,hσ,hown⟩
    · have hm0:m=0:=by omega
      subst hm0
      have hn0:news=[]:=List.eq_nil_of_length_eq_zero (by simpa using hnl)
      subst hn0
      refine ⟨E.ao,E.cap,w,?_,?_,hroom⟩
      · have hf:=hfc w rfl
        rcases hdu with ⟨e',rfl⟩ | rfl<;>simp only [Builtin.append_,List.getElem?_toArray,List.getElem?_cons_zero,List.getElem?_cons_succ,Sem.run_bind,run_underlying ht,Result.andThen_ok,run_size hie,hsz,run_underlying hu,Bool.false_eq_true,if_false,hlen,Nat.add_zero,e1,e2,e3,Nat.le_refl,if_true,Bool.not_false,hf,Sem.run_pure]
      · have:(⟨E.ao,E.n+0,E.cap,E.e,E.sz,E.xs++[]⟩:AE)=E:=by cases E;simp
        rw [this,set_same hi];exact h
    · have hst:=run_storeCells_at cf.P g (E.n*E.sz) E.e news 0 cur w hw (by rw [hcs,hnl,Nat.add_zero,<-Nat.add_mul];exact Nat.mul_le_mul_right _ hroom) h1
      simp only [Nat.add_zero] at hst
      refine ⟨E.ao,E.cap,w.setRow g (cur.toList.take (E.n*E.sz)++news++cur.toList.drop (E.n*E.sz+news.length)).toArray,?_,h.setArr hi hg hw rfl rfl rfl rfl hroom hxl ?_ ?_,hroom⟩
      · have hf:=hfc w rfl
        rcases hdu with ⟨e',rfl⟩ | rfl<;>simp only [Builtin.append_,List.getElem?_toArray,List.getElem?_cons_zero,List.getElem?_cons_succ,Sem.run_bind,run_underlying ht,Result.andThen_ok,run_size hie,hsz,run_underlying hu,Bool.false_eq_true,if_false,hlen,hroom,if_true,Bool.not_false,hf,Sem.run_pure,hg,add0,hst]
      · have e1:E.n*E.sz+news.length<=cur.size:=by rw [hcs,hnl,<-Nat.add_mul];exact Nat.mul_le_mul_right _ hroom
        simp only [List.size_toArray,List.length_append,List.length_take,List.length_drop,Array.length_toList,hcs] at e1 ⊢
        rw [<-hcs] at e1 ⊢
        omega
      · have e1:E.n*E.sz<=cur.size:=by rw [hcs];exact Nat.mul_le_mul_right _ hnc
        simp only [htk]
        rw [<-hxl]
        exact List.take_left
  ·
    have hfits:=growslice_fits (old:=E.cap) (need:=E.n+m) (bytes:=ie.bytes) (by omega) hbytes
    have hge:=grownCap_ge w (E.n+m) E.cap E.e
    have hgm:=grownCap_le_maxLen w (E.n+m) E.cap E.e hmax
    have hold:∀ w':World,w'.heap=w.heap->(Builtin.firstCells E.sz E.n (.slice E.ao E.n E.cap)).run cf.P w'=.ok E.xs.toArray w':=by
      intro w' hh
      rcases hE.2 with ⟨e1,e2,e3⟩ | ⟨g,cur,hg,hw,hnc,hcm,hcs,htk,hσ,hown⟩
      · have:E.xs=[]:=List.eq_nil_of_length_eq_zero (by rw [hE.1,e2];simp)
        rw [e1,this];rfl
      · rw [hg]
        refine run_firstCells_some (P:=cf.P) w' E.sz E.n ⟨g,0,none⟩ E.n E.cap E.xs hE.1 fun j v hv=>?_
        have hw':w'.heap[g]?=some (.cells cur E.e (0,0)):=by rw [hh];exact hw
        rw [add0,cell_of_row w' g j cur E.e (0,0) hw']
        rw [<-htk,List.getElem?_take] at hv
        split at hv
        · simpa using hv
        · cases hv
    have hmi:¬ (9223372036854775807<((E.n+m:Nat):Int)):=by simp only [maxLen] at hmax;omega
    have h48:¬ (281474976710656<Builtin.nextslicecap (E.n+m) E.cap*ie.bytes):=by omega
    refine ⟨some ⟨w.heap.size,0,none⟩,grownCap w (E.n+m) E.cap E.e,w.drew.alloc (.cells (E.xs.toArray++news.toArray++Builtin.zeroCells z.cells (grownCap w (E.n+m) E.cap E.e - (E.n+m))) E.e),?_,?_,hge⟩
    · have hf:=hfc w.drew rfl
      have hfo:=hold w.drew rfl
      have hfo':(Builtin.firstCells E.sz E.n (.slice E.ao E.n E.cap)).run cf.P { w with drawn:=w.drawn+1 }=.ok E.xs.toArray { w with drawn:=w.drawn+1 }:=hfo
      have hf':(Builtin.firstCells E.sz m x).run cf.P { w with drawn:=w.drawn+1 }=.ok news.toArray { w with drawn:=w.drawn+1 }:=hf
      rcases hdu with ⟨e',rfl⟩ | rfl<;>(
       simp only [Builtin.append_,List.getElem?_toArray,List.getElem?_cons_zero,List.getElem?_cons_succ,Sem.run_bind,run_underlying ht,Result.andThen_ok,run_size hie,hsz,run_underlying hu,Bool.false_eq_true,if_false,hlen,hroom,
        run_tinfo hie,Sem.run_pure,Bool.not_false,if_true]
       simp only [IntKind.max_i64,gt_iff_lt,hmi,false_and,if_false,h48,Sem.run_pure,Result.andThen_ok,Sem.run_bind,run_tinfo hie,run_choose,Question.forced,Bool.false_eq_true,run_askRoom]
       simp only [hfo',hf',Result.andThen_ok,run_zero hie hz,newRow,Sem.run_bind,run_newObj,Sem.run_pure]
       rfl)
    · refine h.moveArr hi rfl hge hgm hxl ?_ ?_
      · simp only [Array.size_append,List.size_toArray,size_zeroCells,hzs,hE.1,hnl,<-Nat.add_mul]
        congr 1
        omega
      · simp only [Array.toList_append,List.append_assoc]
        rw [<-List.append_assoc,<-hxl]
        exact List.take_left
end
def canSink:Tag->Bool
  | .free | .sink=>true
  | _=>false
section
variable {cf:Cf} {Q:Exit->Act->World->Prop} {σ:Snap} {env:Env} {hp:HP} {A:List AE} {nh:Nat} {it:Item} {rest:List Item}
theorem oj_step {d:Nat} (hd:it.o.dst=some d) (hg:guardVal it.guard env=some true) (hN:Nat.blt d cf.N=true) (ht:canSink it.tag=true)
    (h:Bd env hp nh->∀ a β,StA cf env β a->∀ w,StW cf σ hp A β w->∃ y σ' hp' A' nh' w' β',(execOp a.eval it.o).run cf.P w=.ok (.value (SV.den β' y)) w'/\StA cf env β' a/\Bd ((d,y)::env) hp' nh'/\StW cf σ' hp' A' β' w' /\
      OJ cf rest Q σ' ((d,y)::env) hp' A' nh'):OJ cf (it::rest) Q σ env hp A nh:=by
  refine ⟨fun hb a β ha hex=>?_⟩
  have hN':d<cf.N:=by simpa [Nat.blt_eq] using hN
  have key:∀ w,StW cf σ hp A β w->∀ Q',it.o.wq cf.P a w (fun a' w'=>∃ E' S':World->Prop,S' w'/\(∀ x,S' x->E' x)/\RunT cf.P Q rest E' S' a') Q':=by
    intro w hw Q'
    obtain ⟨y,σ',hp',A',nh',w',β',hrun,ha',hb',hw',hj⟩:=h hb a β ha w hw
    unfold Oper.wq
    rw [hrun]
    refine ⟨_,_,hw',fun _ h=>h,?_⟩
    rw [hd]
    exact hj.run hb' _ β' (ha'.put hN' y) ⟨_,hw'⟩
  simp only [RunT]
  rw [if_pos (guardVal_ok ha hg)]
  cases htag:it.tag with
  | pure=>rw [htag] at ht;cases ht
  | quiet=>rw [htag] at ht;cases ht
  | keep=>rw [htag] at ht;cases ht
  | sink=>exact fun w hw=>key w hw _
  | free=>exact fun w hw=>key w hw _
def appendOf:Op->Option (Operand×Operand×TypeId×TypeId)
  | .call c =>
    match c.callee,c.args.toList,c.argTypes.toList with
    | .builtin .append,[s,x],[t,u]=>some (s,x,t,u)
    | _,_,_=>none
  | _=>none
theorem appendOf_run {o:Oper} {s x:Operand} {t u:TypeId} (h:appendOf o.op=some (s,x,t,u)) {P:Program} {a:Act} {w w':World} {v:Value}
    (hr:(Builtin.append_ #[t,u] o.type #[a.eval s,a.eval x]).run P w=.ok v w'):(execOp a.eval o).run P w=.ok (.value v) w':=by
  unfold appendOf at h
  split at h
  · rename_i c hop
    split at h
    · rename_i s' x' t' u' hcal hargs htys
      injection h with h
      simp only [Prod.mk.injEq] at h
      obtain ⟨rfl,rfl,rfl,rfl⟩:=h
      have e1:c.args=#[s',x']:=by
        cases hq:c.args with
        | mk l=>rw [hq] at hargs;simp only at hargs;rw [hargs]
      have e2:c.argTypes=#[t',u']:=by
        cases hq:c.argTypes with
        | mk l=>rw [hq] at htys;simp only at htys;rw [htys]
      simp only [execOp,hop,resolve,hcal,e1,e2,invoke,builtin,Sem.run_bind,Sem.run_pure,Result.andThen_ok,List.map_toArray,List.map_cons,List.map_nil,hr]
    · cases h
  · cases h
def slOrStr:TK->Bool
  | .slice _=>true
  | .str=>true
  | _=>false
theorem slOrStr_ok {d:TypeDesc} (h:slOrStr (kindD d)=true):(∃ e',d=.slice e')\/d=.string:=by
  cases d<;>first | exact .inl ⟨_,rfl⟩ | exact .inr rfl | cases h
theorem oj_append_lit {d:Nat} {s x:Operand} {t u e:Nat} {T:List (Nat×TI)} (hT:TTok cf.P T) {ti tu te:TI} (i:Nat) {E:AE} {ao:Option Addr} {n cap j m:Nat} {k:HK} {cs:List AT}
    (hop:appendOf it.o.op=some (s,x,t,u)) (hd:it.o.dst=some d) (hg:guardVal it.guard env=some true) (hN:Nat.blt d cf.N=true) (htg:canSink it.tag=true)
    (hs:evalO env s=some (.a (.v (.slice ao n cap)))) (hx:evalO env x=some (.a (.sl j m))) (hrow:hp.get j=some (k,cs)) (hA:A[i]?=some E) (hE:(E.ao,E.n,E.cap,E.e)=(ao,n,cap,e))
    (ht:tget T t=some ti) (hkt:ti.kind=.slice e) (hu:tget T u=some tu) (hku:slOrStr tu.kind=true) (hte:tget T e=some te) (hsz:E.sz=te.size) (hzl:te.zero.length=te.size) (hcs:cs.length=m*te.size)
    (hclo:∀ c∈cs,c.lt 0) (hone:cs.all AT.one=true) (hmax:n+m<=9223372036854775807) (hby:(n+m)*te.bytes<=140737488355328)
    (hk:∀ ao' cap',n+m<=cap'->OJ cf rest Q σ ((d,.a (.v (.slice ao' (n+m) cap')))::env) hp (A.set i ⟨ao',n+m,cap',E.e,E.sz,E.xs++cs.map AT.val⟩) nh):OJ cf (it::rest) Q σ env hp A nh:=by
  simp only [Prod.mk.injEq] at hE
  obtain ⟨rfl,rfl,rfl,rfl⟩:=hE
  refine oj_step hd hg hN htg fun hb a β ha w hw=>?_
  obtain ⟨i1,d1,z1,hs1⟩:=tiOf_spec (hT _ _ ht)
  obtain ⟨i2,d2,z2,hs2⟩:=tiOf_spec (hT _ _ hu)
  obtain ⟨i3,d3,z3,hs3⟩:=tiOf_spec (hT _ _ hte)
  have hut:cf.P.underlying t=some (.slice E.e):=by
    have h1:=hs1.kind
    rw [hkt] at h1
    have h2:=hs1.und
    cases d1<;>first
      | (simp only [kindD,TK.slice.injEq] at h1;subst h1;exact h2)
      | (simp only [kindD] at h1;cases h1)
  have hz3:z3.cells.size=E.sz:=by
    have:=zero_den hs3 β
    rw [<-this,hsz]
    simp [hzl]
  have hcells:∀ j' v,(cs.map AT.val)[j']?=some v->w.cell? ((β j).add j')=some v:=by
    intro j' v hv
    rw [List.getElem?_map] at hv
    obtain ⟨c,hc,rfl⟩:=map_some hv
    rw [<-AT.den_val (hclo c (List.mem_of_getElem? hc)) β]
    exact hw.cell hrow hc
  have hnl:(cs.map AT.val).length=m*E.sz:=by rw [List.length_map,hcs,hsz]
  have hxe:a.eval x=.slice (some (β j)) m m:=evalO_eval ha hx
  have hse:a.eval s=.slice E.ao E.n E.cap:=evalO_eval ha hs
  obtain ⟨ao',cap',w',hrun,hw',hc'⟩:=hw.append hA (t:=t) (u:=u) (ty:=it.o.type) (x:=.slice (some (β j)) m m) (m:=m) (news:=cs.map AT.val) hut hs2.und (slOrStr_ok (by rw [hs2.kind];exact hku)) hs3.info hs3.zero
    (by rw [hs3.size,hsz]) hz3 (fun _=>rfl) (fun w'' hh=>run_firstCells_some (P:=cf.P) w'' E.sz m (β j) m m _ hnl fun j' v hv=>by
      have:=hcells j' v hv
      rw [World.cell?,hh];exact this) hnl
    (fun v hv=>by obtain ⟨c,hc,rfl⟩:=List.mem_map.1 hv;exact AT.one_den β0 (List.all_eq_true.1 hone c hc)) (by simp only [maxLen];exact hmax) (by rw [hs3.bytes];exact hby)
  refine ⟨.a (.v (.slice ao' (E.n+m) cap')),σ,hp,_,nh,w',β,?_,ha,hb.put (x:=.a (.v (.slice ao' (E.n+m) cap'))) trivial d,hw',hk ao' cap' hc'⟩
  exact appendOf_run hop (by rw [hse,hxe];exact hrun)
theorem oj_append_sl {d:Nat} {s x:Operand} {t u e:Nat} {T:List (Nat×TI)} (hT:TTok cf.P T) {ti tu te:TI} (i:Nat) {E:AE} {ao:Option Addr} {n cap:Nat} {xo:Option Addr} {m xc:Nat} {rows:List (List AT)}
    (hop:appendOf it.o.op=some (s,x,t,u)) (hd:it.o.dst=some d) (hg:guardVal it.guard env=some true) (hN:Nat.blt d cf.N=true) (htg:canSink it.tag=true)
    (hs:evalO env s=some (.a (.v (.slice ao n cap)))) (hx:evalO env x=some (.a (.v (.slice xo m xc)))) (H:SlAt σ xo m xc te.size rows) (hA:A[i]?=some E) (hE:(E.ao,E.n,E.cap,E.e)=(ao,n,cap,e))
    (ht:tget T t=some ti) (hkt:ti.kind=.slice e) (hu:tget T u=some tu) (hku:slOrStr tu.kind=true) (hte:tget T e=some te) (hsz:E.sz=te.size) (hzl:te.zero.length=te.size)
    (hone:∀ r∈rows,r.all AT.one=true) (hmax:n+m<=9223372036854775807) (hby:(n+m)*te.bytes<=140737488355328)
    (hk:∀ ao' cap',n+m<=cap'->OJ cf rest Q σ ((d,.a (.v (.slice ao' (n+m) cap')))::env) hp (A.set i ⟨ao',n+m,cap',E.e,E.sz,E.xs++rows.flatten.map AT.val⟩) nh):OJ cf (it::rest) Q σ env hp A nh:=by
  simp only [Prod.mk.injEq] at hE
  obtain ⟨rfl,rfl,rfl,rfl⟩:=hE
  refine oj_step hd hg hN htg fun hb a β ha w hw=>?_
  obtain ⟨i1,d1,z1,hs1⟩:=tiOf_spec (hT _ _ ht)
  obtain ⟨i2,d2,z2,hs2⟩:=tiOf_spec (hT _ _ hu)
  obtain ⟨i3,d3,z3,hs3⟩:=tiOf_spec (hT _ _ hte)
  have hut:cf.P.underlying t=some (.slice E.e):=by
    have h1:=hs1.kind
    rw [hkt] at h1
    have h2:=hs1.und
    cases d1<;>first
      | (simp only [kindD,TK.slice.injEq] at h1;subst h1;exact h2)
      | (simp only [kindD] at h1;cases h1)
  have hz3:z3.cells.size=E.sz:=by
    have:=zero_den hs3 β
    rw [<-this,hsz]
    simp [hzl]
  have hlenf:∀ (l:List (List AT)),(∀ r∈l,r.length=te.size)->l.flatten.length=l.length*te.size:=by
    intro l hl
    induction l with
    | nil=>simp
    | cons r l ih=>simp [hl r (List.mem_cons_self ..),ih fun q hq=>hl q (List.mem_cons_of_mem _ hq),Nat.add_mul];omega
  have hnl:(rows.flatten.map AT.val).length=m*E.sz:=by
    rw [List.length_map,hlenf rows fun r hr=>(H.clo r hr).1,H.len,hsz]
  have hget:∀ (l:List (List AT)),(∀ r∈l,r.length=te.size)->∀ q c,l.flatten[q]?=some c->∃ i r j,l[i]?=some r/\r[j]?=some c/\q=i*te.size+j:=by
    intro l hl
    induction l with
    | nil=>intro q c hq;simp at hq
    | cons r l ih =>
      intro q c hq
      have hr:=hl r (List.mem_cons_self ..)
      rw [List.flatten_cons] at hq
      by_cases hlt:q<te.size
      · rw [List.getElem?_append_left (by omega)] at hq
        exact ⟨0,r,q,rfl,hq,by omega⟩
      · rw [List.getElem?_append_right (by omega)] at hq
        obtain ⟨i,r',j,h1,h2,h3⟩:=ih (fun q hq=>hl q (List.mem_cons_of_mem _ hq)) _ c hq
        exact ⟨i+1,r',j,by simpa using h1,h2,by rw [Nat.add_mul];omega⟩
  have hxe:a.eval x=.slice xo m xc:=evalO_eval ha hx
  have hse:a.eval s=.slice E.ao E.n E.cap:=evalO_eval ha hs
  have hfc:∀ w'':World,w''.heap=w.heap->(Builtin.firstCells E.sz m (.slice xo m xc)).run cf.P w''=.ok (rows.flatten.map AT.val).toArray w'':=by
    intro w'' hh
    rcases H.at_ with h0 | ⟨ad,rfl,h2⟩
    · subst h0
      have hr0:rows=[]:=List.eq_nil_of_length_eq_zero H.len
      subst hr0
      cases xo with
      | none=>rfl
      | some ad=>simp [Builtin.firstCells,loadCells,loadCellsFrom]
    · refine run_firstCells_some (P:=cf.P) w'' E.sz m ad m xc _ hnl fun q v hv=>?_
      rw [List.getElem?_map] at hv
      obtain ⟨c,hc,rfl⟩:=map_some hv
      obtain ⟨i,r,j,h3,h4,rfl⟩:=hget rows (fun r hr=>(H.clo r hr).1) q c hc
      have:=Snap.cell_sealed hw (h2 i r j c h3 h4)
      rw [World.cell?,hh];exact this
  obtain ⟨ao',cap',w',hrun,hw',hc'⟩:=hw.append hA (t:=t) (u:=u) (ty:=it.o.type) (x:=.slice xo m xc) (m:=m) (news:=rows.flatten.map AT.val) hut hs2.und (slOrStr_ok (by rw [hs2.kind];exact hku)) hs3.info hs3.zero
    (by rw [hs3.size,hsz]) hz3 (fun _=>rfl) hfc hnl
    (fun v hv=>by
      obtain ⟨c,hc,rfl⟩:=List.mem_map.1 hv
      obtain ⟨r,hr,hcr⟩:=List.mem_flatten.1 hc
      exact AT.one_den β0 (List.all_eq_true.1 (hone r hr) c hcr)) (by simp only [maxLen];exact hmax) (by rw [hs3.bytes];exact hby)
  refine ⟨.a (.v (.slice ao' (E.n+m) cap')),σ,hp,_,nh,w',β,?_,ha,hb.put (x:=.a (.v (.slice ao' (E.n+m) cap'))) trivial d,hw',hk ao' cap' hc'⟩
  exact appendOf_run hop (by rw [hse,hxe];exact hrun)
theorem StW.nilArr {β:Nat->Addr} {w:World} (e sz:Nat):StW cf σ hp A β w↔StW cf σ hp (A++[⟨none,0,0,e,sz,[]⟩]) β w:=by
  have hget:∀ {i:Nat} {E:AE},(A++[(⟨none,0,0,e,sz,[]⟩:AE)])[i]?=some E->A[i]?=some E\/E=⟨none,0,0,e,sz,[]⟩:=by
    intro i E hi
    by_cases hlt:i<A.length
    · rw [List.getElem?_append_left hlt] at hi;exact .inl hi
    · rw [List.getElem?_append_right (by omega)] at hi
      have:=List.mem_of_getElem? hi
      exact .inr (by simpa using this)
  have hget':∀ {i:Nat} {E:AE},A[i]?=some E->(A++[(⟨none,0,0,e,sz,[]⟩:AE)])[i]?=some E:=by
    intro i E hi
    rw [List.getElem?_append_left (List.getElem?_eq_some_iff.1 hi).1];exact hi
  constructor
  · intro h
    refine ⟨h.os,h.tape,h.output,h.size,h.fr,h.sealed,h.le,h.grow,h.loc,h.ro,h.inj,fun i E hE=>?_,fun i j E F hE hF hij g hg=>?_,fun i j E e' l hE hj=>?_⟩
    · rcases hget hE with h1 | rfl
      · exact h.arr i E h1
      · exact ⟨by simp,.inl ⟨rfl,rfl,rfl⟩⟩
    · rcases hget hE with h1 | rfl
      · rcases hget hF with h2 | rfl
        · exact h.arrd i j E F h1 h2 hij g hg
        · simp [AE.blk]
      · simp [AE.blk] at hg
    · rcases hget hE with h1 | rfl
      · exact h.arrh i j E e' l h1 hj
      · simp [AE.blk]
  · intro h
    exact ⟨h.os,h.tape,h.output,h.size,h.fr,h.sealed,h.le,h.grow,h.loc,h.ro,h.inj,fun i E hE=>h.arr i E (hget' hE),fun i j E F hE hF=>h.arrd i j E F (hget' hE) (hget' hF),
      fun i j E e' l hE=>h.arrh i j E e' l (hget' hE)⟩
theorem oj_nilarr {l:List Item} (e sz:Nat) (h:OJ cf l Q σ env hp (A++[⟨none,0,0,e,sz,[]⟩]) nh):OJ cf l Q σ env hp A nh:=by
  refine ⟨fun hb a β ha hex=>?_⟩
  have e1:(fun w=>StW cf σ hp A β w)=fun w=>StW cf σ hp (A++[⟨none,0,0,e,sz,[]⟩]) β w:=by funext w;exact propext (StW.nilArr e sz)
  rw [e1]
  obtain ⟨w,hw⟩:=hex
  exact h.run hb a β ha ⟨w,(StW.nilArr e sz).1 hw⟩
theorem cj_nilarr {c:Code} (e sz:Nat) (h:CJ cf c Q σ env hp (A++[⟨none,0,0,e,sz,[]⟩]) nh):CJ cf c Q σ env hp A nh :=
  ⟨fun hb a β w ha hw=>h.run hb a β w ha ((StW.nilArr e sz).1 hw)⟩
def ArrSealed (σ:Snap) (E:AE):Prop:=(E.ao=none/\E.n=0)\/∃ g,E.ao=some ⟨g,0,none⟩/\∀ (j:Nat) x,E.xs[j]?=some x->σ.cell ⟨g,j,none⟩=some x
theorem StW.sealArr {β:Nat->Addr} {w:World} (h:StW cf σ hp A β w) {i:Nat} {E:AE} (hi:A[i]?=some E) :
    ∃ σ',σ.le σ'/\ArrSealed σ' E/\StW cf σ' hp (A.eraseIdx i) β w:=by
  have hE:=h.arr i E hi
  have hget:∀ {j:Nat} {F:AE},(A.eraseIdx i)[j]?=some F->∃ k,k≠i/\A[k]?=some F:=by
    intro j F hj
    rw [List.getElem?_eraseIdx] at hj
    split at hj
    · exact ⟨j,by omega,hj⟩
    · exact ⟨j+1,by omega,hj⟩
  have hgetd:∀ {j k:Nat} {F G:AE},(A.eraseIdx i)[j]?=some F->(A.eraseIdx i)[k]?=some G->j≠k->∃ p q:Nat,p≠q/\A[p]?=some F/\A[q]?=some G:=by
    intro j k F G hj hk hjk
    rw [List.getElem?_eraseIdx] at hj hk
    split at hj<;>split at hk
    · exact ⟨j,k,hjk,hj,hk⟩
    · exact ⟨j,k+1,by omega,hj,hk⟩
    · exact ⟨j+1,k,by omega,hj,hk⟩
    · exact ⟨j+1,k+1,by omega,hj,hk⟩
  rcases hE.2 with ⟨e1,e2,e3⟩ | ⟨g,cur,hg,hw,hnc,hcm,hcs,htk,hσ,hown⟩
  · refine ⟨σ,Snap.le_refl σ,.inl ⟨e1,e2⟩,h.os,h.tape,h.output,h.size,h.fr,h.sealed,h.le,h.grow,h.loc,h.ro,h.inj,fun j F hF=>?_,fun j k F G hF hG hjk=>?_,fun j k F e' l hF hk=>?_⟩
    · obtain ⟨q,_,hq⟩:=hget hF;exact h.arr q F hq
    · obtain ⟨p,q,hpq,hp',hq'⟩:=hgetd hF hG hjk;exact h.arrd p q F G hp' hq' hpq
    · obtain ⟨q,_,hq⟩:=hget hF;exact h.arrh q k F e' l hq hk
  · have hblk:E.blk=some g:=by simp [AE.blk,hg]
    let σ':Snap:=fun b=>if b=g then some (.cells cur E.e (0,0)) else σ b
    have hle:σ.le σ':=by
      intro b o hb
      simp only [σ']
      rw [if_neg (fun hc=>by subst hc;rw [hσ] at hb;cases hb)];exact hb
    have hne:∀ b,b≠g->σ' b=σ b:=fun b hb=>by simp only [σ'];rw [if_neg hb]
    refine ⟨σ',hle,.inr ⟨g,hg,fun j x hx=>?_⟩,h.os,h.tape,h.output,h.size,h.fr,fun b o hb=>?_,fun b o hb=>hle b o (h.le b o hb),fun b hb=>?_,fun j e' l hj=>?_,fun j l hj q c hc=>hle.cell (h.ro j l hj q c hc),h.inj,fun j F hF=>?_,fun j k F G hF hG hjk=>?_,fun j k F e' l hF hk=>?_⟩
    · simp only [Snap.cell,σ',if_true]
      rw [<-htk,List.getElem?_take] at hx
      split at hx
      · simpa using hx
      · cases hx
    · by_cases hbg:b=g
      · subst hbg
        simp only [σ',if_true] at hb
        injection hb with hb
        rw [<-hb];exact hw
      · rw [hne b hbg] at hb;exact h.sealed b o hb
    · by_cases hbg:b=g
      · subst hbg;exact .inr hown
      · rw [hne b hbg] at hb;exact h.grow b hb
    · obtain ⟨g1,g2,g3,g4⟩:=h.loc j e' l hj
      exact ⟨g1,g2,by rw [hne _ (fun hc=>h.arrh i j E e' l hi hj (by rw [hc];exact hblk))];exact g3,g4⟩
    · obtain ⟨q,hqi,hq⟩:=hget hF
      obtain ⟨q1,q2⟩:=h.arr q F hq
      refine ⟨q1,q2.imp id ?_⟩
      rintro ⟨g',cur',r1,r2,r3,r4,r5,r6,r7,r8⟩
      refine ⟨g',cur',r1,r2,r3,r4,r5,r6,?_,r8⟩
      rw [hne g' (fun hc=>h.arrd i q E F hi hq (fun e=>hqi e.symm) g hblk (by simp [AE.blk,r1,hc]))];exact r7
    · obtain ⟨p,q,hpq,hp',hq'⟩:=hgetd hF hG hjk;exact h.arrd p q F G hp' hq' hpq
    · obtain ⟨q,_,hq⟩:=hget hF;exact h.arrh q k F e' l hq hk
theorem cj_seal {c:Code} (i:Nat) {E:AE} {A':List AE} (hi:A[i]?=some E) (hA:A.eraseIdx i=A') (h:∀ σ',σ.le σ'->ArrSealed σ' E->CJ cf c Q σ' env hp A' nh):CJ cf c Q σ env hp A nh:=by
  subst hA
  refine ⟨fun hb a β w ha hw=>?_⟩
  obtain ⟨σ',h1,h2,h3⟩:=hw.sealArr hi
  exact (h σ' h1 h2).run hb a β w ha h3
theorem nj_seal {e:Exit} (i:Nat) {E:AE} {A':List AE} (hi:A[i]?=some E) (hA:A.eraseIdx i=A') (h:∀ σ',σ.le σ'->ArrSealed σ' E->NJ cf e Q σ' env hp A' nh):NJ cf e Q σ env hp A nh:=by
  subst hA
  refine ⟨fun hb a β w ha hw=>?_⟩
  obtain ⟨σ',h1,h2,h3⟩:=hw.sealArr hi
  exact (h σ' h1 h2).run hb a β w ha h3
def allFree:List Item->Bool
  | []=>true
  | it::l=>(match it.tag with | .free=>true | _=>false)&&allFree l
theorem run_by_world {P:Program}:∀ (l:List Item) (E S:World->Prop) (a:Act),allFree l=true->(∀ w,S w->∃ E' S':World->Prop,S' w/\RunT P Q l E' S' a)->RunT P Q l E S a
  | [],_,_,_,_,h=>fun w hS=>by obtain ⟨_,S',h1,h2⟩:=h w hS;exact h2 w h1
  | it::l,E,S,a,hf,h=>by
    simp only [allFree,Bool.and_eq_true] at hf
    simp only [RunT]
    cases htag:it.tag with
    | free =>
      by_cases hw:wantedS it.guard a=true
      · rw [if_pos hw]
        intro w hS
        obtain ⟨E',S',h1,h2⟩:=h w hS
        simp only [RunT,if_pos hw,htag] at h2
        exact h2 w h1
      · rw [if_neg hw]
        refine run_by_world l E S _ hf.2 fun w hS=>?_
        obtain ⟨E',S',h1,h2⟩:=h w hS
        simp only [RunT,if_neg hw] at h2
        exact ⟨E',S',h1,h2⟩
    | _=>rw [htag] at hf;cases hf.1
theorem oj_seal {l:List Item} (i:Nat) {E:AE} {A':List AE} (hf:allFree l=true) (hi:A[i]?=some E) (hA:A.eraseIdx i=A') (h:∀ σ',σ.le σ'->ArrSealed σ' E->OJ cf l Q σ' env hp A' nh):OJ cf l Q σ env hp A nh:=by
  subst hA
  refine ⟨fun hb a β ha _=>run_by_world l _ _ a hf fun w hw=>?_⟩
  obtain ⟨σ',h1,h2,h3⟩:=hw.sealArr hi
  exact ⟨_,_,h3,(h σ' h1 h2).run hb a β ha ⟨w,h3⟩⟩
end
end Go.Sy
