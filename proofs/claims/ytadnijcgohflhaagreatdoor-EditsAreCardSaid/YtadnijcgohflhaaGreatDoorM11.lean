/- Parts of the proof of CEditsAre: SyX, F55, F57, F74, F75, F76, Ls, Lt, Lu, F27. No conditions. -/
import Derived.Test.YtadnijcgohflhaaGreatDoorM10
/- What 'slices.Delete' does with a call's own array: a piece moved to the front, the rest cleared. No program in sight. -/
namespace Go.Sy
section
variable {cf:Cf} {Q:Exit->Act->World->Prop} {σ:Snap} {env:Env} {hp:HP} {A:List AE} {nh:Nat} {it:Item} {rest:List Item}
theorem run_sliceBounds3 {len cap l h m:Nat} {k1 k2 k3:IntKind} (hl:l<=h) (hh:h<=m) (hm:m<=cap) (P:Program) (w:World) :
    (Instr.sliceBounds true len cap (some (.int k1 (l:Int))) (some (.int k2 (h:Int))) (some (.int k3 (m:Int)))).run P w=.ok (l,h,m) w:=by
  simp [Instr.sliceBounds,Instr.sliceBound,asIntOf,hh,hl,hm]
theorem oj_slice3 {d:Nat} {x lo hi mx:Operand} {k1 k2 k3:IntKind} {i1 i2 i3:Int} {t e:TypeId} {T:List (Nat×TI)} (hT:TTok cf.P T) {ti te:TI} {ao:Option Addr} {n cap:Nat} (l h m:Nat) (hop:it.o.op=.slice t x (some lo) (some hi) (some mx)) (hd:it.o.dst=some d)
    (hg:guardVal it.guard env=some true) (hN:Nat.blt d cf.N=true) (hx:evalO env x=some (.a (.v (.slice ao n cap)))) (hlo:evalO env lo=some (.a (.v (.int k1 i1)))) (hhi:evalO env hi=some (.a (.v (.int k2 i2)))) (hmx:evalO env mx=some (.a (.v (.int k3 i3))))
    (ht:tget T t=some ti) (hkd:ti.kind=.slice e) (hte:tget T e=some te) (e1:i1=(l:Int)) (e2:i2=(h:Int)) (e3:i3=(m:Int)) (hlh:l<=h) (hhm:h<=m) (hmc:m<=cap)
    (k:OJ cf rest Q σ ((d,.a (.v (.slice (if m=l then ao else ao.map (·.add (l*te.size))) (h - l) (m - l))))::env) hp A nh):OJ cf (it::rest) Q σ env hp A nh:=by
  subst e1 e2 e3
  refine oj_val _ hd hg hN (by trivial) (fun _ a β ha w=>?_) k
  obtain ⟨i2,d2,z2,hs2⟩:=tiOf_spec (hT _ _ ht)
  obtain ⟨i3,d3,z3,hs3⟩:=tiOf_spec (hT _ _ hte)
  have h1:=hs2.kind
  have hun:cf.P.underlying t=some (.slice e):=by
    rw [hkd] at h1
    have h2:=hs2.und
    cases d2<;>first
      | (simp only [kindD,TK.slice.injEq] at h1;subst h1;exact h2)
      | (simp only [kindD] at h1;cases h1)
  have h2:a.eval x=.slice ao n cap:=evalO_eval ha hx
  have h3:a.eval lo=.int k1 (l:Int):=evalO_eval ha hlo
  have h4:a.eval hi=.int k2 (h:Int):=evalO_eval ha hhi
  have h5:a.eval mx=.int k3 (m:Int):=evalO_eval ha hmx
  simp only [execOp,hop,h2,h3,h4,h5,Option.map_some,Instr.sliceAt,Instr.slice,Sem.run_bind,run_underlying hun,Result.andThen_ok,run_sliceBounds3 hlh hhm hmc,run_size hs3.info,hs3.size,Sem.run_pure]
  rfl
theorem oj_append_own {d:Nat} {s x:Operand} {t u e:Nat} {T:List (Nat×TI)} (hT:TTok cf.P T) {ti tu te:TI} (i:Nat) {E:AE} {g:Nat} {xo:Option Addr} {xc:Nat} (p q:Nat)
    (hop:appendOf it.o.op=some (s,x,t,u)) (hd:it.o.dst=some d) (hg:guardVal it.guard env=some true) (hN:Nat.blt d cf.N=true) (htg:canSink it.tag=true)
    (hs:evalO env s=some (.a (.v (.slice (some ⟨g,0,none⟩) p E.cap)))) (hx:evalO env x=some (.a (.v (.slice xo (E.n - q) xc)))) (hA:A[i]?=some E) (hE:E.ao=some ⟨g,0,none⟩) (hEe:E.e=e)
    (hpq:p<=q) (hqn:q<=E.n) (hxo:q=E.n\/xo=some ⟨g,q*te.size,none⟩) (hxs:xo.isSome=true)
    (ht:tget T t=some ti) (hkt:ti.kind=.slice e) (hu:tget T u=some tu) (hku:slOrStr tu.kind=true) (hte:tget T e=some te) (hsz:E.sz=te.size)
    (hone:∀ v∈E.xs,v.oneCell'=true)
    (hk:OJ cf rest Q σ ((d,.a (.v (.slice (some ⟨g,0,none⟩) (p+(E.n - q)) E.cap)))::env) hp (A.set i ⟨E.ao,p+(E.n - q),E.cap,E.e,E.sz,E.xs.take (p*E.sz)++E.xs.drop (q*E.sz)⟩) nh):OJ cf (it::rest) Q σ env hp A nh:=by
  subst hEe
  refine oj_step hd hg hN htg fun hb a β ha w hw=>?_
  obtain ⟨i1,d1,z1,hs1⟩:=tiOf_spec (hT _ _ ht)
  obtain ⟨i2,d2,z2,hs2⟩:=tiOf_spec (hT _ _ hu)
  obtain ⟨i3,d3,z3,hs3⟩:=tiOf_spec (hT _ _ hte)
  have hut:cf.P.underlying t=some (.slice E.e):=by
    have h1:=hs1.kind
    rw [hkt] at h1
    have h2:=hs1.und
    cases d1<;>first
      | (simp only [kindD,TK.slice.injEq] at h1;subst h1;exact h2)
      | (simp only [kindD] at h1;cases h1)
  have hxe:a.eval x=.slice xo (E.n - q) xc:=evalO_eval ha hx
  have hse:a.eval s=.slice (some ⟨g,0,none⟩) p E.cap:=evalO_eval ha hs
  have hE0:=hw.arr i E hA
  obtain ⟨xa,rfl⟩:∃ xa,xo=some xa:=by cases xo with | none=>cases hxs | some xa=>exact ⟨xa,rfl⟩
  rcases hE0.2 with h1 | ⟨g',cur,h3,hrow,hnc,hcm,hcs,htk,hσ,hown⟩
  · rw [h1.1] at hE;cases hE
  rw [hE] at h3
  injection h3 with h3
  simp only [Addr.mk.injEq,and_true] at h3
  subst h3
  have hxl:E.xs.length=E.n*E.sz:=hE0.1
  have hqs:q*E.sz<=E.n*E.sz:=Nat.mul_le_mul_right _ hqn
  have hps:p*E.sz<=q*E.sz:=Nat.mul_le_mul_right _ hpq
  have hncs:E.n*E.sz<=E.cap*E.sz:=Nat.mul_le_mul_right _ hnc
  have hdl:(E.xs.drop (q*E.sz)).length=(E.n - q)*E.sz:=by rw [List.length_drop,hxl,Nat.sub_mul]
  have hroom:p+(E.n - q)<=E.cap:=by omega
  have hfc:(Builtin.firstCells E.sz (E.n - q) (.slice (some xa) (E.n - q) xc)).run cf.P w=.ok (E.xs.drop (q*E.sz)).toArray w:=by
    refine run_firstCells_some (P:=cf.P) w E.sz (E.n - q) xa (E.n - q) xc _ hdl fun j v hv=>?_
    have hj:=(List.getElem?_eq_some_iff.1 hv).1
    rcases hxo with hq | hq
    · rw [hdl,hq,Nat.sub_self,Nat.zero_mul] at hj
      omega
    · injection hq with hq
      subst hq
      rw [List.getElem?_drop] at hv
      have:=hE0.cell hE hv
      rw [hsz] at this
      rw [Addr.add_lit]
      exact this
  have hm:(E.n - q)*E.sz=E.n*E.sz - q*E.sz:=Nat.sub_mul _ _ _
  have hpm:(p+(E.n - q))*E.sz=p*E.sz+(E.n - q)*E.sz:=Nat.add_mul _ _ _
  have hst:=run_storeCells_at cf.P g (p*E.sz) E.e (E.xs.drop (q*E.sz)) 0 cur w hrow (by rw [hdl,hcs];omega) (fun v hv=>hone v (List.mem_of_mem_drop hv))
  simp only [Nat.add_zero] at hst
  have hcl:cur.toList.length=E.cap*E.sz:=by rw [Array.length_toList,hcs]
  refine ⟨.a (.v (.slice (some ⟨g,0,none⟩) (p+(E.n - q)) E.cap)),σ,hp,_,nh,_,β,?_,ha,hb.put (x:=.a (.v (.slice (some ⟨g,0,none⟩) (p+(E.n - q)) E.cap))) trivial d,
    hw.setArr (E':=⟨E.ao,p+(E.n - q),E.cap,E.e,E.sz,E.xs.take (p*E.sz)++E.xs.drop (q*E.sz)⟩) (cur':=(cur.toList.take (p*E.sz)++E.xs.drop (q*E.sz)++cur.toList.drop (p*E.sz+(E.xs.drop (q*E.sz)).length)).toArray) hA hE hrow rfl rfl rfl rfl hroom ?_ ?_ ?_,hk⟩
  · refine appendOf_run hop ?_
    rw [hse,hxe]
    have hlen:∀ w',(Builtin.lenOf (.slice (some xa) (E.n - q) xc)).run cf.P w'=.ok (E.n - q) w':=fun _=>rfl
    rcases slOrStr_ok (d:=d2) (by rw [hs2.kind];exact hku) with ⟨e',rfl⟩ | rfl<;>(
      simp only [Builtin.append_,List.getElem?_toArray,List.getElem?_cons_zero,List.getElem?_cons_succ,Sem.run_bind,run_underlying hut,Result.andThen_ok,run_size hs3.info,hs3.size,<-hsz,run_underlying hs2.und,Bool.false_eq_true,if_false,hlen,hroom,if_true,Bool.not_false,hfc,Sem.run_pure,add0,hst]
      rfl)
  · dsimp only
    rw [List.length_append,hdl,List.length_take,hxl,Nat.min_eq_left (by omega),hpm]
  · dsimp only
    simp only [List.size_toArray,List.length_append,List.length_take,List.length_drop,hcl,hxl]
    omega
  · dsimp only
    rw [hpm,<-hdl]
    have e1:cur.toList.take (p*E.sz)=E.xs.take (p*E.sz):=by
      rw [<-htk,List.take_take,Nat.min_eq_left (by omega)]
    rw [e1]
    have e2:p*E.sz+(E.xs.drop (q*E.sz)).length=(E.xs.take (p*E.sz)++E.xs.drop (q*E.sz)).length:=by
      rw [List.length_append,List.length_take,hxl,Nat.min_eq_left (by omega)]
    rw [e2]
    exact List.take_left
def clearOf:Op->Option (Operand×TypeId)
  | .call c =>
    match c.callee,c.args.toList,c.argTypes.toList with
    | .builtin .clear,[x],[t]=>some (x,t)
    | _,_,_=>none
  | _=>none
theorem clearOf_run {o:Oper} {x:Operand} {t:TypeId} (h:clearOf o.op=some (x,t)) {P:Program} {a:Act} {w w':World} {v:Value}
    (hr:(Builtin.clear_ #[t] o.type #[a.eval x]).run P w=.ok v w'):(execOp a.eval o).run P w=.ok (.value v) w':=by
  unfold clearOf at h
  split at h
  · rename_i c hop
    split at h
    · rename_i x' t' hcal hargs htys
      injection h with h
      simp only [Prod.mk.injEq] at h
      obtain ⟨rfl,rfl⟩:=h
      have e1:c.args=#[x']:=by
        cases hq:c.args with
        | mk l=>rw [hq] at hargs;simp only at hargs;rw [hargs]
      have e2:c.argTypes=#[t']:=by
        cases hq:c.argTypes with
        | mk l=>rw [hq] at htys;simp only at htys;rw [htys]
      simp only [execOp,hop,resolve,hcal,e1,e2,invoke,builtin,Sem.run_bind,Sem.run_pure,Result.andThen_ok,List.map_toArray,List.map_cons,List.map_nil,hr]
    · cases h
  · cases h
theorem mem_zeroCells {z:Array Value} {n:Nat} {v:Value} (h:v∈(Builtin.zeroCells z n).toList):v∈z.toList:=by
  unfold Builtin.zeroCells at h
  rw [Array.toList_map,List.mem_map] at h
  obtain ⟨i,hi,rfl⟩:=h
  rw [Array.mem_toList_iff,Array.mem_range] at hi
  have hz:0<z.size:=by
    rcases Nat.eq_zero_or_pos z.size with h0 | h0
    · rw [h0,Nat.mul_zero] at hi;omega
    · exact h0
  have hlt:=Nat.mod_lt i hz
  rw [getElem!_pos z (i % z.size) hlt]
  exact Array.mem_toList_iff.2 (Array.getElem_mem hlt)
theorem oj_clear_tail {x:Operand} {t e:Nat} {T:List (Nat×TI)} (hT:TTok cf.P T) {ti te:TI} (i:Nat) {E:AE} {g:Nat} {xo:Option Addr} {m xc:Nat} (q:Nat)
    (hop:clearOf it.o.op=some (x,t)) (hd:it.o.dst=none) (hg:guardVal it.guard env=some true) (htg:canSink it.tag=true)
    (hx:evalO env x=some (.a (.v (.slice xo m xc)))) (hA:A[i]?=some E) (hE:E.ao=some ⟨g,0,none⟩) (hEe:E.e=e) (hq:E.n<=q) (hqm:q+m<=E.cap) (hxo:m=0\/xo=some ⟨g,q*te.size,none⟩)
    (ht:tget T t=some ti) (hkt:ti.kind=.slice e) (hte:tget T e=some te) (hsz:E.sz=te.size) (hzl:te.zero.length=te.size) (hzo:te.zero.all AT.one=true)
    (k:OJ cf rest Q σ env hp A nh):OJ cf (it::rest) Q σ env hp A nh:=by
  subst hEe
  refine ⟨fun hb a β ha hex=>?_⟩
  have key:∀ w,StW cf σ hp A β w->∀ Q',it.o.wq cf.P a w (fun a' w'=>∃ E' S':World->Prop,S' w'/\(∀ x,S' x->E' x)/\RunT cf.P Q rest E' S' a') Q':=by
    intro w hw Q'
    obtain ⟨i1,d1,z1,hs1⟩:=tiOf_spec (hT _ _ ht)
    obtain ⟨i3,d3,z3,hs3⟩:=tiOf_spec (hT _ _ hte)
    have hut:cf.P.underlying t=some (.slice E.e):=by
      have h1:=hs1.kind
      rw [hkt] at h1
      have h2:=hs1.und
      cases d1<;>first
        | (simp only [kindD,TK.slice.injEq] at h1;subst h1;exact h2)
        | (simp only [kindD] at h1;cases h1)
    have hxe:a.eval x=.slice xo m xc:=evalO_eval ha hx
    have hE0:=hw.arr i E hA
    rcases hE0.2 with h1 | ⟨g',cur,h3,hrow,hnc,hcm,hcs,htk,hσ,hown⟩
    · rw [h1.1] at hE;cases hE
    rw [hE] at h3
    injection h3 with h3
    simp only [Addr.mk.injEq,and_true] at h3
    subst h3
    rcases Nat.eq_zero_or_pos m with hm0 | hmp
    · subst hm0
      have hrun:(execOp a.eval it.o).run cf.P w=.ok (.value (.tuple #[])) w:=by
        refine clearOf_run hop ?_
        rw [hxe]
        cases xo<;>simp only [Builtin.clear_,List.getElem?_toArray,List.getElem?_cons_zero,Sem.run_bind,run_underlying hut,Result.andThen_ok,Sem.run_pure]
      unfold Oper.wq
      rw [hrun]
      refine ⟨_,_,hw,fun _ h=>h,?_⟩
      rw [hd]
      exact k.run hb a β ha ⟨_,hw⟩
    · have hxo:=hxo.resolve_left (by omega)
      subst hxo
      have hz3:z3.cells.size=E.sz:=by
        have:=zero_den hs3 β
        rw [<-this,hsz]
        simp [hzl]
      have hzone:∀ v∈z3.cells.toList,v.oneCell'=true:=fun v hv=>by
        have:=zero_den hs3 β
        rw [<-this] at hv
        simp only [List.mem_map] at hv
        obtain ⟨c,hc,rfl⟩:=hv
        exact AT.one_den β (List.all_eq_true.1 hzo c hc)
      have hzs:(Builtin.zeroCells z3.cells m).toList.length=m*E.sz:=by rw [Array.length_toList,size_zeroCells,hz3]
      have hle:q*E.sz+m*E.sz<=E.cap*E.sz:=by rw [<-Nat.add_mul];exact Nat.mul_le_mul_right _ hqm
      have hnq:E.n*E.sz<=q*E.sz:=Nat.mul_le_mul_right _ hq
      have hst:=run_storeCells_at cf.P g (q*E.sz) E.e (Builtin.zeroCells z3.cells m).toList 0 cur w hrow (by rw [hzs,hcs];omega) (fun v hv=>hzone v (mem_zeroCells hv))
      simp only [Nat.add_zero] at hst
      have hcl:cur.toList.length=E.cap*E.sz:=by rw [Array.length_toList,hcs]
      have hrun:(execOp a.eval it.o).run cf.P w=.ok (.value (.tuple #[])) (w.setRow g (cur.toList.take (q*E.sz)++(Builtin.zeroCells z3.cells m).toList++cur.toList.drop (q*E.sz+(Builtin.zeroCells z3.cells m).toList.length)).toArray):=by
        refine clearOf_run hop ?_
        rw [hxe]
        obtain ⟨m',rfl⟩:∃ m',m=m'+1:=⟨m - 1,by omega⟩
        rw [<-hsz]
        simp only [Builtin.clear_,List.getElem?_toArray,List.getElem?_cons_zero,Sem.run_bind,run_underlying hut,Result.andThen_ok,run_zero hs3.info hs3.zero,hst,Sem.run_pure]
      unfold Oper.wq
      rw [hrun]
      have hxl:E.xs.length=E.n*E.sz:=hE0.1
      have hw':=hw.setArr (E':=E) (cur':=(cur.toList.take (q*E.sz)++(Builtin.zeroCells z3.cells m).toList++cur.toList.drop (q*E.sz+(Builtin.zeroCells z3.cells m).toList.length)).toArray) hA hE hrow rfl rfl rfl rfl hnc hxl
        (by
          simp only [List.size_toArray,List.length_append,List.length_take,List.length_drop,hcl,hzs]
          omega)
        (by
          dsimp only
          rw [List.append_assoc,List.take_append_of_le_length (by rw [List.length_take,hcl];omega),List.take_take,Nat.min_eq_left hnq,htk])
      rw [set_same hA] at hw'
      refine ⟨_,_,hw',fun _ h=>h,?_⟩
      rw [hd]
      exact k.run hb a β ha ⟨_,hw'⟩
  simp only [RunT]
  rw [if_pos (guardVal_ok ha hg)]
  cases htag':it.tag with
  | pure=>rw [htag'] at htg;cases htg
  | quiet=>rw [htag'] at htg;cases htg
  | keep=>rw [htag'] at htg;cases htg
  | sink=>exact fun w hw=>key w hw _
  | free=>exact fun w hw=>key w hw _
end
end Go.Sy
namespace Go.Sy
open Go.Proofs
set_option maxRecDepth 100000 in
set_option maxHeartbeats 1000000 in
theorem DeleteRec_c (σ:Snap) (rows:List (List AT)) (hrow:∀ r∈rows,r.length=11/\r.all AT.one=true) (hl:rows.length<=1000000) (bo:Option Addr) (bc:Nat) (hbc:rows.length<=bc) (i j:Nat) (hij:i<j) (hj:j<=rows.length) :
    FnS Tryz.prog 75 [.a (.v (.slice bo rows.length bc)),.a (.v (.int .i64 i)),.a (.v (.int .i64 j))] σ [⟨bo,rows.length,bc,130,11,rows.flatten.map AT.val⟩] (fun v _ A'=>v=.slice bo (i+(rows.length - j)) bc/\A'=[⟨bo,i+(rows.length - j),bc,130,11,(rows.take i++rows.drop j).flatten.map AT.val⟩]):=by
  have hone:∀ v∈rows.flatten.map AT.val,v.oneCell'=true:=fun v hv=>by
    obtain ⟨c,hc,rfl⟩:=List.mem_map.1 hv
    obtain ⟨r,hr,hc⟩:=List.mem_flatten.1 hc
    exact AT.one_den β0 (List.all_eq_true.1 (hrow r hr).2 c hc)
  have hfl:∀ (l:List (List AT)) (k:Nat),(∀ r∈l,r.length=11)->l.flatten.take (k*11)=(l.take k).flatten/\l.flatten.drop (k*11)=(l.drop k).flatten:=fun l=>by
    induction l with
    | nil=>intro k _;simp
    | cons r l ih =>
      intro k hr
      cases k with
      | zero=>simp
      | succ k =>
        have h1:=ih k fun q hq=>hr q (List.mem_cons_of_mem _ hq)
        have h2:=hr r List.mem_cons_self
        rw [List.flatten_cons,List.take_succ_cons,List.drop_succ_cons,List.flatten_cons,List.take_append,List.drop_append,h2,show (k+1)*11 - 11=k*11 by omega,h1.1,h1.2,List.take_of_length_le (by omega),List.drop_of_length_le (by omega)]
        exact ⟨rfl,rfl⟩
  have hxs:(rows.flatten.map AT.val).take (i*11)++(rows.flatten.map AT.val).drop (j*11)=(rows.take i++rows.drop j).flatten.map AT.val:=by
    rw [<-List.map_take,<-List.map_drop,(hfl rows i fun r hr=>(hrow r hr).1).1,(hfl rows j fun r hr=>(hrow r hr).1).2,<-List.map_append,List.flatten_append]
  refine enter_f Tryz.func75 rfl rfl (by (repeat' (first | exact trivial | constructor))) fun w=>?_
  (repeat (first | refine cj_seq ?_ | refine cjr TT rfl ?_ | refine oj_then ?_))
  refine oj_arrAt 0 (E:=⟨bo,rows.length,bc,130,11,rows.flatten.map AT.val⟩) rfl (by show 0<rows.length;omega) fun g1 hg1=>?_
  have hg1:bo=some ⟨g1,0,none⟩:=hg1
  subst hg1
  refine oj_slice3 TT i j rows.length rfl rfl rfl rfl rfl rfl rfl rfl rfl rfl rfl rfl rfl rfl (by omega) hj hbc (oj_run TT rfl ?_)
  (repeat (first | refine cj_seq ?_ | refine cjr TT rfl ?_ | refine oj_then ?_))
  refine cj_if rfl (fun h=>?_) (fun h=>?_)
  · have:=of_decide_eq_true h
    omega
  (repeat (first | refine cj_seq ?_ | refine cjr TT rfl ?_ | refine oj_then ?_ | refine cj_skip ?_ | refine nj_then ?_))
  refine cj_draw [(0,.pure),(1,.pure),(2,.pure),(3,.pure),(4,.pure),(5,.pure),(6,.sink),(7,.pure)] mixed (by kernel_rfl) (oj_run TT rfl ?_)
  refine oj_slice_to TT i rfl rfl rfl rfl rfl rfl rfl rfl rfl rfl (by omega) hbc (oj_run TT rfl ?_)
  refine oj_slice TT j rows.length rfl rfl rfl rfl rfl rfl rfl rfl rfl rfl (.inr ⟨_,_,rfl,rfl⟩) (.inl ⟨rfl,rfl⟩) hj hbc hbc (oj_run TT rfl ?_)
  refine oj_append_own TT 0 (E:=⟨some ⟨g1,0,none⟩,rows.length,bc,130,11,rows.flatten.map AT.val⟩) i j rfl rfl rfl rfl rfl rfl rfl rfl rfl rfl (by omega) hj (by
      by_cases hjn:j=rows.length
      · exact .inl hjn
      · right
        rw [if_neg (by omega)]
        show some (Addr.add ⟨g1,0,none⟩ (j*11))=_
        rw [add0]) (by split<;>rfl) rfl rfl rfl rfl rfl rfl hone ?_
  refine oj_run TT rfl ?_
  rw [show (⟨some ⟨g1,0,none⟩,rows.length,bc,130,11,rows.flatten.map AT.val⟩:AE).xs.take (i*11)++(⟨some ⟨g1,0,none⟩,rows.length,bc,130,11,rows.flatten.map AT.val⟩:AE).xs.drop (j*11)=(rows.take i++rows.drop j).flatten.map AT.val from hxs]
  dsimp only
  (repeat (first | refine cj_seq ?_ | refine cjr TT rfl ?_ | refine oj_then ?_))
  refine oj_slice TT (i+(rows.length - j)) rows.length rfl rfl rfl rfl rfl rfl rfl rfl rfl rfl (.inr ⟨_,_,rfl,rfl⟩) (.inr ⟨_,_,rfl,rfl⟩) (by omega) hbc (by omega) (oj_run TT rfl ?_)
  refine oj_clear_tail TT 0 (E:=⟨some ⟨g1,0,none⟩,i+(rows.length - j),bc,130,11,(rows.take i++rows.drop j).flatten.map AT.val⟩) (i+(rows.length - j)) rfl rfl rfl rfl rfl rfl rfl rfl (Nat.le_refl _) (by show _+_<=bc;omega) (by
      right
      rw [if_neg (by omega)]
      show some (Addr.add ⟨g1,0,none⟩ ((i+(rows.length - j))*11))=_
      rw [add0]) rfl rfl rfl rfl rfl rfl (oj_run TT rfl ?_)
  (repeat (first | refine cj_seq ?_ | refine cjr TT rfl ?_ | refine oj_then ?_ | refine cj_ret ?_))
  refine nj_fret TT rfl fun β w' _ _=>?_
  exact ⟨rfl,rfl⟩
set_option maxRecDepth 100000 in
set_option maxHeartbeats 1000000 in
theorem Delete12_c (σ:Snap) (L:List GRec) (S:SndL L) (ao:Option Addr) (cap:Nat) (H:SlAt σ ao L.length cap 11 (recRows L)) (i:Int) :
    PureS Tryz.prog 19 [.a (.v (.slice ao L.length cap)),.a (.v (.int .i64 i))] σ (fun v σ'=>∃ bo bc,v=.tuple #[.slice bo (deleteG L i).1.length bc,.int .i64 (deleteG L i).2]/\SlAt σ' bo (deleteG L i).1.length bc 11 (recRows (deleteG L i).1)):=by
  have hdg:deleteG L i=if placeE L i≠0 then ([],placeE L i) else if i=0 then ([],6) else (L.take i.toNat++L.drop (lastG L i.toNat+1).toNat,0):=rfl
  refine enter_s Tryz.func19 rfl rfl (by (repeat' (first | exact trivial | constructor))) fun w=>?_
  (repeat (first | refine cj_seq ?_ | refine cjr TT rfl ?_ | refine oj_then ?_))
  refine oj_callP rfl rfl rfl rfl rfl Tryz.call58 (by (repeat' (first | exact trivial | constructor))) (place12_c σ L S.ok ao cap H i) fun v hv=>⟨.a (.v (.int .i64 (placeE L i))),trivial,hv.symm,?_⟩
  refine oj_run TT rfl ?_
  (repeat (first | refine cj_seq ?_ | refine cjr TT rfl ?_ | refine oj_then ?_))
  refine cj_if rfl (fun h=>?_) (fun h=>?_)
  · have h:placeE L i≠0:=by simpa using h
    rw [if_pos h] at hdg
    rw [hdg]
    (repeat (first | refine cj_seq ?_ | refine cjr TT rfl ?_ | refine oj_then ?_ | refine cj_ret ?_ | refine nj_then_ret ?_))
    refine nj_ret TT rfl fun β w' _ _=>?_
    exact ⟨none,0,rfl,SlAt.nil _ _ _ _⟩
  have h:placeE L i=0:=by simpa using h
  rw [if_neg (by simp [h])] at hdg
  obtain ⟨hs,hi0,hil⟩:=place_ok h
  (repeat (first | refine cj_seq ?_ | refine cjr TT rfl ?_ | refine oj_then ?_ | refine cj_skip ?_ | refine nj_then ?_))
  refine cj_if rfl (fun h1=>?_) (fun h1=>?_)
  · rw [if_pos (of_decide_eq_true h1)] at hdg
    rw [hdg]
    (repeat (first | refine cj_seq ?_ | refine cjr TT rfl ?_ | refine oj_then ?_ | refine cj_ret ?_ | refine nj_then_ret ?_))
    refine nj_ret TT rfl fun β w' _ _=>?_
    exact ⟨none,0,rfl,SlAt.nil _ _ _ _⟩
  rw [if_neg (of_decide_eq_false h1)] at hdg
  obtain ⟨i,rfl⟩:∃ j:Nat,i=j:=⟨i.toNat,by omega⟩
  rw [Int.toNat_natCast] at hdg
  have hi:i<L.length:=by omega
  have hlb:=lastG_bd L i hi
  have hSL:=S.len
  have hla:=Last_c σ L S.ok ao cap H i hi hs
  obtain ⟨j,hj⟩:∃ j:Nat,lastG L i+1=j:=⟨(lastG L i+1).toNat,by omega⟩
  rw [hj,Int.toNat_natCast] at hdg
  (repeat (first | refine cj_seq ?_ | refine cjr TT rfl ?_ | refine cj_skip ?_ | refine nj_then ?_))
  refine oj_callF [] (A0:=[]) (Ar:=[]) rfl rfl rfl rfl rfl rfl rfl Tryz.call76 (by (repeat' (first | exact trivial | constructor))) (CloneRec_c σ L (by omega) (by omega) ao cap H) fun v σ1 A1 hle1 ⟨bo,bc,hv,hbc,hA⟩=>⟨.a (.v (.slice bo L.length bc)),trivial,hv.symm,?_⟩
  subst hA
  refine oj_run TT rfl ?_
  refine oj_callP rfl rfl rfl rfl rfl Tryz.call77 (by (repeat' (first | exact trivial | constructor))) (Last_c σ1 L S.ok ao cap (H.mono hle1) i hi hs) fun v hv=>⟨.a (.v (.int .i64 (lastG L i))),trivial,hv.symm,?_⟩
  refine oj_run TT rfl ?_
  refine oj_add rfl rfl rfl rfl rfl rfl (by omega) (oj_run TT rfl ?_)
  rw [hj]
  refine oj_run TT rfl ?_
  have hrl:=recRows_len L
  have hdel:=DeleteRec_c σ1 (recRows L) (fun r hr=>⟨(recRows_all L r hr).1,(recRows_all L r hr).2.2⟩) (by omega) bo bc (by omega) i j (by omega) (by omega)
  rw [hrl] at hdel
  refine oj_callF [0] (A0:=[rE bo L.length bc L]) (Ar:=[]) rfl rfl rfl rfl rfl rfl rfl Tryz.call75 (by (repeat' (first | exact trivial | constructor))) hdel fun v σ2 A2 hle2 ⟨hv,hA⟩=>⟨.a (.v (.slice bo (i+(L.length - j)) bc)),trivial,hv.symm,?_⟩
  subst hA
  refine oj_run TT rfl ?_
  (repeat (first | refine oj_then ?_ | refine cj_ret ?_))
  refine nj_seal 0 rfl rfl fun σ3 hle3 hS=>?_
  refine nj_ret TT rfl fun β w' _ _=>?_
  have hrr:(recRows L).take i++(recRows L).drop j=recRows (L.take i++L.drop j):=by
    rw [recRows_append]
    unfold recRows
    rw [List.map_take,List.map_drop]
  have hll:(L.take i++L.drop j).length=i+(L.length - j):=by
    rw [List.length_append,List.length_take,List.length_drop]
    omega
  rw [hrr] at hS
  have hS:ArrSealed σ3 (rE bo (i+(L.length - j)) bc (L.take i++L.drop j)):=hS
  rw [<-hll] at hS
  rw [hdg]
  refine ⟨bo,bc,?_,rE_sealed (l:=L.take i++L.drop j) (cap:=bc) hS (by omega)⟩
  rw [hll]
  rfl
end Go.Sy
namespace Go.Sy
open Go.Proofs
theorem run_partA {P:Program} {w:World} {t:TypeId} {xs:Array Value} {o n:Nat} {d:TypeDesc} (hu:P.underlying t=some d) (hd:aggD d=true) (hn:P.cellsOf t=n):(part t xs o).run P w=.ok (.agg (xs.extract o (o+n))) w:=by
  simp only [part,Sem.run_bind,run_isAgg hu,hd,Result.andThen_ok,if_true,run_sizeB hn hu,Sem.run_pure]
def recVals (r:GRec):Array Value:=#[.int .i64 r.st,.int .i64 r.en,.int .i64 r.lv,.int .i64 r.kd,.bool r.nm,.string r.name,.bool r.b,.bool r.n.neg,.string r.n.dg,.int .i64 r.n.ex,.string r.s]
section
variable {cf:Cf} {Q:Exit->Act->World->Prop} {σ:Snap} {env:Env} {hp:HP} {A:List AE} {nh:Nat} {it:Item} {rest:List Item}
end
end Go.Sy
namespace Go.Sy
open Go.Proofs
theorem und132:Tryz.prog.underlying 131=some (.struct (Tryz.prog.fieldsOf 131)):=by kernel_rfl
theorem eqRec2_ok (m:Nat) (a b:GRec) (w:World):(Op.equalIn (m+1+1+1) 131 (.agg (recVals a)) (.agg (recVals b))).run Tryz.prog w=.ok (decide (a=b)) w:=by
  rw [run_equalIn_agg w (m+1+1) 131 _ _ und132 (by kernel_rfl)]
  have h:fieldsAre (Tryz.prog.fieldsOf 131).toList [(3,0),(3,1),(3,2),(3,3),(4,4),(9,5),(4,6),(24,7),(9,10)]=true:=by kernel_rfl
  generalize (Tryz.prog.fieldsOf 131).toList=fl at h
  obtain ⟨f0,fl,rfl,n0,t0,o0,h⟩:=fieldsAre_cons h
  obtain ⟨f1,fl,rfl,n1,t1,o1,h⟩:=fieldsAre_cons h
  obtain ⟨f2,fl,rfl,n2,t2,o2,h⟩:=fieldsAre_cons h
  obtain ⟨f3,fl,rfl,n3,t3,o3,h⟩:=fieldsAre_cons h
  obtain ⟨f4,fl,rfl,n4,t4,o4,h⟩:=fieldsAre_cons h
  obtain ⟨f5,fl,rfl,n5,t5,o5,h⟩:=fieldsAre_cons h
  obtain ⟨f6,fl,rfl,n6,t6,o6,h⟩:=fieldsAre_cons h
  obtain ⟨f7,fl,rfl,n7,t7,o7,h⟩:=fieldsAre_cons h
  obtain ⟨f8,fl,rfl,n8,t8,o8,h⟩:=fieldsAre_cons h
  cases fl with
  | cons _ _=>cases h
  | nil =>
    have ii:∀ (f:Field) (o:Nat) (r:GRec) (x:Int),f.type=3->f.offset=o->(recVals r)[o]?=some (.int .i64 x)->(part f.type (recVals r) f.offset).run Tryz.prog w=.ok (.int .i64 x) w:=fun f o r x ht ho hx=>run_part1 (by rw [ht];exact und3) rfl (by rw [ho];exact hx)
    have bb:∀ (f:Field) (o:Nat) (r:GRec) (x:Bool),f.type=4->f.offset=o->(recVals r)[o]?=some (.bool x)->(part f.type (recVals r) f.offset).run Tryz.prog w=.ok (.bool x) w:=fun f o r x ht ho hx=>run_part1 (by rw [ht];exact und4) rfl (by rw [ho];exact hx)
    have ss:∀ (f:Field) (o:Nat) (r:GRec) (x:ByteArray),f.type=9->f.offset=o->(recVals r)[o]?=some (.string x)->(part f.type (recVals r) f.offset).run Tryz.prog w=.ok (.string x) w:=fun f o r x ht ho hx=>run_part1 (by rw [ht];exact und9) rfl (by rw [ho];exact hx)
    have dd:∀ (r:GRec),(part f7.type (recVals r) f7.offset).run Tryz.prog w=.ok (.agg #[.bool r.n.neg,.string r.n.dg,.int .i64 r.n.ex]) w:=fun r=>by
      rw [run_partA (n:=3) (by rw [t7];exact und23) rfl (by rw [t7];kernel_rfl),o7]
      rfl
    rw [eqFields_cons (r:=a.st == b.st) n0 (ii f0 0 a _ t0 o0 rfl) (ii f0 0 b _ t0 o0 rfl) (run_equalIn_int w (m+1) f0.type .i64 .i64 a.st b.st (by rw [t0];exact und3))]
    rw [eqFields_cons (r:=a.en == b.en) n1 (ii f1 1 a _ t1 o1 rfl) (ii f1 1 b _ t1 o1 rfl) (run_equalIn_int w (m+1) f1.type .i64 .i64 a.en b.en (by rw [t1];exact und3))]
    rw [eqFields_cons (r:=a.lv == b.lv) n2 (ii f2 2 a _ t2 o2 rfl) (ii f2 2 b _ t2 o2 rfl) (run_equalIn_int w (m+1) f2.type .i64 .i64 a.lv b.lv (by rw [t2];exact und3))]
    rw [eqFields_cons (r:=a.kd == b.kd) n3 (ii f3 3 a _ t3 o3 rfl) (ii f3 3 b _ t3 o3 rfl) (run_equalIn_int w (m+1) f3.type .i64 .i64 a.kd b.kd (by rw [t3];exact und3))]
    rw [eqFields_cons (r:=a.nm == b.nm) n4 (bb f4 4 a _ t4 o4 rfl) (bb f4 4 b _ t4 o4 rfl) (run_equalIn_bool' w (m+1) f4.type a.nm b.nm (by rw [t4];exact und4))]
    rw [eqFields_cons (r:=decide (a.name=b.name)) n5 (ss f5 5 a _ t5 o5 rfl) (ss f5 5 b _ t5 o5 rfl) (run_eqStr (m+1) f5.type a.name b.name (by rw [t5];exact und9))]
    rw [eqFields_cons (r:=a.b == b.b) n6 (bb f6 6 a _ t6 o6 rfl) (bb f6 6 b _ t6 o6 rfl) (run_equalIn_bool' w (m+1) f6.type a.b b.b (by rw [t6];exact und4))]
    rw [eqFields_cons (r:=decide (a.n=b.n)) n7 (dd a) (dd b) (by rw [t7];exact eqDec_ok m a.n b.n w)]
    rw [eqFields_cons (r:=decide (a.s=b.s)) n8 (ss f8 10 a _ t8 o8 rfl) (ss f8 10 b _ t8 o8 rfl) (run_eqStr (m+1) f8.type a.s b.s (by rw [t8];exact und9))]
    simp only [Op.eqFields,Sem.run_pure]
    have:(decide (a=b))=(a.st == b.st&&(a.en == b.en&&(a.lv == b.lv&&(a.kd == b.kd&&(a.nm == b.nm&&(decide (a.name=b.name)&&(a.b == b.b&&(decide (a.n=b.n)&&decide (a.s=b.s))))))))):=by
      rw [Bool.eq_iff_iff]
      cases a;cases b
      simp
    rw [this]
    cases (a.st == b.st)<;>cases (a.en == b.en)<;>cases (a.lv == b.lv)<;>cases (a.kd == b.kd)<;>cases (a.nm == b.nm)<;>cases decide (a.name=b.name)<;>cases (a.b == b.b)<;>cases decide (a.n=b.n)<;>cases decide (a.s=b.s)<;>rfl
section
variable {cf:Cf} {Q:Exit->Act->World->Prop} {σ:Snap} {env:Env} {hp:HP} {A:List AE} {nh:Nat} {it:Item} {rest:List Item}
theorem oj_neRec2 {d:Nat} {x y:Operand} {yt:TypeId} (a b:GRec) (hP:cf.P=Tryz.prog)
    (hop:it.o.op=.binOp .neq 131 x y yt) (hd:it.o.dst=some d) (hg:guardVal it.guard env=some true) (hN:Nat.blt d cf.N=true) (hx:evalO env x=some (.agg (recCells a))) (hy:evalO env y=some (.agg (recCells b)))
    (hk:OJ cf rest Q σ ((d,.a (.b (!decide (a=b))))::env) hp A nh):OJ cf (it::rest) Q σ env hp A nh:=by
  refine oj_val (.a (.b (!decide (a=b)))) hd hg hN trivial (fun _ ac β ha w=>?_) hk
  have h1:ac.eval x=.agg (recVals a):=evalO_eval ha hx
  have h2:ac.eval y=.agg (recVals b):=evalO_eval ha hy
  rw [hP]
  have hG:(eqGuard .neq 131 x y (.agg (recVals a)) (.agg (recVals b))).run Tryz.prog w=.ok () w:=run_eqGuard_agg w _ _ _ _ _ _ (by kernel_rfl)
  have hE:(Op.equalIn 10000 131 (.agg (recVals a)) (.agg (recVals b))).run Tryz.prog w=.ok (decide (a=b)) w:=eqRec2_ok 9997 a b w
  have hB:(binOp .neq 131 (.agg (recVals a)) (.agg (recVals b))).run Tryz.prog w=.ok (.bool (!decide (a=b))) w:=by
    rw [run_neq_struct,hE]
    rfl
  simp only [execOp,hop,h1,h2,Sem.run_bind,hG,hB,Result.andThen_ok,Sem.run_pure]
  rfl
end
def sameRec:List GRec->List GRec->Bool
  | [],[]=>true
  | x::a,y::b=>decide (x=y)&&sameRec a b
  | _,_=>false
theorem sameRec_len:∀ {a b:List GRec},a.length≠b.length->sameRec a b=false
  | [],[],h=>absurd rfl h
  | _::a,_::b,h=>by rw [sameRec,sameRec_len (a:=a) (b:=b) (by simpa using h),Bool.and_false]
  | [],_::_,_=>rfl
  | _::_,[],_=>rfl
theorem sameRec_refl:∀ a:List GRec,sameRec a a=true
  | []=>rfl
  | x::a=>by rw [sameRec,sameRec_refl a];simp
set_option maxRecDepth 100000 in
set_option maxHeartbeats 1000000 in
theorem Same_c (σ:Snap) (xs ys:List GRec) (hl:xs.length<=140737488355328) (ao bo:Option Addr) (ac bc:Nat) (HA:SlAt σ ao xs.length ac 11 (recRows xs)) (HB:SlAt σ bo ys.length bc 11 (recRows ys)) :
    PlainS Tryz.prog 17 [.a (.v (.slice ao xs.length ac)),.a (.v (.slice bo ys.length bc))] σ (fun v=>v=.bool (sameRec xs ys)):=by
  refine enter_p Tryz.func17 rfl rfl (by (repeat' (first | exact trivial | constructor))) fun w=>?_
  (repeat (first | refine cj_seq ?_ | refine cjr TT rfl ?_ | refine oj_then ?_))
  refine cj_if rfl (fun h=>?_) (fun h=>?_)
  · have h:¬ (xs.length:Int)=ys.length:=by simpa using h
    rw [sameRec_len (by omega)]
    (repeat (first | refine cj_seq ?_ | refine cjr TT rfl ?_ | refine oj_then ?_ | refine cj_ret ?_ | refine nj_then_ret ?_))
    refine nj_ret TT rfl fun β w' _ _=>?_
    rfl
  have hlen:xs.length=ys.length:=by
    have h:(xs.length:Int)=ys.length:=by simpa using h
    omega
  (repeat (first | refine cj_seq ?_ | refine cjr TT rfl ?_ | refine oj_then ?_ | refine cj_skip ?_ | refine cj_block ?_ | refine nj_then ?_))
  refine cj_loop (fun (_:Nat)=>σ) (fun k=>[(0,.a (.v (.slice ao xs.length ac))),(1,.a (.v (.slice bo ys.length bc))),(5,.a (.v (.int .i64 k)))]) (fun _=>[]) (fun _=>[]) 0
    (fun k=>k<=xs.length/\sameRec (xs.drop k) (ys.drop k)=sameRec xs ys) (fun k=>xs.length - k) 0 ⟨Nat.zero_le _,rfl⟩ rfl (by (repeat first | exact trivial | refine ⟨rfl,?_⟩)) (by (repeat first | exact trivial | refine ⟨rfl,?_⟩)) rfl (by (repeat' (first | exact trivial | constructor))) (by (repeat' exact trivial)) fun k ⟨hk,hp⟩=>?_
  (repeat (first | refine cj_seq ?_ | refine cjr TT rfl ?_ | refine oj_then ?_))
  refine cj_if rfl (fun h=>?_) (fun h=>?_)
  rotate_left
  · have hk0:k=xs.length:=by have:=of_decide_eq_false h;omega
    subst hk0
    rw [List.drop_length,hlen,List.drop_length] at hp
    (repeat (first | refine cj_seq ?_ | refine cjr TT rfl ?_ | refine oj_then ?_ | refine cj_exit ?_ | refine cj_ret ?_ | refine nj_then ?_ | refine nj_then_exit ?_ | refine nj_block_out ?_))
    refine nj_ret TT rfl fun β w' _ _=>?_
    rw [<-hp]
    rfl
  have hkl:k<xs.length:=by have:=of_decide_eq_true h;omega
  have hkl':k<ys.length:=by omega
  have hra:=recRows_get (List.getElem?_eq_getElem hkl)
  have hrb:=recRows_get (List.getElem?_eq_getElem hkl')
  rw [List.drop_eq_getElem_cons hkl,List.drop_eq_getElem_cons hkl',sameRec] at hp
  generalize xs[k]=x at *
  generalize ys[k]=y at *
  (repeat (first | refine cj_seq ?_ | refine cj_skip ?_ | refine cj_block ?_ | refine nj_then ?_))
  refine cj_draw [(0,.pure),(1,.pure),(2,.pure),(3,.quiet),(4,.pure),(5,.pure),(6,.pure),(7,.quiet),(8,.pure)] mixed (by kernel_rfl) (oj_run TT rfl ?_)
  refine oj_idx TT rfl rfl rfl rfl rfl rfl rfl rfl rfl HA (by omega) hra (oj_run TT rfl ?_)
  refine oj_idx TT rfl rfl rfl rfl rfl rfl rfl rfl rfl HB (by omega) hrb (oj_run TT rfl ?_)
  refine oj_neRec2 x y rfl rfl rfl rfl rfl rfl rfl (oj_run TT rfl ?_)
  (repeat refine oj_then ?_)
  refine cj_if rfl (fun h=>?_) (fun h=>?_)
  · have h:¬ x=y:=by simpa using h
    rw [decide_eq_false h,Bool.false_and] at hp
    (repeat (first | refine cj_seq ?_ | refine cjr TT rfl ?_ | refine oj_then ?_ | refine cj_ret ?_ | refine nj_then_ret ?_ | refine nj_block_ret ?_))
    refine nj_ret TT rfl fun β w' _ _=>?_
    rw [<-hp]
    rfl
  · have h:x=y:=by simpa using h
    rw [decide_eq_true h,Bool.true_and] at hp
    (repeat (first | refine cjr TT rfl ?_ | refine oj_nil ?_ | refine cj_skip ?_ | refine nj_then ?_ | refine nj_block ?_ | (refine oj_add rfl rfl rfl rfl rfl rfl (by omega) ?_;refine oj_run TT rfl ?_)))
    refine nj_again (k+1) ⟨hkl,hp⟩ (by omega) rfl (by (repeat first | exact trivial | refine ⟨rfl,?_⟩)) (by (repeat first | exact trivial | refine ⟨rfl,?_⟩)) rfl (by (repeat' (first | exact trivial | constructor))) (by (repeat' exact trivial))
end Go.Sy
namespace Go.Sy
open Go.Proofs
set_option maxRecDepth 100000 in
set_option maxHeartbeats 1000000 in
theorem RFew_c (σ:Snap) (L:List GRec) (hL:L.length<=140737488355328) (hf:∀ r∈L,r.name.size<=140737488355328/\r.s.size<=140737488355328) (ao:Option Addr) (cap:Nat) (H:SlAt σ ao L.length cap 11 (recRows L)) (most:Int) :
    PlainS Tryz.prog 12 [.a (.v (.slice ao L.length cap)),.a (.v (.int .i64 most))] σ (fun v=>∃ b,v=.bool b/\(b=true->(L.length:Int)<=most/\∀ r∈L,r.name.size+r.s.size<=300/\r.n.dg.size<=200)):=by
  refine enter_p Tryz.func12 rfl rfl (by (repeat' (first | exact trivial | constructor))) fun w=>?_
  (repeat (first | refine cj_seq ?_ | refine cjr TT rfl ?_ | refine oj_then ?_))
  refine cj_if rfl (fun h=>?_) (fun h=>?_)
  · (repeat (first | refine cj_seq ?_ | refine cjr TT rfl ?_ | refine oj_then ?_ | refine cj_ret ?_ | refine nj_then_ret ?_))
    refine nj_ret TT rfl fun β w' _ _=>?_
    exact ⟨false,rfl,fun h=>by cases h⟩
  have hm:(L.length:Int)<=most:=by
    have:=of_decide_eq_false h
    omega
  (repeat (first | refine cj_seq ?_ | refine cjr TT rfl ?_ | refine oj_then ?_ | refine cj_skip ?_ | refine cj_block ?_ | refine nj_then ?_))
  refine cj_loop (fun (_:Nat)=>σ) (fun k=>[(0,.a (.v (.slice ao L.length cap))),(5,.a (.v (.int .i64 k)))]) (fun _=>[]) (fun _=>[]) 0
    (fun k=>k<=L.length/\∀ r∈L.take k,r.name.size+r.s.size<=300/\r.n.dg.size<=200) (fun k=>L.length - k) 0 ⟨Nat.zero_le _,fun r hr=>by simp at hr⟩ rfl (by (repeat first | exact trivial | refine ⟨rfl,?_⟩)) (by (repeat first | exact trivial | refine ⟨rfl,?_⟩)) rfl (by (repeat' (first | exact trivial | constructor))) (by (repeat' exact trivial)) fun k ⟨hk,hall⟩=>?_
  (repeat (first | refine cj_seq ?_ | refine cjr TT rfl ?_ | refine oj_then ?_))
  refine cj_if rfl (fun h=>?_) (fun h=>?_)
  rotate_left
  · (repeat (first | refine cj_seq ?_ | refine cjr TT rfl ?_ | refine oj_then ?_ | refine cj_exit ?_ | refine cj_ret ?_ | refine nj_then ?_ | refine nj_then_exit ?_ | refine nj_block_out ?_))
    refine nj_ret TT rfl fun β w' _ _=>?_
    have hk0:k=L.length:=by have:=of_decide_eq_false h;omega
    subst hk0
    rw [List.take_length] at hall
    exact ⟨true,rfl,fun _=>⟨hm,hall⟩⟩
  have hkl:k<L.length:=by have:=of_decide_eq_true h;omega
  have hrow:=recRows_get (List.getElem?_eq_getElem hkl)
  have hfx:=hf L[k] (List.getElem_mem hkl)
  have htk:L.take (k+1)=L.take k++[L[k]]:=List.take_succ_eq_append_getElem hkl
  generalize L[k]=x at *
  (repeat (first | refine cj_seq ?_ | refine cj_skip ?_ | refine cj_block ?_ | refine nj_then ?_))
  refine cj_draw [(0,.pure),(1,.pure),(2,.pure),(3,.pure),(4,.quiet),(5,.pure),(6,.pure),(7,.pure),(8,.pure),(9,.pure),(10,.quiet),(11,.pure),(12,.pure),(13,.pure),(14,.pure),(15,.pure),(16,.pure),(17,.pure),(18,.pure),(19,.pure),(20,.quiet),(21,.pure),(22,.pure),(23,.pure)] mixed (by kernel_rfl) (oj_run TT rfl ?_)
  refine oj_idx TT rfl rfl rfl rfl rfl rfl rfl rfl rfl H (by omega) hrow (oj_run TT rfl ?_)
  refine oj_idx TT rfl rfl rfl rfl rfl rfl rfl rfl rfl H (by omega) hrow (oj_run TT rfl ?_)
  refine oj_add rfl rfl rfl rfl rfl rfl (by omega) (oj_run TT rfl ?_)
  refine oj_split 30 rfl (fun h=>?_) (fun h=>?_)
  · refine oj_run TT rfl ?_
    (repeat (first | refine cj_seq ?_ | refine cjr TT rfl ?_ | refine oj_then ?_ | refine cj_if_t rfl ?_ | refine cj_ret ?_ | refine nj_then_ret ?_ | refine nj_block_ret ?_))
    refine nj_ret TT rfl fun β w' _ _=>?_
    exact ⟨false,rfl,fun h=>by cases h⟩
  have hs1:=of_decide_eq_false h
  refine oj_run TT rfl ?_
  refine oj_idx TT rfl rfl rfl rfl rfl rfl rfl rfl rfl H (by omega) hrow (oj_run TT rfl ?_)
  (repeat refine oj_then ?_)
  refine cj_if rfl (fun h=>?_) (fun h=>?_)
  · (repeat (first | refine cj_seq ?_ | refine cjr TT rfl ?_ | refine oj_then ?_ | refine cj_ret ?_ | refine nj_then_ret ?_ | refine nj_block_ret ?_))
    refine nj_ret TT rfl fun β w' _ _=>?_
    exact ⟨false,rfl,fun h=>by cases h⟩
  · have hs2:=of_decide_eq_false h
    (repeat (first | refine cjr TT rfl ?_ | refine oj_nil ?_ | refine cj_skip ?_ | refine nj_then ?_ | refine nj_block ?_ | (refine oj_add rfl rfl rfl rfl rfl rfl (by omega) ?_;refine oj_run TT rfl ?_)))
    refine nj_again (k+1) ⟨hkl,fun r hr=>?_⟩ (by omega) rfl (by (repeat first | exact trivial | refine ⟨rfl,?_⟩)) (by (repeat first | exact trivial | refine ⟨rfl,?_⟩)) rfl (by (repeat' (first | exact trivial | constructor))) (by (repeat' exact trivial))
    rw [htk] at hr
    rcases List.mem_append.1 hr with hr | hr
    · exact hall r hr
    · rw [List.mem_singleton.1 hr]
      omega
end Go.Sy
namespace Go.Sy
open Go.Proofs
def lvParK (L:List GRec) (lv:Int):Nat->Int
  | 0 => -1
  | k+1=>if lv<=(L[k]?.map GRec.lv).getD 0 then lvParK L lv k else k
def lvParG (L:List GRec) (i:Nat):Int:=lvParK L ((L[i]?.map GRec.lv).getD 0) i
end Go.Sy
/- Plain laws: the reference's soundness of records is the program's. No program in sight. -/
namespace Go.Sy
mutual
def ordN:Nat->List GRec->List Int×List GRec
  | 0,l=>([],l)
  | _+1,[]=>([],[])
  | n+1,r::l=>(r.st::((ordK n r.lv l).1++[r.en]),(ordK n r.lv l).2)
def ordK:Nat->Int->List GRec->List Int×List GRec
  | 0,_,l=>([],l)
  | _+1,_,[]=>([],[])
  | n+1,lv,k::l =>
    if lv<k.lv then ((ordN n (k::l)).1++(ordK n lv (ordN n (k::l)).2).1,(ordK n lv (ordN n (k::l)).2).2) else ([],k::l)
end
def ordG (L:List GRec):List Int:=(ordN (enough L) L).1
def ascF:Int->List Int->Bool
  | _,[]=>true
  | p,x::l=>decide (p<x)&&ascF x l
def upTo:Int->List Int->Int->Prop
  | lo,[],hi=>lo<=hi
  | lo,x::l,hi=>lo<x/\upTo x l hi
theorem asc_up:∀ (l:List Int) (p:Int),ascF p l=true↔∃ hi,upTo p l hi
  | [],p=>⟨fun _=>⟨p,Int.le_refl p⟩,fun _=>rfl⟩
  | x::l,p=>by
    rw [ascF,Bool.and_eq_true,decide_eq_true_eq,asc_up l x]
    constructor
    · intro ⟨h1,hi,h2⟩;exact ⟨hi,h1,h2⟩
    · intro ⟨hi,h1,h2⟩;exact ⟨h1,hi,h2⟩
theorem upTo_append:∀ (a b:List Int) (lo hi:Int),upTo lo (a++b) hi↔∃ m,upTo lo a m/\upTo m b hi
  | [],b,lo,hi=>by
    rw [List.nil_append]
    constructor
    · intro h;exact ⟨lo,Int.le_refl lo,h⟩
    · intro ⟨m,h1,h2⟩
      cases b with
      | nil=>exact Int.le_trans h1 h2
      | cons x b=>exact ⟨Int.lt_of_le_of_lt h1 h2.1,h2.2⟩
  | x::a,b,lo,hi=>by
    rw [List.cons_append]
    simp only [upTo,upTo_append a b x hi]
    constructor
    · intro ⟨h1,m,h2,h3⟩;exact ⟨m,⟨h1,h2⟩,h3⟩
    · intro ⟨m,⟨h1,h2⟩,h3⟩;exact ⟨h1,m,h2,h3⟩
mutual
inductive ShV:GVal->Int->Bool->ByteArray->List GRec->List Int->Prop
  | mk {g:GVal} {lv:Int} {nm:Bool} {name:ByteArray} {st en:Int} {K:List GRec} {os:List Int} (h:ShI (its g) (lv+1) K os):ShV g lv nm name (⟨st,en,lv,g.kind,nm,name,g.b,g.n,g.s⟩::K) (st::(os++[en]))
inductive ShI:List Itm->Int->List GRec->List Int->Prop
  | nil {lv:Int}:ShI [] lv [] []
  | cons {x:Itm} {xs:List Itm} {lv:Int} {A B:List GRec} {a b:List Int} (h1:ShV x.v lv x.nm x.name A a) (h2:ShI xs lv B b):ShI (x::xs) lv (A++B) (a++b)
end
mutual
theorem ShV.lay:∀ {g:GVal} {lv:Int} {nm:Bool} {name:ByteArray} {L:List GRec} {os:List Int},ShV g lv nm name L os->∀ {lo hi:Int},upTo lo os hi->LayV g lv nm name lo L hi
  | _,_,_,_,_,_,.mk (os:=os) h,lo,hi,hu=>by
    obtain ⟨h1,h2⟩:=hu
    obtain ⟨m,h3,h4,h5⟩:=(upTo_append os _ _ _).1 h2
    exact .mk h1 (h.lay h3) h4 h5
theorem ShI.lay:∀ {xs:List Itm} {lv:Int} {L:List GRec} {os:List Int},ShI xs lv L os->∀ {lo hi:Int},upTo lo os hi->LayI xs lv lo L hi
  | _,_,_,_,.nil,_,_,hu=>.nil hu
  | _,_,_,_,.cons (a:=a) h1 h2,lo,hi,hu=>by
    obtain ⟨m,h3,h4⟩:=(upTo_append a _ _ _).1 hu
    exact .cons (h1.lay h3) (h2.lay h4)
end
mutual
theorem LayV.sh:∀ {g:GVal} {lv:Int} {nm:Bool} {name:ByteArray} {lo hi:Int} {L:List GRec},LayV g lv nm name lo L hi->∃ os,ShV g lv nm name L os/\upTo lo os hi
  | _,_,_,_,_,_,_,.mk h1 h2 h3 h4=>by
    obtain ⟨os,a,b⟩:=h2.sh
    exact ⟨_,.mk a,h1,(upTo_append os _ _ _).2 ⟨_,b,h3,h4⟩⟩
theorem LayI.sh:∀ {xs:List Itm} {lv lo hi:Int} {L:List GRec},LayI xs lv lo L hi->∃ os,ShI xs lv L os/\upTo lo os hi
  | _,_,_,_,_,.nil h=>⟨[],.nil,h⟩
  | _,_,_,_,_,.cons h1 h2=>by
    obtain ⟨a,a1,a2⟩:=h1.sh
    obtain ⟨b,b1,b2⟩:=h2.sh
    exact ⟨_,.cons a1 b1,(upTo_append a _ _ _).2 ⟨_,a2,b2⟩⟩
end
theorem er_split {A B:List GRec}:∀ {L:List GRec},L.map er=(A++B).map er->∃ L1 L2,L=L1++L2/\L1.map er=A.map er/\L2.map er=B.map er:=by
  intro L h
  rw [List.map_append] at h
  obtain ⟨L1,L2,h1,h2,h3⟩:=List.map_eq_append_iff.1 h
  exact ⟨L1,L2,h1,h2,h3⟩
mutual
theorem er_shV:∀ (n:Nat) (g:GVal),cntV g<=n->g.wf->∀ (lv:Int) (nm:Bool) (name:ByteArray) (now:Int) (L:List GRec),L.map er=(shredV 1 g lv nm name now).1.map er->∃ os,ShV g lv nm name L os
  | 0,g,hn,_,_,_,_,_,_,_=>by have:=cntV_pos g;omega
  | n+1,g,hn,hw,lv,nm,name,now,L,h=>by
    rw [shredV_its 1 g lv nm name now hw,List.map_cons] at h
    have hc:=cntI_its hw
    cases L with
    | nil=>cases h
    | cons r K =>
      rw [List.map_cons] at h
      injection h with h1 h2
      obtain ⟨os,hK⟩:=er_shI n (its g) (by omega) (wfs_its hw) (lv+1) (now+1) K h2
      obtain ⟨st,en,l,kd,m,na,b,d,s⟩:=r
      simp only [er,stE,GRec.mk.injEq,true_and] at h1
      obtain ⟨rfl,rfl,rfl,rfl,rfl,rfl,rfl⟩:=h1
      exact ⟨_,.mk hK⟩
termination_by n=>(n,0)
theorem er_shI:∀ (n:Nat) (xs:List Itm),cntI xs<=n->GVal.wfs (valsI xs)->∀ (lv now:Int) (L:List GRec),L.map er=(shredI 1 xs lv now).1.map er->∃ os,ShI xs lv L os
  | _,[],_,_,lv,now,L,h=>by
    have:L=[]:=by simpa [shredI] using h
    subst this
    exact ⟨[],.nil⟩
  | n,x::xs,hn,hw,lv,now,L,h=>by
    simp only [valsI,List.map_cons,GVal.wfs] at hw
    have hc:cntI (x::xs)=cntV x.v+cntI xs:=rfl
    unfold shredI at h
    dsimp only at h
    obtain ⟨A,B,rfl,hA,hB⟩:=er_split h
    obtain ⟨a,ha⟩:=er_shV n x.v (by omega) hw.1 lv x.nm x.name now A hA
    obtain ⟨b,hb⟩:=er_shI n xs (by omega) hw.2 lv _ B hB
    exact ⟨_,.cons ha hb⟩
termination_by n xs=>(n,xs.length+1)
end
theorem ShV.ne {g:GVal} {lv:Int} {nm:Bool} {name:ByteArray} {L:List GRec} {os:List Int} (h:ShV g lv nm name L os):∃ r K,L=r::K/\r.lv=lv:=by
  cases h with
  | mk h=>exact ⟨_,_,rfl,rfl⟩
theorem ShI.head {xs:List Itm} {lv:Int} {L rest:List GRec} {os:List Int} (h:ShI xs lv L os) (hr:behind lv rest):behind lv (L++rest):=by
  cases h with
  | nil=>exact hr
  | cons h1 h2 =>
    obtain ⟨r,K,rfl,hl⟩:=h1.ne
    show r.lv<=lv
    omega
mutual
theorem ShV.ord:∀ {g:GVal} {lv:Int} {nm:Bool} {name:ByteArray} {L:List GRec} {os:List Int},ShV g lv nm name L os->∀ (n:Nat) (rest:List GRec),2*L.length<=n->behind lv rest->ordN n (L++rest)=(os,rest)
  | _,lv,_,_,_,_,.mk (K:=K) h,n,rest,hn,hr=>by
    rw [List.length_cons] at hn
    obtain ⟨n,rfl⟩:∃ m,n=m+1:=⟨n - 1,by omega⟩
    rw [List.cons_append,ordN,h.ord n lv rest (by omega) (by omega) hr]
theorem ShI.ord:∀ {xs:List Itm} {lv:Int} {L:List GRec} {os:List Int},ShI xs lv L os->∀ (n:Nat) (lv':Int) (rest:List GRec),2*L.length+1<=n->lv=lv'+1->behind lv' rest->ordK n lv' (L++rest)=(os,rest)
  | _,_,_,_,.nil,n,lv',rest,hn,he,hr=>by
    obtain ⟨n,rfl⟩:∃ m,n=m+1:=⟨n - 1,by omega⟩
    rw [List.nil_append]
    cases rest with
    | nil=>rfl
    | cons r rest =>
      have hr:r.lv<=lv':=hr
      rw [ordK,if_neg (by omega)]
  | _,lv,_,_,.cons (A:=A) (B:=B) (a:=a) (b:=b) h1 h2,n,lv',rest,hn,he,hr=>by
    rw [List.length_append] at hn
    obtain ⟨n,rfl⟩:∃ m,n=m+1:=⟨n - 1,by omega⟩
    obtain ⟨r,K,hA,hl⟩:=h1.ne
    have hlA:A.length=K.length+1:=by rw [hA];rfl
    have e1:=h1.ord n (B++rest) (by omega) (h2.head (hr.mono (by omega)))
    have e2:=h2.ord n lv' rest (by omega) he hr
    rw [List.append_assoc]
    rw [hA,List.cons_append] at e1 ⊢
    rw [ordK,if_pos (by omega),e1]
    dsimp only
    rw [e2]
end
mutual
theorem buildN_wf:∀ (n:Nat) (l:List GRec),(buildN n l).1.wf
  | 0,l=>⟨rfl,trivial,trivial⟩
  | _+1,[]=>⟨rfl,trivial,trivial⟩
  | n+1,r::l=>by
    rw [buildN]
    exact kidsN_wf n r.lv l
theorem kidsN_wf:∀ (n:Nat) (lv:Int) (l:List GRec),(kidsN n lv l).ks.length=(kidsN n lv l).vs.length/\GVal.wfs (kidsN n lv l).ls/\GVal.wfs (kidsN n lv l).vs
  | 0,_,l=>⟨rfl,trivial,trivial⟩
  | _+1,_,[]=>⟨rfl,trivial,trivial⟩
  | n+1,lv,k::l=>by
    have h1:=buildN_wf n (k::l)
    have h2:=kidsN_wf n lv (buildN n (k::l)).2
    rw [kidsN]
    split
    · split
      · exact ⟨by dsimp only;rw [List.length_cons,List.length_cons,h2.1],h2.2.1,h1,h2.2.2⟩
      · exact ⟨h2.1,⟨h1,h2.2.1⟩,h2.2.2⟩
    · exact ⟨rfl,trivial,trivial⟩
end
def levR:Int->List GRec->Bool
  | _,[]=>true
  | p,r::l=>decide (0<=r.lv)&&decide (r.lv<=64)&&decide (r.lv<=p+1)&&decide (r.lv≠0)&&levR r.lv l
def levG:List GRec->Bool
  | []=>true
  | r::l=>decide (0<=r.lv)&&decide (r.lv<=64)&&levR r.lv l
theorem its_deep {g:GVal} {deep:Int} (h:okAtV g deep) (hw:g.wf):(its g≠[]->deep<64)/\okAtL (valsI (its g)) (deep+1):=by
  obtain ⟨h1,h2,h3,h4,h5⟩:=(okAtV_eq g deep).1 h
  obtain ⟨k1,k2⟩:=fields_kind h1
  refine ⟨fun hne=>?_,?_⟩
  · have:4<=g.kind:=by
      by_cases hl:g.l=[]
      · by_cases hk:g.ks=[]
        · refine absurd ?_ hne
          unfold its
          rw [hl,hk]
          cases g.vs<;>rfl
        · have:=k2 hk;omega
      · have:=k1 hl;omega
    omega
  · rw [vals_its hw]
    rw [okAtL_mem] at h4 h5 ⊢
    intro x hx
    rcases List.mem_append.1 hx with hx | hx
    · exact h4 x hx
    · exact h5 x hx
mutual
theorem LayV.lev:∀ {g:GVal} {lv:Int} {nm:Bool} {name:ByteArray} {lo hi:Int} {L:List GRec},LayV g lv nm name lo L hi->g.wf->okAtV g lv->lv<=64->1<=lv->∀ (p:Int) (rest:List GRec),lv<=p+1->(∀ q:Int,lv<=q+1->levR q rest=true)->levR p (L++rest)=true
  | _,lv,_,_,_,_,_,.mk h1 h2 h3 h4,hw,hok,hl,h0,p,rest,hp,hr=>by
    obtain ⟨d1,d2⟩:=its_deep hok hw
    rw [List.cons_append,levR]
    have:=h2.lev (wfs_its hw) d2 (fun h=>by have:=d1 h;omega) (by omega) lv rest (Int.le_refl _) (fun q hq=>hr q (by omega))
    rw [this,decide_eq_true (show (0:Int)<=lv by omega),decide_eq_true (show lv<=64 by omega),decide_eq_true (show lv<=p+1 by omega),decide_eq_true (show lv≠0 by omega)]
    rfl
theorem LayI.lev:∀ {xs:List Itm} {lv lo hi:Int} {L:List GRec},LayI xs lv lo L hi->GVal.wfs (valsI xs)->okAtL (valsI xs) lv->(xs≠[]->lv<=64)->1<=lv->∀ (p:Int) (rest:List GRec),lv<=p+1->(∀ q:Int,lv<=q+1->levR q rest=true)->levR p (L++rest)=true
  | _,_,_,_,_,.nil h,_,_,_,_,p,rest,hp,hr=>hr p hp
  | x::xs,lv,_,_,_,.cons (B:=B) h1 h2,hw,hok,hl,h0,p,rest,hp,hr=>by
    simp only [valsI,List.map_cons,GVal.wfs] at hw
    have hok:okAtV x.v lv/\okAtL (valsI xs) lv:=hok
    have hl:=hl (by simp)
    rw [List.append_assoc]
    exact h1.lev hw.1 hok.1 hl h0 p (B++rest) hp fun q hq=>h2.lev hw.2 hok.2 (fun _=>hl) h0 q rest hq hr
end
theorem LayV.levG {g:GVal} {nm:Bool} {name:ByteArray} {lo hi:Int} {L:List GRec} (h:LayV g 0 nm name lo L hi) (hw:g.wf) (hok:okAtV g 0):Go.Sy.levG L=true:=by
  cases h with
  | mk h1 h2 h3 h4 =>
    obtain ⟨d1,d2⟩:=its_deep hok hw
    have:=h2.lev (wfs_its hw) d2 (fun h=>by have:=d1 h;omega) (by omega) 0 [] (by omega) (fun _ _=>rfl)
    rw [List.append_nil] at this
    unfold Go.Sy.levG
    dsimp only
    rw [this]
    rfl
def gOf (r:GRec) (xs:List Itm):GVal:=if r.kd=5 then .mk r.kd r.b r.n r.s [] (xs.map Itm.name) (xs.map Itm.v) else .mk r.kd r.b r.n r.s (xs.map Itm.v) [] []
theorem gOf_its {r:GRec} {xs:List Itm} (h:∀ x∈xs,x.nm=decide (r.kd=5)/\(x.nm=false->x.name=emptyS)):its (gOf r xs)=xs:=by
  unfold gOf its
  by_cases hk:r.kd=5
  · rw [if_pos hk]
    show itsL []++itsM (xs.map Itm.v) (xs.map Itm.name)=xs
    rw [show itsL []=[] from rfl,List.nil_append]
    have:∀ l:List Itm,(∀ x∈l,x.nm=true)->itsM (l.map Itm.v) (l.map Itm.name)=l:=by
      intro l
      induction l with
      | nil=>intro _;rfl
      | cons x l ih =>
        intro hl
        rw [List.map_cons,List.map_cons,itsM,ih fun y hy=>hl y (List.mem_cons_of_mem _ hy)]
        have:=hl x List.mem_cons_self
        obtain ⟨nm,name,v⟩:=x
        dsimp only at this
        rw [this]
    exact this xs fun x hx=>by rw [(h x hx).1,decide_eq_true hk]
  · rw [if_neg hk]
    show itsL (xs.map Itm.v)++itsM [] []=xs
    rw [show itsM [] []=[] from rfl,List.append_nil]
    unfold itsL
    rw [List.map_map]
    have:∀ x∈xs,((fun g=>(⟨false,emptyS,g⟩:Itm)) ∘ Itm.v) x=id x:=by
      intro x hx
      obtain ⟨h1,h2⟩:=h x hx
      rw [decide_eq_false hk] at h1
      have h3:=h2 h1
      clear h2 hx
      obtain ⟨nm,name,v⟩:=x
      dsimp only at h1 h3
      subst h1 h3
      rfl
    rw [List.map_congr_left this,List.map_id]
theorem gOf_wf {r:GRec} {xs:List Itm} (h:GVal.wfs (valsI xs)):(gOf r xs).wf:=by
  unfold gOf
  split
  · exact ⟨by simp,trivial,h⟩
  · exact ⟨rfl,h,trivial⟩
theorem gOf_eq (r:GRec) (xs:List Itm):(gOf r xs).kind=r.kd/\(gOf r xs).b=r.b/\(gOf r xs).n=r.n/\(gOf r xs).s=r.s:=by
  unfold gOf
  split<;>exact ⟨rfl,rfl,rfl,rfl⟩
theorem last5 (ko:List Int) (x:Int):((ko++[x]).getLast? == some 5)=decide (x=5):=by
  rw [List.getLast?_concat]
  by_cases h:x=5
  · subst h;rfl
  · rw [decide_eq_false h]
    simp [h]
theorem named_take {op:List Int} {r:GRec} {l:List GRec} (h:namedFrom op (r::l)=true) (h0:0<=r.lv) {m:Nat} (hm:r.lv<=m):namedFrom (op.take m) (r::l)=true:=by
  rw [namedFrom] at h ⊢
  rw [List.take_take,Nat.min_eq_left (by omega)]
  exact h
theorem nest_forest:∀ (n:Nat) (l:List GRec),l.length<=n->∀ (k:Nat) (ro:List GRec) (ko:List Int) (last:Int),0<k->ro≠[]->ko.length=ro.length->nestFrom k ro last l=true->namedFrom ko l=true ->
    ∃ (A B:List GRec) (xs:List Itm) (mid:Int),l=A++B/\LayI xs ro.length last A mid/\GVal.wfs (valsI xs)/\(∀ x∈xs,x.nm=(ko.getLast? == some 5)/\(x.nm=false->x.name=emptyS)) /\
      (∀ r,B.head?=some r->r.lv<ro.length)/\nestFrom (k+A.length) ro mid B=true/\namedFrom ko B=true
  | _,[],_,k,ro,ko,last,hk,hro,hko,h1,h2=>⟨[],[],[],last,rfl,.nil (Int.le_refl _),trivial,fun x hx=>(by cases hx),fun r hr=>(by cases hr),h1,h2⟩
  | 0,r::l,hn,_,_,_,_,_,_,_,_,_=>by simp at hn
  | n+1,r::l,hn,k,ro,ko,last,hk,hro,hko,h1,h2=>by
    have h1':=h1
    rw [nestFrom] at h1'
    split at h1'
    · cases h1'
    rename_i hc
    have hlv:0<=r.lv/\r.lv<=ro.length/\r.lv≠0:=by
      refine ⟨Int.not_lt.1 fun h=>hc (.inl h),Int.not_lt.1 fun h=>hc (.inr (.inl h)),fun h=>hc (.inr (.inr ?_))⟩
      rw [decide_eq_true h,decide_eq_false (show ¬ (k:Int)=0 by omega)]
      rfl
    by_cases hlt:r.lv<ro.length
    · exact ⟨[],r::l,[],last,rfl,.nil (Int.le_refl _),trivial,fun x hx=>(by cases hx),fun r' hr=>(by cases hr;exact hlt),h1,h2⟩
    have hle:(ro.length:Int)=r.lv:=by omega
    rw [closeTo_same last hle] at h1'
    dsimp only at h1'
    split at h1'
    · cases h1'
    rename_i hst
    have hnm:=h2
    rw [namedFrom] at hnm
    have htk:ko.take r.lv.toNat=ko:=List.take_of_length_le (by omega)
    rw [htk] at hnm
    split at hnm
    · cases hnm
    rename_i hna
    simp only [Bool.or_eq_true,Bool.and_eq_true,not_or,not_and,bne_iff_ne,ne_eq,Decidable.not_not,Bool.not_eq_true',decide_eq_false_iff_not,Decidable.not_not] at hna
    obtain ⟨A1,B1,xs1,mid1,rfl,hI,hw1,hx1,hB1,hn1,hm1⟩:=nest_forest n l (by simpa using hn) (k+1) (r::ro) (ko++[r.kd]) r.st (Nat.succ_pos k) (by simp) (by simp [hko]) h1' hnm
    have hx1':∀ x∈xs1,x.nm=decide (r.kd=5)/\(x.nm=false->x.name=emptyS):=by
      intro x hx
      obtain ⟨a,b⟩:=hx1 x hx
      refine ⟨?_,b⟩
      rw [a,last5]
    have hits:=gOf_its hx1'
    obtain ⟨e1,e2,e3,e4⟩:=gOf_eq r xs1
    have hshut:mid1<r.en/\nestFrom (k+1+A1.length) ro r.en B1=true:=by
      cases B1 with
      | nil =>
        rw [nestFrom,closeAll] at hn1
        split at hn1
        · cases hn1
        · rename_i hh
          exact ⟨by omega,by rw [nestFrom];exact hn1⟩
      | cons s B1 =>
        have hs:=hB1 s rfl
        rw [List.length_cons] at hs
        rw [nestFrom] at hn1 ⊢
        split at hn1
        · cases hn1
        rename_i hc1
        rw [closeTo,if_pos (by omega)] at hn1
        by_cases hh:r.en<=mid1
        · rw [if_pos hh] at hn1;cases hn1
        rw [if_neg hh] at hn1
        rw [if_neg (by
          rintro (h | h | h)
          · exact hc1 (.inl h)
          · omega
          · exact hc1 (.inr (.inr h)))]
        exact ⟨by omega,hn1⟩
    have hm2:namedFrom ko B1=true:=by
      cases B1 with
      | nil=>rfl
      | cons s B1 =>
        have hs:=hB1 s rfl
        rw [List.length_cons] at hs
        have h0:0<=s.lv:=by
          have:=hshut.2
          rw [nestFrom] at this
          split at this
          · cases this
          · rename_i hc1
            exact Int.not_lt.1 fun h=>hc1 (.inl h)
        have:=named_take hm1 h0 (m:=ro.length) (by omega)
        rw [List.take_append_of_le_length (by omega),List.take_of_length_le (by omega)] at this
        exact this
    have hV:LayV (gOf r xs1) ro.length r.nm r.name last (r::A1) r.en:=by
      have:=LayV.mk (g:=gOf r xs1) (lv:=(ro.length:Int)) (nm:=r.nm) (name:=r.name) (lo:=last) (st:=r.st) (en:=r.en) (m:=mid1) (hi:=r.en) (K:=A1) (by omega) (by
        rw [hits]
        rw [List.length_cons] at hI
        exact hI) hshut.1 (Int.le_refl _)
      rw [e1,e2,e3,e4,hle] at this
      rw [hle]
      exact this
    obtain ⟨A2,B2,xs2,mid2,rfl,hI2,hw2,hx2,hB2,hn2,hm2⟩:=nest_forest n B1 (by rw [List.length_cons,List.length_append] at hn;omega) (k+1+A1.length) ro ko r.en (by omega) hro hko hshut.2 hm2
    refine ⟨r::A1++A2,B2,⟨r.nm,r.name,gOf r xs1⟩::xs2,mid2,by simp,.cons hV hI2,⟨gOf_wf hw1,hw2⟩,?_,hB2,?_,hm2⟩
    · intro x hx
      rcases List.mem_cons.1 hx with rfl | hx
      · refine ⟨?_,?_⟩
        · exact hna.1
        · exact hna.2
      · exact hx2 x hx
    · rw [List.length_append,List.length_cons,show k+(A1.length+1+A2.length)=k+1+A1.length+A2.length by omega]
      exact hn2
theorem nest_lay {L:List GRec} (h1:nestedG L=true) (h2:namedG L=true):∃ g,LayV g 0 false emptyS (-1) L ((L.head?.map GRec.en).getD 0)/\g.wf:=by
  unfold nestedG at h1
  unfold namedG at h2
  rw [Bool.and_eq_true] at h1
  obtain ⟨h1,h3⟩:=h1
  cases L with
  | nil=>simp at h3
  | cons r l =>
    rw [nestFrom] at h1
    split at h1
    · cases h1
    rename_i hc
    have hlv:r.lv=0:=by
      have a:¬ r.lv<0:=fun h=>hc (.inl h)
      have b:¬ (([]:List GRec).length:Int)<r.lv:=fun h=>hc (.inr (.inl h))
      simp only [List.length_nil] at b
      omega
    rw [closeTo] at h1
    dsimp only at h1
    split at h1
    · cases h1
    rename_i hst
    rw [namedFrom] at h2
    split at h2
    · cases h2
    rename_i hna
    rw [List.take_nil,List.nil_append] at h2
    rw [List.take_nil] at hna
    simp only [List.getLast?_nil,Bool.or_eq_true,Bool.and_eq_true,not_or,not_and,bne_iff_ne,ne_eq,Decidable.not_not,Bool.not_eq_true',decide_eq_false_iff_not] at hna
    have hnm:r.nm=false:=hna.1
    have hname:r.name=emptyS:=hna.2 hnm
    obtain ⟨A,B,xs,mid,rfl,hI,hw,hx,hB,hn,hm⟩:=nest_forest l.length l (Nat.le_refl _) 1 [r] [r.kd] r.st Nat.one_pos (by simp) rfl h1 h2
    have hB0:B=[]:=by
      cases B with
      | nil=>rfl
      | cons s B =>
        have hs:=hB s rfl
        rw [List.length_singleton] at hs
        rw [nestFrom] at hn
        split at hn
        · cases hn
        rename_i hc1
        exfalso
        have a:¬ s.lv<0:=fun h=>hc1 (.inl h)
        refine hc1 (.inr (.inr ?_))
        rw [decide_eq_true (show s.lv=0 by omega),decide_eq_false (show ¬ ((1+A.length:Nat):Int)=0 by omega)]
        rfl
    subst hB0
    rw [nestFrom,closeAll] at hn
    split at hn
    · cases hn
    rename_i hen
    have hits:=gOf_its (r:=r) (xs:=xs) fun x hx'=>by
      obtain ⟨a,b⟩:=hx x hx'
      refine ⟨?_,b⟩
      rw [a]
      exact last5 [] r.kd
    obtain ⟨e1,e2,e3,e4⟩:=gOf_eq r xs
    refine ⟨gOf r xs,?_,gOf_wf hw⟩
    have:=LayV.mk (g:=gOf r xs) (lv:=0) (nm:=false) (name:=emptyS) (lo := -1) (st:=r.st) (en:=r.en) (m:=mid) (hi:=r.en) (K:=A) (by omega) (by rw [hits];exact hI) (by omega) (Int.le_refl _)
    rw [e1,e2,e3,e4] at this
    rw [List.append_nil]
    show LayV _ _ _ _ _ (r::A) r.en
    have hr:r=⟨r.st,r.en,0,r.kd,false,emptyS,r.b,r.n,r.s⟩:=by
      rw [<-hlv,<-hnm,<-hname]
    rw [<-hr] at this
    exact this
theorem sound_lay {L:List GRec} (h:soundG L=true):LayV (buildG L).1 0 false emptyS (-1) L ((L.head?.map GRec.en).getD 0)/\(buildG L).1.wf/\(buildG L).2=[]:=by
  obtain ⟨-,h1,h2,-,-⟩:=sound_all h
  obtain ⟨g,hl,hw⟩:=nest_lay h1 h2
  have hb:=hl.built hw
  rw [hb]
  exact ⟨hl,hw,rfl⟩
def rSoundG (L:List GRec):Bool :=
  if L.length=0\/5000<L.length then false
  else if levG L=false then false
  else if (L.head?.map GRec.lv).getD 0≠0\/(L.head?.map GRec.nm).getD false=true\/1099511627776<(L.head?.map GRec.en).getD 0 then false
  else if (buildG L).2≠[]\/sane (buildG L).1≠0 then false
  else if L.map er≠(shredV 1 (buildG L).1 0 false emptyS 0).1.map er then false
  else ascF (-1) (ordG L)
theorem LayV.top {g:GVal} {lv:Int} {nm:Bool} {name:ByteArray} {lo hi:Int} {L:List GRec} (h:LayV g lv nm name lo L hi) :
    LayV g lv nm name lo L ((L.head?.map GRec.en).getD 0)/\L.length≠0/\(L.head?.map GRec.lv).getD 0=lv/\(L.head?.map GRec.nm).getD false=nm:=by
  cases h with
  | mk a b c d=>exact ⟨.mk a b c (Int.le_refl _),by simp,rfl,rfl⟩
theorem lay_ord {g:GVal} {lv:Int} {nm:Bool} {name:ByteArray} {lo hi:Int} {L:List GRec} (h:LayV g lv nm name lo L hi):ascF lo (ordG L)=true:=by
  obtain ⟨os,h1,h2⟩:=h.sh
  have:=h1.ord (enough L) [] (by unfold enough;omega) trivial
  rw [List.append_nil] at this
  unfold ordG
  rw [this]
  exact (asc_up _ _).2 ⟨_,h2⟩
theorem rSound_eq {L:List GRec} (hl:L.length<=4096):rSoundG L=soundG L:=by
  rw [Bool.eq_iff_iff]
  constructor
  · intro h
    unfold rSoundG at h
    split at h
    · cases h
    split at h
    · cases h
    split at h
    · cases h
    rename_i _ _ h3
    split at h
    · cases h
    rename_i h4
    split at h
    · cases h
    rename_i h5
    have h5:=Decidable.not_not.1 h5
    have hw:(buildG L).1.wf:=buildN_wf _ _
    obtain ⟨os,hsh⟩:=er_shV _ _ (Nat.le_refl _) hw 0 false emptyS 0 L h5
    have ho:=hsh.ord (enough L) [] (by unfold enough;omega) trivial
    rw [List.append_nil] at ho
    unfold ordG at h
    rw [ho] at h
    obtain ⟨hi,hu⟩:=(asc_up _ _).1 h
    have hlay:=hsh.lay hu
    have hen:(L.head?.map GRec.en).getD 0<=1099511627776:=Int.not_lt.1 fun hc=>h3 (.inr (.inr hc))
    have hs:sane (buildG L).1=0:=Decidable.not_not.1 fun hc=>h4 (.inr hc)
    exact lay_sound hlay.top.1 (Int.le_refl _) hw hs hl hen
  · intro h
    obtain ⟨-,-,-,a4,a5⟩:=sound_all h
    obtain ⟨hlay,hw,hb2⟩:=sound_lay h
    obtain ⟨hok,-⟩:=sane_iff.1 a5
    have hlev:=hlay.levG hw hok
    have her:=hlay.er_eq hw 1 0
    have hord:=lay_ord hlay
    have hpos:=hlay.top.2
    unfold rSoundG
    rw [if_neg (by omega),if_neg (by rw [hlev];decide),if_neg (by
      rw [hpos.2.1,hpos.2.2]
      rintro (h | h | h)
      · exact h rfl
      · cases h
      · omega),if_neg (by
      rintro (h | h)
      · exact h hb2
      · exact h a5),if_neg (fun h=>h her)]
    exact hord
end Go.Sy
/- Plain laws: what the reference finds by levels, the program finds by numbers. No program in sight. -/
namespace Go.Sy
def ByLv (L:List GRec):Prop:=∀ (i j:Nat) (x y:GRec),i<j->L[i]?=some x->L[j]?=some y ->
  x.en≠y.st/\(y.st<x.en↔∀ (k:Nat) (z:GRec),i<k->k<=j->L[k]?=some z->x.lv<z.lv)
mutual
theorem LayV.byLv:∀ {g:GVal} {lv:Int} {nm:Bool} {name:ByteArray} {lo hi:Int} {L:List GRec},LayV g lv nm name lo L hi->ByLv L
  | g,lv,nm,name,_,_,_,.mk (st:=st) (en:=en) (K:=K) h1 h2 h3 h4=>by
    have ih:=h2.byLv
    have hbd:=h2.bd
    have hlv:=h2.lvb
    intro i j x y hij hx hy
    obtain ⟨j,rfl⟩:∃ m,j=m+1:=⟨j - 1,by omega⟩
    rw [List.getElem?_cons_succ] at hy
    have hyK:=hbd y (List.mem_of_getElem? hy)
    cases i with
    | zero =>
      rw [List.getElem?_cons_zero] at hx
      obtain rfl:=Option.some.inj hx
      refine ⟨by dsimp only;omega,fun _=>?_,fun _=>by dsimp only;omega⟩
      intro k z hk _ hz
      obtain ⟨k,rfl⟩:∃ m,k=m+1:=⟨k - 1,by omega⟩
      rw [List.getElem?_cons_succ] at hz
      have:=(hlv z (List.mem_of_getElem? hz)).1
      dsimp only
      omega
    | succ i =>
      rw [List.getElem?_cons_succ] at hx
      obtain ⟨a,b⟩:=ih i j x y (by omega) hx hy
      refine ⟨a,b.trans ⟨fun h k z hk hkj hz=>?_,fun h k z hk hkj hz=>?_⟩⟩
      · obtain ⟨k,rfl⟩:∃ m,k=m+1:=⟨k - 1,by omega⟩
        rw [List.getElem?_cons_succ] at hz
        exact h k z (by omega) (by omega) hz
      · exact h (k+1) z (by omega) (by omega) (by rw [List.getElem?_cons_succ];exact hz)
theorem LayI.byLv:∀ {xs:List Itm} {lv lo hi:Int} {L:List GRec},LayI xs lv lo L hi->ByLv L
  | _,_,_,_,_,.nil h=>by
    intro i j x y _ hx
    simp at hx
  | _,lv,_,_,_,.cons (mid:=mid) (A:=A) (B:=B) h1 h2=>by
    have ihA:=h1.byLv
    have ihB:=h2.byLv
    have bA:=h1.bd
    have bB:=h2.bd
    have lA:=h1.lvb
    have hle:=h2.le
    intro i j x y hij hx hy
    by_cases hj:j<A.length
    · rw [List.getElem?_append_left hj] at hy
      rw [List.getElem?_append_left (by omega)] at hx
      obtain ⟨a,b⟩:=ihA i j x y hij hx hy
      refine ⟨a,b.trans ⟨fun h k z hk hkj hz=>?_,fun h k z hk hkj hz=>?_⟩⟩
      · rw [List.getElem?_append_left (by omega)] at hz
        exact h k z hk hkj hz
      · exact h k z hk hkj (by rw [List.getElem?_append_left (by omega)];exact hz)
    · rw [List.getElem?_append_right (by omega)] at hy
      have hyB:=bB y (List.mem_of_getElem? hy)
      by_cases hi:i<A.length
      · rw [List.getElem?_append_left hi] at hx
        have hxA:=bA x (List.mem_of_getElem? hx)
        have hlx:=(lA x (List.mem_of_getElem? hx)).1
        refine ⟨by omega,fun h=>by omega,fun h=>?_⟩
        exfalso
        cases h2 with
        | nil=>simp at hy
        | cons c d =>
          cases c with
          | mk c1 c2 c3 c4 =>
            have:=h A.length _ hi (by omega) (by rw [List.getElem?_append_right (Nat.le_refl _),Nat.sub_self,List.cons_append,List.getElem?_cons_zero])
            dsimp only at this
            omega
      · rw [List.getElem?_append_right (by omega)] at hx
        obtain ⟨a,b⟩:=ihB (i - A.length) (j - A.length) x y (by omega) hx hy
        refine ⟨a,b.trans ⟨fun h k z hk hkj hz=>?_,fun h k z hk hkj hz=>?_⟩⟩
        · rw [List.getElem?_append_right (by omega)] at hz
          exact h (k - A.length) z (by omega) (by omega) hz
        · refine h (k+A.length) z (by omega) (by omega) ?_
          rw [List.getElem?_append_right (by omega),Nat.add_sub_cancel]
          exact hz
end
def lvRun (lv:Int):List GRec->Nat
  | []=>0
  | r::l=>if lv<r.lv then lvRun lv l+1 else 0
def rLastG (L:List GRec) (i:Nat):Nat:=i+lvRun (lvAt L i) (L.drop (i+1))
def rkidsF (lv:Int):Nat->List GRec->List Nat
  | _,[]=>[]
  | k,r::l=>if lv<r.lv then (if r.lv=lv+1 then k::rkidsF lv (k+1) l else rkidsF lv (k+1) l) else []
def rkidsG (L:List GRec) (i:Nat):List Nat:=rkidsF (lvAt L i) (i+1) (L.drop (i+1))
theorem lvAt_get {L:List GRec} {i:Nat} {x:GRec} (h:L[i]?=some x):lvAt L i=x.lv:=by unfold lvAt;rw [h];rfl
theorem run_lv {L:List GRec} (H:ByLv L) {i:Nat} {x:GRec} (hx:L[i]?=some x):∀ (n j:Nat),L.length - j<=n->i<j->(∀ (k:Nat) (z:GRec),i<k->k<j->L[k]?=some z->x.lv<z.lv)->runL x.en (L.drop j)=lvRun x.lv (L.drop j)
  | 0,j,hn,hij,_=>by rw [List.drop_of_length_le (by omega)];rfl
  | n+1,j,hn,hij,hb=>by
    by_cases hj:j<L.length
    · have hy:L[j]?=some L[j]:=List.getElem?_eq_getElem hj
      have hc:=(H i j x _ hij hx hy).2
      rw [List.drop_eq_getElem_cons hj,runL,lvRun]
      by_cases hl:x.lv<L[j].lv
      · have hb':∀ (k:Nat) (z:GRec),i<k->k<j+1->L[k]?=some z->x.lv<z.lv:=by
          intro k z h1 h2 h3
          by_cases hk:k=j
          · subst hk
            rw [hy] at h3
            obtain rfl:=Option.some.inj h3
            exact hl
          · exact hb k z h1 (by omega) h3
        rw [if_pos (hc.2 fun k z h1 h2 h3=>hb' k z h1 (by omega) h3),if_pos hl,run_lv H hx n (j+1) (by omega) (by omega) hb']
      · rw [if_neg (fun h=>hl (hc.1 h j _ hij (Nat.le_refl _) hy)),if_neg hl]
    · rw [List.drop_of_length_le (by omega)];rfl
theorem run_lv0 {L:List GRec} (H:ByLv L) {i:Nat} {x:GRec} (hx:L[i]?=some x):runL x.en (L.drop (i+1))=lvRun x.lv (L.drop (i+1)) :=
  run_lv H hx _ (i+1) (Nat.le_refl _) (Nat.lt_succ_self i) fun k z h1 h2=>by omega
theorem rLast_eq {L:List GRec} (H:ByLv L) {i:Nat} (hi:i<L.length):lastG L i=rLastG L i:=by
  have hx:L[i]?=some L[i]:=List.getElem?_eq_getElem hi
  unfold lastG rLastG runK
  rw [lvAt_get hx,hx]
  show ((i+1+runL L[i].en (L.drop (i+1)):Nat):Int) - 1=_
  rw [run_lv0 H hx]
  omega
theorem par_lv {L:List GRec} (H:ByLv L) {i:Nat} {x:GRec} (hx:L[i]?=some x):∀ k:Nat,k<=i->(∀ (m:Nat) (z:GRec),k<=m->m<i->L[m]?=some z->x.lv<=z.lv)->parentK L x.st k=lvParK L x.lv k
  | 0,_,_=>rfl
  | k+1,hk,hb=>by
    have hil:=(List.getElem?_eq_some_iff.1 hx).1
    have hy:L[k]?=some (L[k]'(by omega)):=List.getElem?_eq_getElem _
    obtain ⟨hne,hc⟩:=H k i _ x (by omega) hy hx
    rw [parentK,lvParK,hy]
    dsimp only [Option.map_some,Option.getD_some]
    by_cases hl:x.lv<=(L[k]'(by omega)).lv
    · rw [if_pos hl,if_pos]
      · refine par_lv H hx k (by omega) fun m z h1 h2 h3=>?_
        by_cases hm:m=k
        · subst hm
          rw [hy] at h3
          obtain rfl:=Option.some.inj h3
          exact hl
        · exact hb m z (by omega) h2 h3
      · have:¬ x.st<(L[k]'(by omega)).en:=fun h=>by
          have:=hc.1 h i x (by omega) (Nat.le_refl _) hx
          omega
        omega
    · rw [if_neg hl,if_neg]
      have:x.st<(L[k]'(by omega)).en:=hc.2 fun m z h1 h2 h3=>by
        by_cases hm:m=i
        · subst hm
          rw [hx] at h3
          obtain rfl:=Option.some.inj h3
          omega
        · have:=hb m z (by omega) (by omega) h3
          omega
      omega
theorem rpar_eq {L:List GRec} (H:ByLv L) {i:Nat} (hi:i<L.length):parentG L i=lvParG L i:=by
  have hx:L[i]?=some L[i]:=List.getElem?_eq_getElem hi
  unfold parentG lvParG
  rw [hx]
  exact par_lv H hx i (Nat.le_refl _) fun m z h1 h2=>by omega
theorem rkids_skip {lv:Int}:∀ (T:List GRec) (k:Nat),rkidsF lv k T=rkidsF lv (k+lvRun (lv+1) T) (T.drop (lvRun (lv+1) T))
  | [],k=>rfl
  | r::l,k=>by
    rw [lvRun]
    by_cases h:lv+1<r.lv
    · rw [if_pos h,rkidsF,if_pos (by omega),if_neg (by omega),rkids_skip l (k+1),List.drop_succ_cons]
      congr 1
      omega
    · rw [if_neg h]
      rfl
theorem lvRun_stop (lv:Int):∀ (T:List GRec) (r:GRec),(T.drop (lvRun lv T)).head?=some r->r.lv<=lv
  | [],r,h=>by simp [lvRun] at h
  | x::l,r,h=>by
    rw [lvRun] at h
    split at h
    · rw [List.drop_succ_cons] at h
      exact lvRun_stop lv l r h
    · rw [List.drop_zero,List.head?_cons,Option.some.injEq] at h
      subst h
      omega
theorem lvRun_in (lv:Int):∀ (T:List GRec) (k:Nat) (z:GRec),k<lvRun lv T->T[k]?=some z->lv<z.lv
  | [],k,z,h,_=>by simp [lvRun] at h
  | x::l,k,z,h,hz=>by
    rw [lvRun] at h
    split at h
    · rename_i hx
      cases k with
      | zero =>
        rw [List.getElem?_cons_zero,Option.some.injEq] at hz
        subst hz
        exact hx
      | succ k =>
        rw [List.getElem?_cons_succ] at hz
        exact lvRun_in lv l k z (by omega) hz
    · omega
theorem kids_lv {L:List GRec} (H:ByLv L) {i:Nat} {x:GRec} (hx:L[i]?=some x):∀ (n k:Nat),L.length<k+n->i<k->(∀ (m:Nat) (z:GRec),i<m->m<k->L[m]?=some z->x.lv<z.lv)->(∀ z,L[k]?=some z->z.lv<=x.lv+1) ->
    kidsF L x.en n k=rkidsF x.lv k (L.drop k)
  | 0,k,hn,hik,_,_=>by rw [List.drop_of_length_le (by omega)];rfl
  | n+1,k,hn,hik,hb,hk1=>by
    unfold kidsF
    by_cases hk:k<L.length
    · have hy:L[k]?=some L[k]:=List.getElem?_eq_getElem hk
      have hc:=(H i k x _ hik hx hy).2
      rw [dif_pos hk,List.drop_eq_getElem_cons hk,rkidsF]
      by_cases hl:x.lv<L[k].lv
      · have hle:L[k].lv=x.lv+1:=by have:=hk1 _ hy;omega
        rw [if_pos (hc.2 fun m z h1 h2 h3=>?_),if_pos hl,if_pos hle,rkids_skip (L.drop (k+1)) (k+1)]
        · congr 1
          have hrun:runK L L[k].en (k+1)=k+1+lvRun (x.lv+1) (L.drop (k+1)):=by
            unfold runK
            rw [run_lv0 H hy,hle]
          rw [hrun,List.drop_drop]
          refine kids_lv H hx n _ (by omega) (by omega) (fun m z h1 h2 h3=>?_) fun z hz=>?_
          · by_cases hm:m<k
            · exact hb m z h1 hm h3
            · by_cases hm2:m=k
              · subst hm2
                rw [hy] at h3
                obtain rfl:=Option.some.inj h3
                exact hl
              · have:=lvRun_in (x.lv+1) (L.drop (k+1)) (m - (k+1)) z (by omega) (by rw [List.getElem?_drop,show k+1+(m - (k+1))=m by omega];exact h3)
                omega
          · refine lvRun_stop (x.lv+1) (L.drop (k+1)) z ?_
            rw [List.drop_drop,List.head?_eq_getElem?,List.getElem?_drop,Nat.add_zero]
            exact hz
        · by_cases hm:m=k
          · subst hm
            rw [hy] at h3
            obtain rfl:=Option.some.inj h3
            exact hl
          · exact hb m z h1 (by omega) h3
      · rw [if_neg (fun h=>hl (hc.1 h k _ hik (Nat.le_refl _) hy)),if_neg hl]
    · rw [dif_neg hk,List.drop_of_length_le (by omega)]
      rfl
def LvOn (L:List GRec):Prop:=∀ (i:Nat) (x y:GRec),L[i]?=some x->L[i+1]?=some y->y.lv<=x.lv+1
theorem levR_on:∀ (L:List GRec) (p:Int),levR p L=true->(∀ y,L[0]?=some y->y.lv<=p+1)/\LvOn L
  | [],p,_=>⟨fun y h=>by simp at h,fun i x y h=>by simp at h⟩
  | r::l,p,h=>by
    rw [levR] at h
    simp only [Bool.and_eq_true,decide_eq_true_eq] at h
    obtain ⟨a,b⟩:=levR_on l r.lv h.2
    refine ⟨fun y hy=>?_,fun i x y hx hy=>?_⟩
    · rw [List.getElem?_cons_zero,Option.some.injEq] at hy
      subst hy
      exact h.1.1.2
    · rw [List.getElem?_cons_succ] at hy
      cases i with
      | zero =>
        rw [List.getElem?_cons_zero,Option.some.injEq] at hx
        subst hx
        exact a y hy
      | succ i =>
        rw [List.getElem?_cons_succ] at hx
        exact b i x y hx hy
theorem levG_on {L:List GRec} (h:levG L=true):LvOn L:=by
  cases L with
  | nil=>intro i x y hx;simp at hx
  | cons r l =>
    unfold levG at h
    simp only [Bool.and_eq_true] at h
    obtain ⟨a,b⟩:=levR_on l r.lv h.2
    intro i x y hx hy
    rw [List.getElem?_cons_succ] at hy
    cases i with
    | zero =>
      rw [List.getElem?_cons_zero,Option.some.injEq] at hx
      subst hx
      exact a y hy
    | succ i =>
      rw [List.getElem?_cons_succ] at hx
      exact b i x y hx hy
theorem rkids_eq {L:List GRec} (H:ByLv L) (hon:LvOn L) {i:Nat} (hi:i<L.length):kidsG L i=rkidsG L i:=by
  have hx:L[i]?=some L[i]:=List.getElem?_eq_getElem hi
  unfold kidsG rkidsG
  rw [lvAt_get hx,hx]
  exact kids_lv H hx L.length (i+1) (by omega) (Nat.lt_succ_self i) (fun m z h1 h2=>by omega) fun z hz=>hon i _ z hx hz
def cntTo (i:Nat):List Nat->Nat
  | []=>0
  | m::ms=>if m=i then 0 else cntTo i ms+1
def rstepG (L:List GRec) (i p:Nat):GStep :=
  match L[i]? with
  | some r=>if r.nm then ⟨r.name,0,true⟩ else ⟨emptyS,cntTo i (rkidsG L p),false⟩
  | none=>⟨emptyS,0,false⟩
def rstepsF (L:List GRec):Nat->Nat->List GStep
  | 0,_=>[]
  | n+1,i=>if lvParG L i<0 then [] else rstepsF L n (lvParG L i).toNat++[rstepG L i (lvParG L i).toNat]
def rstepsG (L:List GRec) (i:Nat):List GStep:=rstepsF L (i+1) i
theorem idxF_cnt:∀ (ms:List Nat) (i k:Nat),i∈ms->idxF i ms k=(k+cntTo i ms:Nat)
  | [],_,_,h=>by cases h
  | m::ms,i,k,h=>by
    unfold idxF cntTo
    by_cases hm:m=i
    · rw [if_pos hm.symm,if_pos hm];rfl
    · rw [if_neg (fun e=>hm e.symm),if_neg hm,idxF_cnt ms i (k+1) (by
        rcases List.mem_cons.1 h with h | h
        · exact absurd h.symm hm
        · exact h)]
      congr 1
      omega
theorem lvParK_lt (L:List GRec) (lv:Int):∀ k:Nat,-1<=lvParK L lv k/\lvParK L lv k<k
  | 0=>by simp [lvParK]
  | k+1=>by
    have:=lvParK_lt L lv k
    simp only [lvParK]
    split<;>omega
theorem lvParG_lt (L:List GRec) (i:Nat):-1<=lvParG L i/\lvParG L i<i:=lvParK_lt L _ i
theorem lvParK_spec {L:List GRec} {lv:Int}:∀ {k p:Nat},lvParK L lv k=p->k<=L.length->(∃ x,L[p]?=some x/\x.lv<lv)/\∀ (m:Nat) (z:GRec),p<m->m<k->L[m]?=some z->lv<=z.lv
  | 0,p,h,_=>by unfold lvParK at h;omega
  | k+1,p,h,hk=>by
    have hy:L[k]?=some (L[k]'(by omega)):=List.getElem?_eq_getElem _
    rw [lvParK,hy] at h
    dsimp only [Option.map_some,Option.getD_some] at h
    split at h
    · rename_i hl
      obtain ⟨a,b⟩:=lvParK_spec h (by omega)
      refine ⟨a,fun m z h1 h2 h3=>?_⟩
      by_cases hm:m=k
      · subst hm
        rw [hy] at h3
        obtain rfl:=Option.some.inj h3
        exact hl
      · exact b m z h1 (by omega) h3
    · rename_i hl
      obtain rfl:k=p:=by omega
      exact ⟨⟨_,hy,by omega⟩,fun m z h1 h2=>by omega⟩
theorem mem_rkids {lv:Int}:∀ (T:List GRec) (k j:Nat) (r:GRec),T[j]?=some r->r.lv=lv+1->(∀ (m:Nat) (z:GRec),m<j->T[m]?=some z->lv<z.lv)->k+j∈rkidsF lv k T
  | [],_,_,_,h,_,_=>by simp at h
  | x::T,k,0,r,h,hr,_=>by
    rw [List.getElem?_cons_zero,Option.some.injEq] at h
    subst h
    rw [rkidsF,if_pos (by omega),if_pos hr]
    exact List.mem_cons_self
  | x::T,k,j+1,r,h,hr,hb=>by
    rw [List.getElem?_cons_succ] at h
    have h0:=hb 0 x (by omega) rfl
    have:=mem_rkids T (k+1) j r h hr fun m z h1 h2=>hb (m+1) z (by omega) (by rw [List.getElem?_cons_succ];exact h2)
    rw [show k+1+j=k+(j+1) by omega] at this
    rw [rkidsF,if_pos h0]
    split
    · exact List.mem_cons_of_mem _ this
    · exact this
theorem kid_of_par {L:List GRec} (hon:LvOn L) {i p:Nat} (hi:i<L.length) (hp:lvParG L i=p):i∈rkidsG L p:=by
  have hx:L[i]?=some L[i]:=List.getElem?_eq_getElem hi
  have hpi:=(lvParG_lt L i).2
  rw [hp] at hpi
  unfold lvParG at hp
  rw [hx] at hp
  obtain ⟨⟨y,hy,hyl⟩,hb⟩:=lvParK_spec (k:=i) hp (by omega)
  dsimp only [Option.map_some,Option.getD_some] at hyl hb
  have h1:(L[p+1]'(by omega)).lv<=y.lv+1:=hon p y _ hy (List.getElem?_eq_getElem _)
  have hl:L[i].lv=y.lv+1:=by
    by_cases hpe:p+1=i
    · subst hpe;omega
    · have:=hb (p+1) _ (by omega) (by omega) (List.getElem?_eq_getElem (by omega))
      omega
  unfold rkidsG
  rw [lvAt_get hy]
  have:=mem_rkids (lv:=y.lv) (L.drop (p+1)) (p+1) (i - (p+1)) L[i] (by rw [List.getElem?_drop,show p+1+(i - (p+1))=i by omega];exact hx) hl fun m z h1 h2=>by
    rw [List.getElem?_drop] at h2
    have:=hb (p+1+m) z (by omega) (by omega) h2
    omega
  rw [show p+1+(i - (p+1))=i by omega] at this
  exact this
theorem stepEq_refl (s:GStep):stepEq s s=true:=by
  obtain ⟨k,a,n⟩:=s
  cases n<;>simp [stepEq]
theorem stepEq_symm {s t:GStep} (h:stepEq s t=true):stepEq t s=true:=by
  obtain ⟨k1,a1,n1⟩:=s
  obtain ⟨k2,a2,n2⟩:=t
  cases n1<;>cases n2<;>simp [stepEq] at h ⊢<;>exact h.symm
theorem stepEq_trans {s t u:GStep} (h1:stepEq s t=true) (h2:stepEq t u=true):stepEq s u=true:=by
  obtain ⟨k1,a1,n1⟩:=s
  obtain ⟨k2,a2,n2⟩:=t
  obtain ⟨k3,a3,n3⟩:=u
  cases n1<;>cases n2<;>cases n3<;>simp [stepEq] at h1 h2 ⊢<;>exact h1.trans h2
theorem sameG_symm:∀ {a b:List GStep},sameG a b=true->sameG b a=true
  | [],[],_=>rfl
  | [],_::_,h=>by cases h
  | _::_,[],h=>by cases h
  | x::a,y::b,h=>by
    rw [sameG,Bool.and_eq_true] at h ⊢
    exact ⟨stepEq_symm h.1,sameG_symm h.2⟩
theorem sameG_trans:∀ {a b c:List GStep},sameG a b=true->sameG b c=true->sameG a c=true
  | [],[],c,_,h=>h
  | [],_::_,_,h,_=>by cases h
  | _::_,[],_,h,_=>by cases h
  | x::a,y::b,[],_,h=>by cases h
  | x::a,y::b,z::c,h1,h2=>by
    rw [sameG,Bool.and_eq_true] at h1 h2 ⊢
    exact ⟨stepEq_trans h1.1 h2.1,sameG_trans h1.2 h2.2⟩
theorem sameG_append:∀ {a b c d:List GStep},sameG a b=true->sameG c d=true->sameG (a++c) (b++d)=true
  | [],[],c,d,_,h=>h
  | [],_::_,_,_,h,_=>by cases h
  | _::_,[],_,_,h,_=>by cases h
  | x::a,y::b,c,d,h1,h2=>by
    rw [sameG,Bool.and_eq_true] at h1
    rw [List.cons_append,List.cons_append,sameG,Bool.and_eq_true]
    exact ⟨h1.1,sameG_append h1.2 h2⟩
theorem sameG_congr {a b c:List GStep} (h:sameG a b=true):sameG a c=sameG b c:=by
  rw [Bool.eq_iff_iff]
  exact ⟨fun h1=>sameG_trans (sameG_symm h) h1,fun h1=>sameG_trans h h1⟩
theorem rstep_eq {L:List GRec} (H:ByLv L) (hon:LvOn L) {i p:Nat} (hi:i<L.length) (hp:lvParG L i=p):stepEq (stepG L i p) (rstepG L i p)=true:=by
  have hx:L[i]?=some L[i]:=List.getElem?_eq_getElem hi
  have hm:=kid_of_par hon hi hp
  have hpl:p<L.length:=by have:=(lvParG_lt L i).2;omega
  have hk:=rkids_eq H hon hpl
  unfold stepG rstepG
  rw [hx]
  dsimp only
  cases hn:L[i].nm with
  | true =>
    rw [if_pos rfl,if_pos rfl]
    exact stepEq_refl _
  | false =>
    rw [if_neg (by simp),if_neg (by simp),hk,idxF_cnt _ _ _ hm,Nat.zero_add]
    simp [stepEq]
theorem rsteps_up {L:List GRec} (H:ByLv L) (hon:LvOn L):∀ (n i:Nat),i<L.length->sameG (upF L n i).reverse (rstepsF L n i)=true
  | 0,_,_=>rfl
  | n+1,i,hi=>by
    rw [upF,rstepsF,rpar_eq H hi]
    by_cases h:lvParG L i<0
    · rw [if_pos h,if_pos h];rfl
    · rw [if_neg h,if_neg h,List.reverse_cons]
      have hlt:=lvParG_lt L i
      refine sameG_append (rsteps_up H hon n _ (by omega)) ?_
      have:=rstep_eq H hon hi (p:=(lvParG L i).toNat) (by omega)
      rw [sameG,this]
      rfl
theorem rplace_eq {L:List GRec} (H:ByLv L) (hon:LvOn L) {i:Nat} (hi:i<L.length):sameG (placeG L i) (rstepsG L i)=true:=rsteps_up H hon (i+1) i hi
theorem er_get {L M:List GRec} (h:L.map er=M.map er) {i:Nat} {x:GRec} (hx:L[i]?=some x):∃ y,M[i]?=some y/\er x=er y:=by
  have:=congrArg (fun l=>l[i]?) h
  simp only [List.getElem?_map,hx,Option.map_some] at this
  cases hy:M[i]? with
  | none=>rw [hy] at this;simp at this
  | some y =>
    rw [hy] at this
    exact ⟨y,rfl,Option.some.inj this⟩
theorem rkidsF_er {lv:Int}:∀ (T:List GRec) (k:Nat),rkidsF lv k (T.map er)=rkidsF lv k T
  | [],_=>rfl
  | r::T,k=>by
    rw [List.map_cons,rkidsF,rkidsF,rkidsF_er T (k+1)]
    rfl
theorem rkidsG_er {L M:List GRec} (h:L.map er=M.map er) (i:Nat):rkidsG L i=rkidsG M i:=by
  unfold rkidsG
  rw [er_lv h i,<-rkidsF_er (L.drop (i+1)),<-rkidsF_er (M.drop (i+1)),List.map_drop,List.map_drop,h]
theorem lvParK_er {L M:List GRec} (h:L.map er=M.map er) (lv:Int):∀ k:Nat,lvParK L lv k=lvParK M lv k
  | 0=>rfl
  | k+1=>by
    have:=er_lv h k
    unfold lvAt at this
    rw [lvParK,lvParK,this,lvParK_er h lv k]
theorem lvParG_er {L M:List GRec} (h:L.map er=M.map er) (i:Nat):lvParG L i=lvParG M i:=by
  have:=er_lv h i
  unfold lvAt at this
  unfold lvParG
  rw [this,lvParK_er h]
theorem er_len {L M:List GRec} (h:L.map er=M.map er):L.length=M.length:=by
  have:=congrArg List.length h
  rwa [List.length_map,List.length_map] at this
theorem stepG_er {L M:List GRec} (h:L.map er=M.map er) (hk:∀ i,i<L.length->kidsG L i=kidsG M i) {i p:Nat} (hp:p<L.length):stepG L i p=stepG M i p:=by
  unfold stepG
  rw [hk p hp]
  cases hx:L[i]? with
  | none =>
    have:M[i]?=none:=by
      rw [List.getElem?_eq_none_iff] at hx ⊢
      rw [<-er_len h];exact hx
    rw [this]
  | some x =>
    obtain ⟨y,hy,he⟩:=er_get h hx
    rw [hy]
    obtain ⟨_,_,_,_,_,_,_,_,_⟩:=x
    obtain ⟨_,_,_,_,_,_,_,_,_⟩:=y
    simp only [er,stE,GRec.mk.injEq,true_and] at he
    obtain ⟨rfl,rfl,rfl,rfl,rfl,rfl,rfl⟩:=he
    rfl
theorem firstR_er {L M:List GRec} (h:L.map er=M.map er) (s:GStep):∀ (ks:List Nat) (n:Nat),firstR L s ks n=firstR M s ks n
  | [],_=>rfl
  | k::ks,n=>by
    unfold firstR
    cases hx:L[k]? with
    | none =>
      have:M[k]?=none:=by
        rw [List.getElem?_eq_none_iff] at hx ⊢
        rw [<-er_len h];exact hx
      rw [this]
    | some x =>
      obtain ⟨y,hy,he⟩:=er_get h hx
      rw [hy]
      dsimp only
      rw [firstR_er h s ks (n+1)]
      obtain ⟨_,_,_,_,_,_,_,_,_⟩:=x
      obtain ⟨_,_,_,_,_,_,_,_,_⟩:=y
      simp only [er,stE,GRec.mk.injEq,true_and] at he
      obtain ⟨rfl,rfl,rfl,rfl,rfl,rfl,rfl⟩:=he
      rfl
theorem findR_er {L M:List GRec} (h:L.map er=M.map er) (hk:∀ i,i<L.length->kidsG L i=kidsG M i):∀ (to:List GStep) (i:Nat),i<L.length->findR L i to=findR M i to
  | [],_,_=>rfl
  | s::to,i,hi=>by
    rw [findR,findR,firstR_er h,hk i hi]
    cases hf:firstR M s (kidsG M i) 0 with
    | none=>rfl
    | some k =>
      dsimp only
      exact findR_er h hk to k (by rw [er_len h];exact firstR_mem hf)
theorem upF_er {L M:List GRec} (h:L.map er=M.map er) (hk:∀ i,i<L.length->kidsG L i=kidsG M i) (hp:∀ i,i<L.length->parentG L i=parentG M i):∀ (n i:Nat),i<L.length->upF L n i=upF M n i
  | 0,_,_=>rfl
  | n+1,i,hi=>by
    have hlt:=parentG_lt L i
    rw [upF,upF,<-hp i hi]
    by_cases hc:parentG L i<0
    · rw [if_pos hc,if_pos hc]
    · rw [if_neg hc,if_neg hc,stepG_er h hk (by omega),upF_er h hk hp n _ (by omega)]
theorem fits_same {s t:GStep} (h:stepEq s t=true) (n:Nat) (r:GRec):fitsR s n r=fitsR t n r:=by
  obtain ⟨k1,a1,n1⟩:=s
  obtain ⟨k2,a2,n2⟩:=t
  cases n1<;>cases n2<;>simp [stepEq] at h<;>subst h<;>simp [fitsR]
theorem firstR_same {s t:GStep} (h:stepEq s t=true) (L:List GRec):∀ (ks:List Nat) (n:Nat),firstR L s ks n=firstR L t ks n
  | [],_=>rfl
  | k::ks,n=>by
    unfold firstR
    cases L[k]? with
    | none=>rfl
    | some x=>dsimp only;rw [fits_same h,firstR_same h L ks (n+1)]
theorem findR_same (L:List GRec):∀ {a b:List GStep},sameG a b=true->∀ i,findR L i a=findR L i b
  | [],[],_,_=>rfl
  | [],_::_,h,_=>by cases h
  | _::_,[],h,_=>by cases h
  | x::a,y::b,h,i=>by
    rw [sameG,Bool.and_eq_true] at h
    rw [findR,findR,firstR_same h.1]
    cases firstR L y (kidsG L i) 0 with
    | none=>rfl
    | some k=>exact findR_same L h.2 k
theorem firstR_some {L:List GRec} {s:GStep}:∀ {ks:List Nat} {n q:Nat},firstR L s ks n=some q->∃ (m:Nat) (r:GRec),ks[m]?=some q/\L[q]?=some r/\fitsR s (n+m) r=true
  | [],_,_,h=>by cases h
  | k::ks,n,q,h=>by
    unfold firstR at h
    cases hx:L[k]? with
    | none=>rw [hx] at h;cases h
    | some r =>
      rw [hx] at h
      dsimp only at h
      split at h
      · rename_i hf
        obtain rfl:=Option.some.inj h
        exact ⟨0,r,rfl,hx,hf⟩
      · obtain ⟨m,r',h1,h2,h3⟩:=firstR_some h
        exact ⟨m+1,r',by rw [List.getElem?_cons_succ];exact h1,h2,by rw [show n+(m+1)=n+1+m by omega];exact h3⟩
theorem fits_step {s:GStep} {m:Nat} {x:Itm} {r:GRec} (h1:r.nm=x.nm) (h2:r.name=x.name) (h:fitsR s m r=true):stepEq (stepOf m x) s=true:=by
  obtain ⟨k,a,n⟩:=s
  unfold fitsR at h
  rw [h1,h2] at h
  unfold stepOf
  cases n<;>cases hx:x.nm<;>rw [hx] at h<;>simp [stepEq] at h ⊢<;>exact h
theorem find_loc {gap:Int} (hg:0<gap) {L:List GRec}:∀ (to:List GStep) {g:GVal} {p:Nat} {now:Int} {pre:List GStep} {q:Nat},Loc gap L g p now pre->findR L p to=q->∃ P h now',Sub gap g p now P h q now'/\sameG P to=true
  | [],g,p,now,pre,q,hl,h=>by
    have h:(p:Int)=q:=h
    obtain rfl:p=q:=by omega
    exact ⟨[],g,now,.refl g p now,rfl⟩
  | s::to,g,p,now,pre,q,hl,h=>by
    rw [findR] at h
    cases hf:firstR L s (kidsG L p) 0 with
    | none=>rw [hf] at h;dsimp only at h;omega
    | some k =>
      rw [hf] at h
      dsimp only at h
      obtain ⟨m,r,h1,h2,h3⟩:=firstR_some hf
      rw [Nat.zero_add] at h3
      have hlen:(kidsG L p).length=(its g).length:=(kid_pos hg hl).1
      have hm:m<(its g).length:=by
        have:=(List.getElem?_eq_some_iff.1 h1).1
        omega
      have hx:(its g)[m]?=some (its g)[m]:=List.getElem?_eq_getElem hm
      rw [hl.kid_pos hg hm] at h1
      obtain rfl:=Option.some.inj h1
      obtain ⟨r',e1,e2,e3⟩:=hl.kid_rec hg hx
      rw [e1] at h2
      obtain rfl:=Option.some.inj h2
      obtain ⟨P,h',now',hs,hP⟩:=find_loc hg to (hl.kid hg hx).1 h
      refine ⟨_,h',now',.step hx hs,?_⟩
      rw [sameG,fits_step e2 e3 h3,hP]
      rfl
def rFindF (L:List GRec) (to:List GStep):Nat->Nat->Int
  | 0,_ => -1
  | n+1,k=>if sameG (rstepsG L k) to then k else rFindF L to n (k+1)
def rFindG (L:List GRec) (to:List GStep):Int:=rFindF L to L.length 0
theorem rFindF_none {L:List GRec} {to:List GStep}:∀ (n k:Nat),(∀ j,k<=j->j<k+n->sameG (rstepsG L j) to=false)->rFindF L to n k = -1
  | 0,_,_=>rfl
  | n+1,k,h=>by
    rw [rFindF,h k (Nat.le_refl _) (by omega),if_neg (by simp)]
    exact rFindF_none n (k+1) fun j h1 h2=>h j (by omega) (by omega)
theorem rFindF_some {L:List GRec} {to:List GStep} {q:Nat} (hq:sameG (rstepsG L q) to=true):∀ (n k:Nat),k<=q->q<k+n->(∀ j,k<=j->j<q->sameG (rstepsG L j) to=false)->rFindF L to n k=q
  | 0,k,h1,h2,_=>by omega
  | n+1,k,h1,h2,h=>by
    rw [rFindF]
    by_cases hk:k=q
    · subst hk
      rw [if_pos hq]
    · rw [h k (Nat.le_refl _) (by omega),if_neg (by simp)]
      exact rFindF_some hq n (k+1) (by omega) (by omega) fun j h3 h4=>h j (by omega) h4
theorem rfind_eq {L:List GRec} {g:GVal} {lo hi:Int} (hl:LayV g 0 false emptyS lo L hi) (hw:g.wf) (hk:keysOk g) (hok:okAtV g 0) (to:List GStep):findR L 0 to=rFindG L to:=by
  have H:=hl.byLv
  have hon:=levG_on (hl.levG hw hok)
  have her:=hl.er_eq hw 1 0
  have hS:=shred_lay (gap:=1) (by omega) hw 0 false emptyS 0
  have HS:=hS.byLv
  have hSon:=levG_on (hS.levG hw hok)
  have hlen:=er_len her
  have hcnt:=shredV_cnt 1 g 0 false emptyS 0 hw
  have hkd:∀ i,i<L.length->kidsG L i=kidsG (shredV 1 g 0 false emptyS 0).1 i:=fun i hi=>by
    rw [rkids_eq H hon hi,rkids_eq HS hSon (by omega),rkidsG_er her]
  have hpr:∀ i,i<L.length->parentG L i=parentG (shredV 1 g 0 false emptyS 0).1 i:=fun i hi=>by
    rw [rpar_eq H hi,rpar_eq HS (by omega),lvParG_er her]
  have hpos:0<L.length:=by
    cases hl with
    | mk=>simp
  have hpl:∀ i,i<L.length->placeG L i=placeG (shredV 1 g 0 false emptyS 0).1 i:=fun i hi=>by
    unfold placeG
    rw [upF_er her hkd hpr _ i hi]
  have hfd:findR L 0 to=findR (shredV 1 g 0 false emptyS 0).1 0 to:=findR_er her hkd to 0 hpos
  have hcomp:∀ i,i<L.length->sameG (rstepsG L i) to=true->findR L 0 to=i:=by
    intro i hi hs
    obtain ⟨h,now,h1,h2⟩:=shred_loc (gap:=1) (by omega) (nm:=false) (name:=emptyS) hw hk (i:=i) (by omega)
    have h3:=loc_find (gap:=1) (by omega) h1 (loc_root (nm:=false) (name:=emptyS) hw hk)
    have h4:=sameG_trans (rplace_eq H hon hi) hs
    rw [hpl i hi] at h4
    rw [hfd,<-findR_same _ h4,h3]
  unfold rFindG
  by_cases hneg:∃ q:Nat,findR L 0 to=q
  · obtain ⟨q,hq⟩:=hneg
    have hq':=hq
    rw [hfd] at hq'
    obtain ⟨P,h,now',hs,hP⟩:=find_loc (gap:=1) (by omega) to (loc_root (nm:=false) (name:=emptyS) hw hk) hq'
    have hql:q<L.length:=by
      obtain ⟨_,_,e⟩:=(Loc.sub (by omega) hs (loc_root (nm:=false) (name:=emptyS) hw hk)).rec_
      have:=(List.getElem?_eq_some_iff.1 e).1
      omega
    have hplq:placeG L q=P:=by
      rw [hpl q hql]
      unfold placeG
      have:=(Loc.sub (by omega) hs (loc_root (nm:=false) (name:=emptyS) hw hk)).place (q+1) (by omega)
      rw [this,List.nil_append,List.reverse_reverse]
    have hsq:sameG (rstepsG L q) to=true:=by
      rw [<-sameG_congr (rplace_eq H hon hql),hplq]
      exact hP
    rw [hq,rFindF_some hsq L.length 0 (Nat.zero_le _) (by omega) fun j _ hj=>?_]
    cases hc:sameG (rstepsG L j) to with
    | false=>rfl
    | true =>
      have:=hcomp j (by omega) hc
      omega
  · have hn1:findR L 0 to = -1:=by
      have:∀ (to:List GStep) (i:Nat),(∃ q:Nat,findR L i to=q)\/findR L i to = -1:=by
        intro to
        induction to with
        | nil=>intro i;exact .inl ⟨i,rfl⟩
        | cons s to ih =>
          intro i
          rw [findR]
          cases firstR L s (kidsG L i) 0 with
          | none=>exact .inr rfl
          | some k=>exact ih k
      rcases this to 0 with h | h
      · exact absurd h hneg
      · exact h
    rw [hn1,rFindF_none]
    intro j _ hj
    cases hc:sameG (rstepsG L j) to with
    | false=>rfl
    | true=>exact absurd ⟨j,hcomp j (by omega) hc⟩ hneg
theorem sound_by {L:List GRec} (h:soundG L=true):ByLv L/\LvOn L/\∀ to,findR L 0 to=rFindG L to:=by
  obtain ⟨hl,hw,-⟩:=sound_lay h
  have hs:=(sound_all h).2.2.2.2
  have hok:=(sane_iff.1 hs).1
  exact ⟨hl.byLv,levG_on (hl.levG hw hok),fun to=>rfind_eq hl hw (sane_keys _ 0 0 hs) hok to⟩
end Go.Sy
/- Plain laws: what the reference makes of records that are changed. No program in sight. -/
namespace Go.Sy
def rvalL (f:Nat->GVal) (lv:Int):Nat->List GRec->Kids
  | _,[]=>⟨[],[],[],[]⟩
  | k,r::T =>
    if lv<r.lv then
      if r.lv=lv+1 then
        if r.nm then ⟨(rvalL f lv (k+1) T).ls,r.name::(rvalL f lv (k+1) T).ks,f k::(rvalL f lv (k+1) T).vs,[]⟩
        else ⟨f k::(rvalL f lv (k+1) T).ls,(rvalL f lv (k+1) T).ks,(rvalL f lv (k+1) T).vs,[]⟩
      else rvalL f lv (k+1) T
    else ⟨[],[],[],[]⟩
def rvalN (L:List GRec):Nat->Nat->GVal
  | 0,_=>gval0
  | n+1,i=>match L[i]? with
    | none=>gval0
    | some r=>.mk r.kd r.b r.n r.s (rvalL (rvalN L n) r.lv (i+1) (L.drop (i+1))).ls (rvalL (rvalN L n) r.lv (i+1) (L.drop (i+1))).ks (rvalL (rvalN L n) r.lv (i+1) (L.drop (i+1))).vs
def rvalG (L:List GRec):GVal:=rvalN L L.length 0
theorem rvalL_skip (f:Nat->GVal) {lv:Int}:∀ (A T:List GRec) (k:Nat),(∀ r∈A,lv+1<r.lv)->rvalL f lv k (A++T)=rvalL f lv (k+A.length) T
  | [],T,k,_=>rfl
  | r::A,T,k,h=>by
    have hr:=h r List.mem_cons_self
    rw [List.cons_append,rvalL,if_pos (by omega),if_neg (by omega),rvalL_skip f A T (k+1) fun x hx=>h x (List.mem_cons_of_mem _ hx),List.length_cons]
    congr 1
    omega
theorem rvalL_end (f:Nat->GVal) {lv:Int} {T:List GRec} (k:Nat) (h:behind lv T):rvalL f lv k T=⟨[],[],[],[]⟩:=by
  cases T with
  | nil=>rfl
  | cons r T =>
    have h:r.lv<=lv:=h
    rw [rvalL,if_neg (by omega)]
def lsI (xs:List Itm):List GVal:=(xs.filter fun x=>!x.nm).map Itm.v
def ksI (xs:List Itm):List ByteArray:=(xs.filter fun x=>x.nm).map Itm.name
def vsI (xs:List Itm):List GVal:=(xs.filter fun x=>x.nm).map Itm.v
theorem its_ls {g:GVal} (h:g.wf):lsI (its g)=g.l/\ksI (its g)=g.ks/\vsI (its g)=g.vs:=by
  have hL:∀ l:List GVal,lsI (itsL l)=l/\ksI (itsL l)=[]/\vsI (itsL l)=[]:=by
    intro l
    induction l with
    | nil=>exact ⟨rfl,rfl,rfl⟩
    | cons x l ih =>
      obtain ⟨a,b,c⟩:=ih
      refine ⟨?_,?_,?_⟩
      · show x::lsI (itsL l)=_;rw [a]
      · exact b
      · exact c
  have hM:∀ (vs:List GVal) (ks:List ByteArray),ks.length=vs.length->lsI (itsM vs ks)=[]/\ksI (itsM vs ks)=ks/\vsI (itsM vs ks)=vs:=by
    intro vs
    induction vs with
    | nil =>
      intro ks h
      have:ks=[]:=List.eq_nil_of_length_eq_zero h
      subst this
      exact ⟨rfl,rfl,rfl⟩
    | cons v vs ih =>
      intro ks h
      cases ks with
      | nil=>simp at h
      | cons k ks =>
        obtain ⟨a,b,c⟩:=ih ks (by simpa using h)
        refine ⟨a,?_,?_⟩
        · show k::ksI (itsM vs ks)=_;rw [b]
        · show v::vsI (itsM vs ks)=_;rw [c]
  obtain ⟨h1,-,-⟩:=(wf_eq g).1 h
  obtain ⟨a1,a2,a3⟩:=hL g.l
  obtain ⟨b1,b2,b3⟩:=hM g.vs g.ks h1
  unfold its lsI ksI vsI at *
  rw [List.filter_append,List.filter_append,List.map_append,List.map_append,List.map_append,a1,a2,a3,b1,b2,b3]
  exact ⟨List.append_nil _,rfl,rfl⟩
theorem cntV_in:∀ {gs:List GVal} {g:GVal},g∈gs->cntV g<=cntL gs
  | x::gs,g,h=>by
    rw [cntL]
    rcases List.mem_cons.1 h with rfl | h
    · omega
    · have:=cntV_in h;omega
theorem rval_blk (L:List GRec):∀ (n:Nat) (g:GVal),cntV g<=n->g.wf->∀ (lv:Int) (nm:Bool) (name:ByteArray) (lo hi:Int) (K rest:List GRec) (i:Nat),LayV g lv nm name lo K hi->L.drop i=K++rest->behind lv rest->rvalN L n i=g
  | 0,g,hn,_,_,_,_,_,_,_,_,_,_,_,_=>by have:=cntV_pos g;omega
  | n+1,g,hn,hw,lv,nm,name,lo,hi,_,rest,i,.mk (K:=K) (st:=st) (en:=en) (m:=m) h1 h2 h3 h4,hd,hr=>by
    have hx:L[i]?=some ⟨st,en,lv,g.kind,nm,name,g.b,g.n,g.s⟩:=by
      have:(L.drop i)[0]?=some ⟨st,en,lv,g.kind,nm,name,g.b,g.n,g.s⟩:=by rw [hd];rfl
      simpa using this
    have hd1:L.drop (i+1)=K++rest:=by
      rw [<-List.drop_drop,hd]
      rfl
    have hc:=cntI_its hw
    have key:∀ (xs:List Itm),(∀ x∈xs,x.v.wf/\cntV x.v<=n)->∀ (lo hi:Int) (K:List GRec) (j:Nat),LayI xs (lv+1) lo K hi->L.drop j=K++rest->rvalL (rvalN L n) lv j (K++rest)=⟨lsI xs,ksI xs,vsI xs,[]⟩:=by
      intro xs
      induction xs with
      | nil =>
        intro _ lo hi K j hK _
        cases hK with
        | nil=>exact rvalL_end _ _ hr
      | cons x xs ih =>
        intro hxs lo hi K j hK hj
        cases hK with
        | cons hA hB =>
          rename_i mid A B
          have hx0:=hxs x List.mem_cons_self
          have hbB:behind (lv+1) (B++rest):=by
            cases hB with
            | nil =>
              rw [List.nil_append]
              exact hr.mono (by omega)
            | cons c d =>
              cases c with
              | mk=>exact Int.le_refl _
          rw [List.append_assoc] at hj
          have hv:=rval_blk L n x.v hx0.2 hx0.1 (lv+1) x.nm x.name lo mid A (B++rest) j hA hj hbB
          have hlv:=hA.lvb
          have hjd:L.drop (j+A.length)=B++rest:=by rw [<-List.drop_drop,hj,List.drop_left]
          have ihB:=ih (fun y hy=>hxs y (List.mem_cons_of_mem _ hy)) mid hi B (j+A.length) hB hjd
          cases hA with
          | mk a1 a2 a3 a4 =>
            rename_i st' en' m' K'
            have hskip:∀ r∈K',lv+1<r.lv:=fun r hr=>by
              have:=(a2.lvb r hr).1
              omega
            rw [List.append_assoc,List.cons_append,rvalL]
            dsimp only
            rw [if_pos (by omega),if_pos rfl,rvalL_skip _ K' (B++rest) (j+1) hskip]
            rw [List.length_cons] at ihB
            rw [show j+1+K'.length=j+(K'.length+1) by omega,ihB,hv]
            unfold lsI ksI vsI
            cases hn:x.nm with
            | true=>simp [hn]
            | false=>simp [hn]
    have hk:=key (its g) (fun x hx=>⟨its_wf hw hx,by
      have:cntV x.v<=cntL (valsI (its g)):=cntV_in (List.mem_map.2 ⟨x,hx,rfl⟩)
      unfold cntI at hc
      omega⟩) st m K (i+1) h2 hd1
    obtain ⟨e1,e2,e3⟩:=its_ls hw
    rw [e1,e2,e3] at hk
    rw [rvalN,hx]
    dsimp only
    rw [hd1,hk]
    dsimp only
    cases g
    rfl
theorem rvalL_er (f:Nat->GVal) (lv:Int):∀ (T:List GRec) (k:Nat),rvalL f lv k (T.map er)=rvalL f lv k T
  | [],_=>rfl
  | r::T,k=>by
    rw [List.map_cons,rvalL,rvalL,rvalL_er f lv T (k+1)]
    rfl
theorem rvalN_er (L:List GRec):∀ (n i:Nat),rvalN (L.map er) n i=rvalN L n i
  | 0,_=>rfl
  | n+1,i=>by
    have hf:rvalN (L.map er) n=rvalN L n:=funext fun i=>rvalN_er L n i
    rw [rvalN,rvalN,List.getElem?_map,hf]
    cases L[i]? with
    | none=>rfl
    | some r =>
      dsimp only [Option.map_some]
      rw [<-List.map_drop,rvalL_er]
      rfl
theorem rval_of {g:GVal} (hw:g.wf) {L:List GRec} (h:L.map er=(shredV 1 g 0 false emptyS 0).1.map er):rvalG L=g:=by
  have hlen:=er_len h
  have hcnt:=shredV_cnt 1 g 0 false emptyS 0 hw
  have:=rval_blk (shredV 1 g 0 false emptyS 0).1 L.length g (by omega) hw 0 false emptyS 0 (0+wV 1 g) _ [] 0 (shred_lay (gap:=1) (by omega) hw 0 false emptyS 0) (by rw [List.drop_zero,List.append_nil]) trivial
  unfold rvalG
  rw [<-rvalN_er,h,rvalN_er,this]
theorem spl_er {L M:List GRec} (h:L.map er=M.map er) (a b:Nat) {X Y:List GRec} (hx:X.map er=Y.map er):(spliced L a b X).map er=(spliced M a b Y).map er:=by
  unfold spliced
  simp only [List.map_append,List.map_take,List.map_drop,h,hx]
theorem spl_ins {g:GVal} (hw:g.wf) (hk:keysOk g) (hd:kinds g) {P:List GStep} {h:GVal} {a:Nat} {now:Int} (hsub:Sub 1 g 0 0 P h a now) (hloc:Loc 1 (shredV 1 g 0 false emptyS 0).1 h a now P)
    {kk:Nat} (hkk:kk<=(its h).length) (hkd:h.kind=4\/h.kind=5) {x:GVal} (hx:x.wf) (key:ByteArray) :
    ∃ g':GVal,g'.wf/\∀ M:List GRec,(∀ n,M.map er=(shredV 1 x ((P.length:Int)+1) (decide (h.kind=5)) (if h.kind=5 then key else emptyS) n).1.map er) ->
      (spliced (shredV 1 g 0 false emptyS 0).1 (a+1+cntI ((its h).take kk)) (a+1+cntI ((its h).take kk)) M).map er=(shredV 1 g' 0 false emptyS 0).1.map er:=by
  have hwh:=hloc.wf
  have hdh:kinds h:=sub_kinds hsub hw hd
  have hwi:=insIt_wf hwh hx kk key
  obtain ⟨g',hsw,pre,post,nm',name',p1,p2,-,p4⟩:=swap_all (gap:=1) (by omega) hw hk hsub hwi
  have hits:=its_ins hwh hdh hkd kk key x
  have hki:=insIt_kind h kk key x
  obtain ⟨s1',s2',s3,s4,-⟩:=shred_half (gap:=1) hwh kk P.length nm' name' now
  refine ⟨g',hsw.wf hw hwi,fun M hM=>?_⟩
  generalize hA:(shredI 1 ((its h).take kk) ((P.length:Int)+1) (now+1)).1=A at *
  generalize hB:(shredI 1 ((its h).drop kk) ((P.length:Int)+1) (now+1+wI 1 ((its h).take kk))).1=B at *
  have hsp:spliced (shredV 1 g 0 false emptyS 0).1 (a+1+cntI ((its h).take kk)) (a+1+cntI ((its h).take kk)) M=pre++((⟨now+1,now+wV 1 h,P.length,h.kind,nm',name',h.b,h.n,h.s⟩::(A++(M++B)))++post):=by
    have e:(shredV 1 g 0 false emptyS 0).1=(pre++⟨now+1,now+wV 1 h,P.length,h.kind,nm',name',h.b,h.n,h.s⟩::A)++(B++post):=by
      rw [p1,s1']
      simp only [List.cons_append,List.append_assoc]
    have el:(pre++(⟨now+1,now+wV 1 h,P.length,h.kind,nm',name',h.b,h.n,h.s⟩:GRec)::A).length=a+1+cntI ((its h).take kk):=by
      rw [List.length_append,List.length_cons,s2',p2]
      omega
    unfold spliced
    rw [e,<-el,List.take_left,List.drop_left]
    simp only [List.cons_append,List.append_assoc]
  rw [hsp]
  refine p4 _ ?_
  rw [shredV_its 1 _ _ _ _ _ hwi,hits,shredI_append,shredI]
  dsimp only
  rw [List.map_cons,List.map_cons,List.map_append,List.map_append,List.map_append,List.map_append,hki.1,hki.2.1,hki.2.2.1,hki.2.2.2]
  have eA:A.map er=(shredI 1 ((its h).take kk) ((P.length:Int)+1) (0+1)).1.map er:=by
    rw [<-hA]
    exact (shredI_lay' (gap:=1) (by omega) s3 _ _).er_eq s3 1 _
  have eB:∀ n,B.map er=(shredI 1 ((its h).drop kk) ((P.length:Int)+1) n).1.map er:=fun n=>by
    rw [<-hB]
    exact (shredI_lay' (gap:=1) (by omega) s4 _ _).er_eq s4 1 n
  rw [eA,eB,hM]
  rfl
theorem spl_rep {g:GVal} (hw:g.wf) (hk:keysOk g) {P:List GStep} {h:GVal} {a:Nat} {now:Int} (hsub:Sub 1 g 0 0 P h a now) (hloc:Loc 1 (shredV 1 g 0 false emptyS 0).1 h a now P) {x:GVal} (hx:x.wf) :
    ∃ (g':GVal) (nm':Bool) (name':ByteArray),g'.wf/\(shredV 1 g 0 false emptyS 0).1[a]?=some ⟨now+1,now+wV 1 h,P.length,h.kind,nm',name',h.b,h.n,h.s⟩ /\
      ∀ M:List GRec,M.map er=(shredV 1 x P.length nm' name' 0).1.map er->(spliced (shredV 1 g 0 false emptyS 0).1 a (a+cntV h) M).map er=(shredV 1 g' 0 false emptyS 0).1.map er:=by
  have hwh:=hloc.wf
  obtain ⟨g',hsw,pre,post,nm',name',p1,p2,-,p4⟩:=swap_all (gap:=1) (by omega) hw hk hsub hx
  have hcl:=shredV_cnt 1 h P.length nm' name' now hwh
  refine ⟨g',nm',name',hsw.wf hw hx,?_,fun M hM=>?_⟩
  · rw [p1,List.getElem?_append_right (by omega),p2,Nat.sub_self,shredV_its _ _ _ _ _ _ hwh]
    rfl
  · have hsp:spliced (shredV 1 g 0 false emptyS 0).1 a (a+cntV h) M=pre++(M++post):=by
      unfold spliced
      rw [<-List.drop_drop,p1,List.take_left' p2.symm,List.drop_left' p2.symm,List.drop_left' hcl]
    rw [hsp]
    exact p4 M hM
def rwholeG (L:List GRec):List GRec×Int:=shredG (rvalG (L.map er)) 8
theorem rwhole_of {g:GVal} (hw:g.wf) {L:List GRec} (h:L.map er=(shredV 1 g 0 false emptyS 0).1.map er):rwholeG L=anewG L:=by
  unfold rwholeG anewG
  have h2:(L.map er).map er=(shredV 1 g 0 false emptyS 0).1.map er:=by
    rw [List.map_map,<-h]
    exact List.map_congr_left fun r _=>rfl
  rw [rval_of hw h2,tree_renum hw h]
theorem sound_loc {L:List GRec} (h:soundG L=true):∃ g:GVal,g.wf/\keysOk g/\kinds g/\L.map er=(shredV 1 g 0 false emptyS 0).1.map er/\(∀ i,i<L.length->kidsG L i=kidsG (shredV 1 g 0 false emptyS 0).1 i/\lastG L i=lastG (shredV 1 g 0 false emptyS 0).1 i) /\
    ∀ i,i<L.length->∃ P h now,Sub 1 g 0 0 P h i now/\Loc 1 (shredV 1 g 0 false emptyS 0).1 h i now P:=by
  obtain ⟨hl,hw,-⟩:=sound_lay h
  have hs:=(sound_all h).2.2.2.2
  have hok:=(sane_iff.1 hs).1
  have hk:=sane_keys _ 0 0 hs
  have hd:=sane_kinds4 _ 0 0 hs
  have H:=hl.byLv
  have hon:=levG_on (hl.levG hw hok)
  have her:=hl.er_eq hw 1 0
  have hS:=shred_lay (gap:=1) (by omega) hw 0 false emptyS 0
  have HS:=hS.byLv
  have hSon:=levG_on (hS.levG hw hok)
  have hlen:=er_len her
  have hcnt:=shredV_cnt 1 (buildG L).1 0 false emptyS 0 hw
  refine ⟨(buildG L).1,hw,hk,hd,her,fun i hi=>⟨?_,?_⟩,fun i hi=>?_⟩
  · rw [rkids_eq H hon hi,rkids_eq HS hSon (by omega),rkidsG_er her]
  · rw [rLast_eq H hi,rLast_eq HS (by omega)]
    unfold rLastG
    have hrun:∀ (lv:Int) (T:List GRec),lvRun lv (T.map er)=lvRun lv T:=by
      intro lv T
      induction T with
      | nil=>rfl
      | cons r T ih=>rw [List.map_cons,lvRun,lvRun,ih];rfl
    have e:∀ lv:Int,lvRun lv (L.drop (i+1))=lvRun lv ((shredV 1 (buildG L).1 0 false emptyS 0).1.drop (i+1)):=fun lv=>by
      rw [<-hrun lv (L.drop (i+1)),<-hrun lv ((shredV 1 (buildG L).1 0 false emptyS 0).1.drop (i+1)),List.map_drop,List.map_drop,her]
    rw [er_lv her i,e]
  · obtain ⟨h',now,h1,h2⟩:=shred_loc (gap:=1) (by omega) (nm:=false) (name:=emptyS) hw hk (i:=i) (by omega)
    exact ⟨_,h',now,h1,h2⟩
end Go.Sy
namespace Go.Sy
open Go.Proofs
def idXs (l:List Int):List Value:=l.map fun k=>Value.int .i64 k
def idRows (l:List Int):List (List AT):=l.map fun k=>[.v (.int .i64 k)]
def idE (bo:Option Addr) (bc:Nat) (l:List Int):AE:=⟨bo,l.length,bc,3,1,idXs l⟩
theorem idRows_flat:∀ o:List Int,idXs o=(idRows o).flatten.map AT.val
  | []=>rfl
  | k::o=>by
    show Value.int .i64 k::idXs o=_
    rw [idRows_flat o]
    rfl
theorem idRows_get {l:List Int} {i:Nat} {x:Int} (h:l[i]?=some x):(idRows l)[i]?=some [.v (.int .i64 x)]:=by unfold idRows;rw [List.getElem?_map,h];rfl
theorem id_sealed {σ:Snap} {oo:Option Addr} {oc:Nat} {o:List Int} (h:ArrSealed σ (idE oo oc o)) (hc:o.length<=oc):SlAt σ oo o.length oc 1 (idRows o) :=
  h.sl (E:=idE oo oc o) (idRows_flat o) (fun r hr=>by
    obtain ⟨k,_,rfl⟩:=List.mem_map.1 hr
    exact ⟨rfl,fun c hc=>by cases hc with | head=>trivial | tail _ h=>cases h⟩) (by simp [idRows]) rfl hc
end Go.Sy
