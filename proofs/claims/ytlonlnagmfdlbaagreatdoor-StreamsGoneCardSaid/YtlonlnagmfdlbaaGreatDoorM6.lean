/- Parts of the proof of CStreamsGone: SyZ, K1, K2, KSh, K3, K4, K5, K6, Ja, F4, F5, F6. No conditions. -/
import Derived.Test.YtlonlnagmfdlbaaGreatDoorM5
import Derived.Laws.IdiomStrings
import Derived.Lib.BufferRead
import Derived.Shelf.Strings.Replace
import Derived.Test.YtlonlnagmfdlbaaGreatDoorProg
/- Bytes as a text, and a text's bytes appended. No program in sight. -/
namespace Go.Sy
theorem tk_slice {P:Program} {t e:TypeId} {ti:TI} (h:tiOf P t=some ti) (hk:ti.kind=.slice e):P.underlying t=some (.slice e):=by
  obtain ⟨i1,d1,z1,hs1⟩:=tiOf_spec h
  have h1:=hs1.kind
  rw [hk] at h1
  have h2:=hs1.und
  cases d1<;>first
    | (simp only [kindD,TK.slice.injEq] at h1;subst h1;exact h2)
    | (simp only [kindD] at h1;cases h1)
theorem tk_u8 {P:Program} {t:TypeId} {ti:TI} (h:tiOf P t=some ti) (hk:ti.kind=.int .u8):P.underlying t=some (.int .u8):=by
  obtain ⟨i1,d1,z1,hs1⟩:=tiOf_spec h
  have h1:=hs1.kind
  rw [hk] at h1
  have h2:=hs1.und
  cases d1<;>first
    | (simp only [kindD,TK.int.injEq] at h1;subst h1;exact h2)
    | (simp only [kindD] at h1;cases h1)
theorem tk_str {P:Program} {t:TypeId} {ti:TI} (h:tiOf P t=some ti) (hk:ti.kind=.str):P.underlying t=some .string:=by
  obtain ⟨i1,d1,z1,hs1⟩:=tiOf_spec h
  have h1:=hs1.kind
  rw [hk] at h1
  have h2:=hs1.und
  cases d1<;>first
    | exact h2
    | (simp only [kindD] at h1;cases h1)
def u8Rows (l:List UInt8):List (List AT):=l.map fun u=>[.v (.int .u8 u.toNat)]
def u8Xs (l:List UInt8):List Value:=l.map fun u=>.int .u8 u.toNat
def u8E (ao:Option Addr) (cap:Nat) (l:List UInt8):AE:=⟨ao,l.length,cap,5,1,u8Xs l⟩
theorem byteRows_u8 (s:ByteArray):byteRows s=u8Rows s.data.toList:=rfl
theorem u8Rows_len (l:List UInt8):(u8Rows l).length=l.length:=by simp [u8Rows]
theorem u8Xs_rows (l:List UInt8):u8Xs l=(u8Rows l).flatten.map AT.val:=by
  induction l with
  | nil=>rfl
  | cons u l ih =>
    show _::u8Xs l=_
    rw [ih]
    rfl
theorem u8Xs_append (a b:List UInt8):u8Xs (a++b)=u8Xs a++u8Xs b:=by simp [u8Xs]
theorem u8Rows_all (l:List UInt8):∀ r∈u8Rows l,r.length=1/\(∀ c∈r,c.lt 0)/\r.all AT.one=true:=by
  intro r hr
  obtain ⟨u,_,rfl⟩:=List.mem_map.1 hr
  exact ⟨rfl,fun c hc=>by rw [List.mem_singleton] at hc;subst hc;trivial,rfl⟩
theorem u8Rows_get {l:List UInt8} {i:Nat} {u:UInt8} (h:l[i]?=some u):(u8Rows l)[i]?=some [.v (.int .u8 u.toNat)]:=by unfold u8Rows;rw [List.getElem?_map,h];rfl
theorem u8_sealed {σ:Snap} {ao:Option Addr} {cap:Nat} {l:List UInt8} (hS:ArrSealed σ (u8E ao cap l)) (hc:l.length<=cap):SlAt σ ao l.length cap 1 (u8Rows l) :=
  hS.sl (u8Xs_rows l) (fun r hr=>⟨(u8Rows_all l r hr).1,(u8Rows_all l r hr).2.1⟩) (u8Rows_len l) rfl hc
section
variable {cf:Cf} {Q:Exit->Act->World->Prop} {σ:Snap} {env:Env} {hp:HP} {A:List AE} {nh:Nat} {it:Item} {rest:List Item}
theorem oj_strOf {d n cap:Nat} {x:Operand} {s t e:TypeId} {T:List (Nat×TI)} (hT:TTok cf.P T) {ts ti te:TI} {ao:Option Addr} {l:List UInt8} (hop:it.o.op=.convert s t x) (hd:it.o.dst=some d) (hg:guardVal it.guard env=some true)
    (hN:Nat.blt d cf.N=true) (htag:(match it.tag with | .pure=>false | _=>true)=true) (hx:evalO env x=some (.a (.v (.slice ao n cap)))) (hs:tget T s=some ts) (hks:ts.kind=.slice e) (hte:tget T e=some te) (hke:te.kind=.int .u8) (ht:tget T t=some ti) (hkt:ti.kind=.str)
    (H:SlAt σ ao n cap 1 (u8Rows l)) (k:OJ cf rest Q σ ((d,.a (.v (.string ⟨l.toArray⟩)))::env) hp A nh):OJ cf (it::rest) Q σ env hp A nh:=by
  refine oj_valW (.a (.v (.string ⟨l.toArray⟩))) hd hg hN trivial htag (fun _ a β ha w hw=>?_) k
  have us:=tk_slice (hT _ _ hs) hks
  have ue:=tk_u8 (hT _ _ hte) hke
  have ut:=tk_str (hT _ _ ht) hkt
  have hx':a.eval x=.slice ao n cap:=evalO_eval ha hx
  have hn:l.length=n:=by rw [<-H.len,u8Rows_len]
  have hrun:(convert s t (.slice ao n cap)).run cf.P w=.ok (.string ⟨l.toArray⟩) w:=by
    subst hn
    cases ao with
    | none =>
      have h0:l.length=0:=by
        rcases H.at_ with h | ⟨ad,h,_⟩
        · exact h
        · cases h
      have:l=[]:=List.eq_nil_of_length_eq_zero h0
      subst this
      exact Lib.run_convert_nil_bytes w s t e cap us ue ut
    | some ad =>
      refine run_convert_bytes_back w s t e ad cap l us ue ut fun j hj=>?_
      rcases H.at_ with h | ⟨ad',h,h2⟩
      · omega
      · injection h with h
        subst h
        have h3:=Snap.cell_sealed hw (h2 j _ 0 _ (u8Rows_get (List.getElem?_eq_getElem hj)) rfl)
        rw [Nat.mul_one,Nat.add_zero] at h3
        exact h3
  simp only [execOp,hop,hx',hrun,Sem.run_bind,Result.andThen_ok,Sem.run_pure]
  rfl
theorem oj_append_str {d:Nat} {s x:Operand} {t u e:Nat} {T:List (Nat×TI)} (hT:TTok cf.P T) {ti tu te:TI} (i:Nat) {E:AE} {ao:Option Addr} {n cap:Nat} {y:ByteArray}
    (hop:appendOf it.o.op=some (s,x,t,u)) (hd:it.o.dst=some d) (hg:guardVal it.guard env=some true) (hN:Nat.blt d cf.N=true) (htg:canSink it.tag=true)
    (hs:evalO env s=some (.a (.v (.slice ao n cap)))) (hx:evalO env x=some (.a (.v (.string y)))) (hA:A[i]?=some E) (hE:(E.ao,E.n,E.cap,E.e)=(ao,n,cap,e))
    (ht:tget T t=some ti) (hkt:ti.kind=.slice e) (hu:tget T u=some tu) (hku:slOrStr tu.kind=true) (hte:tget T e=some te) (hsz:E.sz=te.size) (hs1:te.size=1) (hzl:te.zero.length=te.size)
    (hmax:n+y.size<=9223372036854775807) (hby:(n+y.size)*te.bytes<=140737488355328)
    (hk:∀ ao' cap',n+y.size<=cap'->OJ cf rest Q σ ((d,.a (.v (.slice ao' (n+y.size) cap')))::env) hp (A.set i ⟨ao',n+y.size,cap',E.e,E.sz,E.xs++u8Xs y.data.toList⟩) nh):OJ cf (it::rest) Q σ env hp A nh:=by
  simp only [Prod.mk.injEq] at hE
  obtain ⟨rfl,rfl,rfl,rfl⟩:=hE
  refine oj_step hd hg hN htg fun hb a β ha w hw=>?_
  have hut:=tk_slice (hT _ _ ht) hkt
  obtain ⟨i2,d2,z2,hs2⟩:=tiOf_spec (hT _ _ hu)
  obtain ⟨i3,d3,z3,hs3⟩:=tiOf_spec (hT _ _ hte)
  have hz3:z3.cells.size=E.sz:=by
    have:=zero_den hs3 β
    rw [<-this,hsz]
    simp [hzl]
  have hxe:a.eval x=.string y:=evalO_eval ha hx
  have hse:a.eval s=.slice E.ao E.n E.cap:=evalO_eval ha hs
  have hnl:(u8Xs y.data.toList).length=y.size*E.sz:=by
    rw [hsz,hs1,Nat.mul_one]
    simp only [u8Xs,List.length_map,Array.length_toList]
    rfl
  obtain ⟨ao',cap',w',hrun,hw',hc'⟩:=hw.append hA (t:=t) (u:=u) (ty:=it.o.type) (x:=.string y) (m:=y.size) (news:=u8Xs y.data.toList) hut hs2.und (slOrStr_ok (by rw [hs2.kind];exact hku)) hs3.info hs3.zero
    (by rw [hs3.size,hsz]) hz3 (fun _=>rfl) (fun w'' _=>by
      have e1:(y.extract 0 y.size)=y:=ByteArray.extract_zero_size
      simp only [Builtin.firstCells,Sem.run_pure,e1]
      congr 1
      apply Array.ext'
      simp [u8Xs]) hnl
    (fun v hv=>by obtain ⟨c,_,rfl⟩:=List.mem_map.1 hv;rfl) (by simp only [maxLen];exact hmax) (by rw [hs3.bytes];exact hby)
  refine ⟨.a (.v (.slice ao' (E.n+y.size) cap')),σ,hp,_,nh,w',β,?_,ha,hb.put (x:=.a (.v (.slice ao' (E.n+y.size) cap'))) trivial d,hw',hk ao' cap' hc'⟩
  exact appendOf_run hop (by rw [hse,hxe];exact hrun)
end
theorem run_compl8 (c:UInt8) (w:World) (P:Program):(Op.unary .xor (.int .u8 (c.toNat:Int))).run P w=.ok (.int .u8 ((255 - c).toNat:Int)) w:=by
  have h:∀ n:Fin 256,IntKind.u8.wrap ((BitVec.ofInt 8 255 ^^^ BitVec.ofInt 8 (n.val:Int)).toNat:Int)=((255 - UInt8.ofNat n.val).toNat:Int):=by decide +kernel
  have h2:=h ⟨c.toNat,c.toNat_lt⟩
  have e:UInt8.ofNat c.toNat=c:=by simp
  rw [e] at h2
  show (Op.intBits .xor .u8 255 (c.toNat:Int)).run P w=_
  have h3:(Op.intBits .xor .u8 255 (c.toNat:Int)).run P w=.ok (.int .u8 (IntKind.u8.wrap ((BitVec.ofInt 8 255 ^^^ BitVec.ofInt 8 (c.toNat:Int)).toNat:Int))) w:=rfl
  rw [h3,h2]
section
variable {cf:Cf} {Q:Exit->Act->World->Prop} {σ:Snap} {env:Env} {hp:HP} {A:List AE} {nh:Nat} {it:Item} {rest:List Item}
theorem oj_compl8 {d:Nat} {x:Operand} {t:TypeId} {c:UInt8} (hop:it.o.op=.unOp .xor t x) (hd:it.o.dst=some d) (hg:guardVal it.guard env=some true) (hN:Nat.blt d cf.N=true)
    (hx:evalO env x=some (.a (.v (.int .u8 (c.toNat:Int))))) (hk:OJ cf rest Q σ ((d,.a (.v (.int .u8 ((255 - c).toNat:Int))))::env) hp A nh):OJ cf (it::rest) Q σ env hp A nh:=by
  refine oj_val (.a (.v (.int .u8 ((255 - c).toNat:Int)))) hd hg hN trivial (fun _ a β ha w=>?_) hk
  have h1:a.eval x=.int .u8 (c.toNat:Int):=evalO_eval ha hx
  simp only [execOp,hop,h1,run_compl8,Sem.run_bind,Sem.run_pure,Result.andThen_ok]
  rfl
end
section
variable {cf:Cf} {Q:Exit->Act->World->Prop} {σ σb:Snap} {env:Env} {hp hpb:HP} {A:List AE} {nh nb cnt:Nat} {ops:Array Oper} {U bef:List Nat} {listed:Array Bool}
theorem gb_step {j d:Nat} {o:Oper} (hj:ops[j]?=some o) (hd:o.dst=some d) (hg:guardVal (slotOf ops o) env=some true) (hN:Nat.blt d cf.N=true)
    (h:Bd env hp nh->∀ a β,StA cf env β a->∀ w,StW cf σ hp A β w->∃ (y:SV) (A':List AE) (w':World),(execOp a.eval o).run cf.P w=.ok (.value (y.den β)) w'/\y.lt 0/\StW cf σ hp A' β w'/\GB cf ops U (bef++[j]) σb hpb nb cnt (listed.setIfInBounds j true) Q σ ((d,y)::env) hp A' nh) :
    GBK cf ops U bef σb hpb nb cnt listed j Q σ env hp A nh:=by
  refine ⟨fun hs hb hbb hnb hle hsub a β ha hex hex0 hcl hr=>?_⟩
  obtain ⟨w0,hw0⟩:=id hex0
  have hN':d<cf.N:=by simpa [Nat.blt_eq] using hN
  have hwant:Region.wanted o (yielded ops a.tmps)=true:=by rw [<-wantedS_slotOf];exact guardVal_ok ha hg
  unfold stepC
  simp only [hj]
  rw [if_pos hwant]
  intro w hw
  obtain ⟨y,A',w',hrun,hy,hw',hk⟩:=h hb a β ha w hw
  unfold Oper.wq
  rw [hrun]
  refine ⟨_,_,hw',fun x hx=>hw0.base hle hsub hx,.inl fun _ h=>h,?_⟩
  rw [hd]
  exact hk.run hs (hb.put (SV.lt_mono (Nat.zero_le _) hy) d) hbb hnb hle hsub (a.put (some d) (y.den β)) β (ha.put hN' y) ⟨_,hw'⟩ ⟨w0,hw0⟩ (hcl.set hr)
theorem gb_append_lit {q d:Nat} {o:Oper} {s x:Operand} {t u e:Nat} {T:List (Nat×TI)} (hT:TTok cf.P T) {ti tu te:TI} (i:Nat) {E:AE} {ao:Option Addr} {n cap j m:Nat} {k:HK} {cs:List AT}
    (hj:ops[q]?=some o) (hop:appendOf o.op=some (s,x,t,u)) (hd:o.dst=some d) (hg:guardVal (slotOf ops o) env=some true) (hN:Nat.blt d cf.N=true)
    (hs:evalO env s=some (.a (.v (.slice ao n cap)))) (hx:evalO env x=some (.a (.sl j m))) (hrow:hp.get j=some (k,cs)) (hA:A[i]?=some E) (hE:(E.ao,E.n,E.cap,E.e)=(ao,n,cap,e))
    (ht:tget T t=some ti) (hkt:ti.kind=.slice e) (hu:tget T u=some tu) (hku:slOrStr tu.kind=true) (hte:tget T e=some te) (hsz:E.sz=te.size) (hzl:te.zero.length=te.size) (hcs:cs.length=m*te.size)
    (hclo:∀ c∈cs,c.lt 0) (hone:cs.all AT.one=true) (hmax:n+m<=9223372036854775807) (hby:(n+m)*te.bytes<=140737488355328)
    (hk:∀ ao' cap',n+m<=cap'->GB cf ops U (bef++[q]) σb hpb nb cnt (listed.setIfInBounds q true) Q σ ((d,.a (.v (.slice ao' (n+m) cap')))::env) hp (A.set i ⟨ao',n+m,cap',E.e,E.sz,E.xs++cs.map AT.val⟩) nh):GBK cf ops U bef σb hpb nb cnt listed q Q σ env hp A nh:=by
  simp only [Prod.mk.injEq] at hE
  obtain ⟨rfl,rfl,rfl,rfl⟩:=hE
  refine gb_step hj hd hg hN fun hb a β ha w hw=>?_
  obtain ⟨i1,d1,z1,hs1⟩:=tiOf_spec (hT _ _ ht)
  obtain ⟨i2,d2,z2,hs2⟩:=tiOf_spec (hT _ _ hu)
  obtain ⟨i3,d3,z3,hs3⟩:=tiOf_spec (hT _ _ hte)
  have hut:cf.P.underlying t=some (.slice E.e):=by
    have h1:=hs1.kind
    rw [hkt] at h1
    have h2:=hs1.und
    cases d1<;>first
      | (simp only [kindD,TK.slice.injEq] at h1;subst h1;exact h2)
      | (simp only [kindD] at h1;cases h1)
  have hz3:z3.cells.size=E.sz:=by
    have:=zero_den hs3 β
    rw [<-this,hsz]
    simp [hzl]
  have hcells:∀ j' v,(cs.map AT.val)[j']?=some v->w.cell? ((β j).add j')=some v:=by
    intro j' v hv
    rw [List.getElem?_map] at hv
    obtain ⟨c,hc,rfl⟩:=map_some hv
    rw [<-AT.den_val (hclo c (List.mem_of_getElem? hc)) β]
    exact hw.cell hrow hc
  have hnl:(cs.map AT.val).length=m*E.sz:=by rw [List.length_map,hcs,hsz]
  have hxe:a.eval x=.slice (some (β j)) m m:=evalO_eval ha hx
  have hse:a.eval s=.slice E.ao E.n E.cap:=evalO_eval ha hs
  obtain ⟨ao',cap',w',hrun,hw',hc'⟩:=hw.append hA (t:=t) (u:=u) (ty:=o.type) (x:=.slice (some (β j)) m m) (m:=m) (news:=cs.map AT.val) hut hs2.und (slOrStr_ok (by rw [hs2.kind];exact hku)) hs3.info hs3.zero
    (by rw [hs3.size,hsz]) hz3 (fun _=>rfl) (fun w'' hh=>run_firstCells_some (P:=cf.P) w'' E.sz m (β j) m m _ hnl fun j' v hv=>by
      have:=hcells j' v hv
      rw [World.cell?,hh];exact this) hnl
    (fun v hv=>by obtain ⟨c,hc,rfl⟩:=List.mem_map.1 hv;exact AT.one_den β0 (List.all_eq_true.1 hone c hc)) (by simp only [maxLen];exact hmax) (by rw [hs3.bytes];exact hby)
  refine ⟨.a (.v (.slice ao' (E.n+m) cap')),_,w',?_,trivial,hw',hk ao' cap' hc'⟩
  exact appendOf_run hop (by rw [hse,hxe];exact hrun)
end
end Go.Sy
namespace Go.Sy
open Go.Proofs
def paCells (p:GPart):List AT:=[.v (.int .i64 p.kd),.b p.b,.b p.n.neg,.v (.string p.n.dg),.v (.int .i64 p.n.ex),.v (.string p.s),.v (.int .i64 p.i)]
theorem paCells_lt (n:Nat) (p:GPart):∀ c∈paCells p,c.lt n:=by simp [paCells,AT.lt]
def paRows (l:List GPart):List (List AT):=l.map paCells
theorem paRows_get {l:List GPart} {i:Nat} {x:GPart} (h:l[i]?=some x):(paRows l)[i]?=some (paCells x):=by unfold paRows;rw [List.getElem?_map,h];rfl
theorem paRows_all (l:List GPart):∀ r∈paRows l,r.length=7/\(∀ c∈r,c.lt 0)/\r.all AT.one=true:=by
  intro r hr
  obtain ⟨x,_,rfl⟩:=List.mem_map.1 hr
  exact ⟨rfl,paCells_lt 0 x,rfl⟩
def paXs (l:List GPart):List Value:=(paRows l).flatten.map AT.val
def paVals (p:GPart):Array Value:=#[.int .i64 p.kd,.bool p.b,.bool p.n.neg,.string p.n.dg,.int .i64 p.n.ex,.string p.s,.int .i64 p.i]
theorem run_partB {P:Program} {w:World} {t:TypeId} {xs:Array Value} {o n:Nat} {d:TypeDesc} (hu:P.underlying t=some d) (hd:aggD d=true) (hn:P.cellsOf t=n):(part t xs o).run P w=.ok (.agg (xs.extract o (o+n))) w:=by
  simp only [part,Sem.run_bind,run_isAgg hu,hd,Result.andThen_ok,if_true,run_sizeB hn hu,Sem.run_pure]
structure PartT (t:Nat):Prop where
  und:Tryz.prog.underlying t=some (.struct (Tryz.prog.fieldsOf t))
  held:Tryz.prog.stoodInHeld t=false
  grd:Tryz.prog.eqGuardType Tryz.prog.depth t=false
  fs:fieldsAre (Tryz.prog.fieldsOf t).toList [(3,0),(4,1),(24,2),(9,5),(3,6)]=true
theorem und23c:Tryz.prog.cellsOf 24=3:=by kernel_rfl
theorem eqPart_ok {t:Nat} (ht:PartT t) (m:Nat) (a b:GPart) (w:World):(Op.equalIn (m+1+1+1) t (.agg (paVals a)) (.agg (paVals b))).run Tryz.prog w=.ok (decide (a=b)) w:=by
  rw [run_equalIn_agg w (m+1+1) t _ _ ht.und ht.held]
  have h:=ht.fs
  generalize (Tryz.prog.fieldsOf t).toList=fl at h
  obtain ⟨f0,fl,rfl,n0,t0,o0,h⟩:=fieldsAre_cons h
  obtain ⟨f1,fl,rfl,n1,t1,o1,h⟩:=fieldsAre_cons h
  obtain ⟨f2,fl,rfl,n2,t2,o2,h⟩:=fieldsAre_cons h
  obtain ⟨f3,fl,rfl,n3,t3,o3,h⟩:=fieldsAre_cons h
  obtain ⟨f4,fl,rfl,n4,t4,o4,h⟩:=fieldsAre_cons h
  cases fl with
  | cons _ _=>cases h
  | nil =>
    have ii:∀ (f:Field) (o:Nat) (r:GPart) (x:Int),f.type=3->f.offset=o->(paVals r)[o]?=some (.int .i64 x)->(part f.type (paVals r) f.offset).run Tryz.prog w=.ok (.int .i64 x) w:=fun f o r x ht ho hx=>run_part1 (by rw [ht];exact und3) rfl (by rw [ho];exact hx)
    have bb:∀ (f:Field) (o:Nat) (r:GPart) (x:Bool),f.type=4->f.offset=o->(paVals r)[o]?=some (.bool x)->(part f.type (paVals r) f.offset).run Tryz.prog w=.ok (.bool x) w:=fun f o r x ht ho hx=>run_part1 (by rw [ht];exact und4) rfl (by rw [ho];exact hx)
    have ss:∀ (f:Field) (o:Nat) (r:GPart) (x:ByteArray),f.type=9->f.offset=o->(paVals r)[o]?=some (.string x)->(part f.type (paVals r) f.offset).run Tryz.prog w=.ok (.string x) w:=fun f o r x ht ho hx=>run_part1 (by rw [ht];exact und9) rfl (by rw [ho];exact hx)
    have dd:∀ (r:GPart),(part f2.type (paVals r) f2.offset).run Tryz.prog w=.ok (.agg #[.bool r.n.neg,.string r.n.dg,.int .i64 r.n.ex]) w:=fun r=>by
      rw [run_partB (n:=3) (by rw [t2];exact und23) rfl (by rw [t2];exact und23c),o2]
      rfl
    rw [eqFields_cons (r:=a.kd == b.kd) n0 (ii f0 0 a _ t0 o0 rfl) (ii f0 0 b _ t0 o0 rfl) (run_equalIn_int w (m+1) f0.type .i64 .i64 a.kd b.kd (by rw [t0];exact und3))]
    rw [eqFields_cons (r:=a.b == b.b) n1 (bb f1 1 a _ t1 o1 rfl) (bb f1 1 b _ t1 o1 rfl) (run_equalIn_bool' w (m+1) f1.type a.b b.b (by rw [t1];exact und4))]
    rw [eqFields_cons (r:=decide (a.n=b.n)) n2 (dd a) (dd b) (by rw [t2];exact eqDec_ok m a.n b.n w)]
    rw [eqFields_cons (r:=decide (a.s=b.s)) n3 (ss f3 5 a _ t3 o3 rfl) (ss f3 5 b _ t3 o3 rfl) (run_eqStr (m+1) f3.type a.s b.s (by rw [t3];exact und9))]
    rw [eqFields_cons (r:=a.i == b.i) n4 (ii f4 6 a _ t4 o4 rfl) (ii f4 6 b _ t4 o4 rfl) (run_equalIn_int w (m+1) f4.type .i64 .i64 a.i b.i (by rw [t4];exact und3))]
    simp only [Op.eqFields,Sem.run_pure]
    have:(decide (a=b))=(a.kd == b.kd&&(a.b == b.b&&(decide (a.n=b.n)&&(decide (a.s=b.s)&&a.i == b.i)))):=by
      rw [Bool.eq_iff_iff]
      cases a;cases b
      simp
    rw [this]
    cases (a.kd == b.kd)<;>cases (a.b == b.b)<;>cases decide (a.n=b.n)<;>cases decide (a.s=b.s)<;>cases (a.i == b.i)<;>rfl
section
variable {cf:Cf} {Q:Exit->Act->World->Prop} {σ:Snap} {env:Env} {hp:HP} {A:List AE} {nh:Nat} {it:Item} {rest:List Item}
theorem oj_eqPart {t:Nat} (ht:PartT t) {d:Nat} {x y:Operand} {yt:TypeId} {ca cb:List AT} (a b:GPart) (hP:cf.P=Tryz.prog)
    (hop:it.o.op=.binOp .eql t x y yt) (hd:it.o.dst=some d) (hg:guardVal it.guard env=some true) (hN:Nat.blt d cf.N=true) (hx:evalO env x=some (.agg ca)) (hy:evalO env y=some (.agg cb))
    (hca:∀ β,ca.map (AT.den β)=(paCells a).map (AT.den β)) (hcb:∀ β,cb.map (AT.den β)=(paCells b).map (AT.den β))
    (hk:OJ cf rest Q σ ((d,.a (.b (decide (a=b))))::env) hp A nh):OJ cf (it::rest) Q σ env hp A nh:=by
  refine oj_val (.a (.b (decide (a=b)))) hd hg hN trivial (fun _ ac β ha w=>?_) hk
  have h1:ac.eval x=.agg (paVals a):=(evalO_eval ha hx).trans (by simp only [SV.den,hca];rfl)
  have h2:ac.eval y=.agg (paVals b):=(evalO_eval ha hy).trans (by simp only [SV.den,hcb];rfl)
  rw [hP]
  have hG:(eqGuard .eql t x y (.agg (paVals a)) (.agg (paVals b))).run Tryz.prog w=.ok () w:=run_eqGuard_agg w _ _ _ _ _ _ ht.grd
  have hE:(Op.equalIn 10000 t (.agg (paVals a)) (.agg (paVals b))).run Tryz.prog w=.ok (decide (a=b)) w:=eqPart_ok ht 9997 a b w
  have hB:(binOp .eql t (.agg (paVals a)) (.agg (paVals b))).run Tryz.prog w=.ok (.bool (decide (a=b))) w:=by
    rw [run_eql_struct,hE]
    rfl
  simp only [execOp,hop,h1,h2,Sem.run_bind,hG,hB,Result.andThen_ok,Sem.run_pure]
  rfl
end
theorem partT49:PartT 99:=⟨by kernel_rfl,by kernel_rfl,by kernel_rfl,by kernel_rfl⟩
set_option maxRecDepth 100000 in
set_option maxHeartbeats 2000000 in
theorem right_c (σ:Snap) (p:GPart) (hd:p.n.dg.size<=mostLen):PlainS Tryz.prog 218 [.agg (paCells p)] σ (fun v=>v=.bool (rightG p)):=by
  obtain ⟨kd,b,n,s,i⟩:=p
  refine enter_p Tryz.func218 rfl rfl ⟨paCells_lt 0 _,trivial⟩ fun w=>?_
  (repeat (first | refine cj_seq ?_ | refine cjr TT rfl ?_ | refine oj_then ?_ | refine cj_block ?_))
  refine cj_if rfl (fun h=>?_) (fun h0=>?_)
  · have h:=of_decide_eq_true (show decide (kd=0)=true from h)
    (repeat (first | refine cj_seq ?_ | refine cjr TT rfl ?_ | refine cj_skip ?_ | refine nj_then ?_ | refine nj_block ?_))
    refine oj_eqPart partT49 ⟨0,b,n,s,i⟩ part0 rfl rfl rfl rfl rfl rfl rfl (fun _=>rfl) (fun _=>rfl) (oj_run TT rfl ?_)
    (repeat (first | refine oj_then ?_ | refine cj_ret ?_))
    refine nj_ret TT rfl fun β w' _ _=>?_
    subst h
    rfl
  have h0:=of_decide_eq_false (show decide (kd=0)=false from h0)
  (repeat (first | refine cj_seq ?_ | refine cjr TT rfl ?_ | refine oj_then ?_))
  refine cj_if rfl (fun h=>?_) (fun h1=>?_)
  · have h:=of_decide_eq_true (show decide (kd=1)=true from h)
    (repeat (first | refine cj_seq ?_ | refine cjr TT rfl ?_ | refine oj_nil ?_ | refine nj_then ?_ | refine nj_block ?_))
    refine oj_eqPart partT49 ⟨0,false,n,s,i⟩ part0 rfl rfl rfl rfl rfl rfl rfl (fun _=>rfl) (fun _=>rfl) (oj_run TT rfl ?_)
    (repeat (first | refine oj_then ?_ | refine cj_ret ?_))
    refine nj_ret TT rfl fun β w' _ _=>?_
    subst h
    rfl
  have h1:=of_decide_eq_false (show decide (kd=1)=false from h1)
  (repeat (first | refine cj_seq ?_ | refine cjr TT rfl ?_ | refine oj_then ?_))
  refine cj_if rfl (fun h=>?_) (fun h2=>?_)
  · have h:=of_decide_eq_true (show decide (kd=2)=true from h)
    (repeat (first | refine cj_seq ?_ | refine cjr TT rfl ?_ | refine oj_then ?_))
    refine oj_eqPart partT49 ⟨0,b,dec0,s,i⟩ part0 rfl rfl rfl rfl rfl rfl rfl (fun _=>rfl) (fun _=>rfl) (oj_run TT rfl ?_)
    refine oj_split 20 rfl (fun hq=>?_) (fun hq=>?_)
    · have hq:decide ((⟨0,b,dec0,s,i⟩:GPart)=part0)=true:=hq
      refine oj_run TT rfl ?_
      refine oj_callP rfl rfl rfl rfl rfl Tryz.call228 (by (repeat' (first | exact trivial | exact decCells_lt _ _ | constructor))) (decSane_c σ n hd) fun v hv=>⟨.a (.b (decSane n)),trivial,hv.symm,?_⟩
      refine oj_run TT rfl ?_
      (repeat (first | refine oj_then ?_ | refine cj_ret ?_ | refine nj_then_ret ?_ | refine nj_block_ret ?_))
      refine nj_ret TT rfl fun β w' _ _=>?_
      subst h
      show Value.bool (decSane n)=.bool (decide ((⟨0,b,dec0,s,i⟩:GPart)=part0)&&decSane n)
      rw [hq,Bool.true_and]
    · have hq:decide ((⟨0,b,dec0,s,i⟩:GPart)=part0)=false:=hq
      refine oj_run TT rfl ?_
      (repeat (first | refine oj_then ?_ | refine cj_ret ?_ | refine nj_then_ret ?_ | refine nj_block_ret ?_))
      refine nj_ret TT rfl fun β w' _ _=>?_
      subst h
      show Value.bool false=.bool (decide ((⟨0,b,dec0,s,i⟩:GPart)=part0)&&decSane n)
      rw [hq,Bool.false_and]
  have h2:=of_decide_eq_false (show decide (kd=2)=false from h2)
  (repeat (first | refine cj_seq ?_ | refine cjr TT rfl ?_ | refine oj_then ?_))
  refine cj_if rfl (fun h=>?_) (fun h3=>?_)
  · have h:=of_decide_eq_true (show decide (kd=3)=true from h)
    (repeat (first | refine cj_seq ?_ | refine cjr TT rfl ?_ | refine oj_nil ?_ | refine nj_then ?_ | refine nj_block ?_))
    refine oj_eqPart partT49 ⟨0,b,n,emptyB,i⟩ part0 rfl rfl rfl rfl rfl rfl rfl (fun _=>rfl) (fun _=>rfl) (oj_run TT rfl ?_)
    (repeat (first | refine oj_then ?_ | refine cj_ret ?_))
    refine nj_ret TT rfl fun β w' _ _=>?_
    subst h
    rfl
  have h3:=of_decide_eq_false (show decide (kd=3)=false from h3)
  (repeat (first | refine cj_seq ?_ | refine cjr TT rfl ?_ | refine oj_then ?_))
  refine cj_if rfl (fun h=>?_) (fun h9=>?_)
  · have h:=of_decide_eq_true (show decide (kd=9)=true from h)
    (repeat (first | refine cj_seq ?_ | refine cjr TT rfl ?_ | refine oj_then ?_))
    refine oj_eqPart partT49 ⟨0,b,n,s,0⟩ part0 rfl rfl rfl rfl rfl rfl rfl (fun _=>rfl) (fun _=>rfl) (oj_run TT rfl ?_)
    refine oj_split 34 rfl (fun hq=>?_) (fun hq=>?_)
    · have hq:decide ((⟨0,b,n,s,0⟩:GPart)=part0)=true:=hq
      refine oj_run TT rfl ?_
      refine oj_split 39 rfl (fun hi=>?_) (fun hi=>?_)
      · have hi:decide (0<=i)=true:=hi
        refine oj_run TT rfl ?_
        (repeat (first | refine oj_then ?_ | refine cj_ret ?_ | refine nj_then_ret ?_ | refine nj_block_ret ?_))
        refine nj_ret TT rfl fun β w' _ _=>?_
        subst h
        show Value.bool (decide (i<=4294967295))=.bool (decide ((⟨0,b,n,s,0⟩:GPart)=part0)&&decide (0<=i)&&decide (i<=4294967295))
        rw [hq,hi,Bool.true_and,Bool.true_and]
      · have hi:decide (0<=i)=false:=hi
        refine oj_run TT rfl ?_
        (repeat (first | refine oj_then ?_ | refine cj_ret ?_ | refine nj_then_ret ?_ | refine nj_block_ret ?_))
        refine nj_ret TT rfl fun β w' _ _=>?_
        subst h
        show Value.bool false=.bool (decide ((⟨0,b,n,s,0⟩:GPart)=part0)&&decide (0<=i)&&decide (i<=4294967295))
        rw [hi,Bool.and_false,Bool.false_and]
    · have hq:decide ((⟨0,b,n,s,0⟩:GPart)=part0)=false:=hq
      refine oj_run TT rfl ?_
      (repeat (first | refine oj_then ?_ | refine cj_ret ?_ | refine nj_then_ret ?_ | refine nj_block_ret ?_))
      refine nj_ret TT rfl fun β w' _ _=>?_
      subst h
      show Value.bool false=.bool (decide ((⟨0,b,n,s,0⟩:GPart)=part0)&&decide (0<=i)&&decide (i<=4294967295))
      rw [hq,Bool.false_and,Bool.false_and]
  have h9:=of_decide_eq_false (show decide (kd=9)=false from h9)
  (repeat (first | refine cj_seq ?_ | refine cjr TT rfl ?_ | refine oj_then ?_ | refine cj_ret ?_ | refine nj_then_ret ?_ | refine nj_block_ret ?_))
  refine nj_ret TT rfl fun β w' _ _=>?_
  unfold rightG
  dsimp only
  rw [if_neg h0,if_neg h1,if_neg h2,if_neg h3,if_neg h9]
  rfl
end Go.Sy
namespace Go.Sy
open Go.Proofs
def fillK (l:List UInt8) (k:Nat):List UInt8:=l.take k++List.replicate (l.length - k) 0
theorem fillK_all (l:List UInt8):fillK l l.length=l:=by unfold fillK;simp
theorem fillK_set {l:List UInt8} {k:Nat} {x:UInt8} (h:l[k]?=some x):(fillK l k).set k x=fillK l (k+1):=by
  obtain ⟨hk,he⟩:=List.getElem?_eq_some_iff.1 h
  unfold fillK
  have hl:(l.take k).length=k:=by rw [List.length_take];omega
  rw [List.take_succ_eq_append_getElem hk,he,show l.length - k=(l.length - (k+1))+1 by omega,List.replicate_succ,List.set_append_right _ _ (by omega),hl,Nat.sub_self,List.set_cons_zero,List.append_assoc]
  rfl
theorem u8Xs_set (l:List UInt8) (k:Nat) (x:UInt8):(u8Xs l).set k (.int .u8 (x.toNat:Int))=u8Xs (l.set k x):=by
  unfold u8Xs
  rw [List.map_set]
theorem u8Xs_zeros (n:Nat):(List.replicate n ([.int .u8 0]:List Value)).flatten=u8Xs (List.replicate n 0):=by
  induction n with
  | zero=>rfl
  | succ n ih =>
    rw [List.replicate_succ,List.replicate_succ,List.flatten_cons,ih]
    rfl
theorem turnG_get {l:List UInt8} {k:Nat} {x:UInt8} (h:l[k]?=some x):(turnG l)[k]?=some (255 - x):=by unfold turnG;rw [List.getElem?_map,h];rfl
theorem turnG_len (l:List UInt8):(turnG l).length=l.length:=by simp [turnG]
set_option maxRecDepth 100000 in
set_option maxHeartbeats 2000000 in
theorem turned_c (σ:Snap) (l:List UInt8) (hl:l.length<=1000000) (ao:Option Addr) (cap:Nat) (H:SlAt σ ao l.length cap 1 (u8Rows l)) :
    PureS Tryz.prog 237 [.a (.v (.slice ao l.length cap))] σ (fun v σ'=>∃ bo bc,v=.slice bo l.length bc/\SlAt σ' bo l.length bc 1 (u8Rows (turnG l))):=by
  refine enter_s Tryz.func237 rfl rfl (by (repeat' (first | exact trivial | constructor))) fun w=>?_
  (repeat (first | refine cj_seq ?_ | refine cjr TT rfl ?_ | refine oj_then ?_))
  refine oj_makeSliceN (n:=l.length) TT _ rfl rfl rfl rfl rfl rfl rfl rfl rfl rfl (by show l.length*1<=_;omega) (by omega) (madeCells_rep [.int .u8 0] l.length) fun g=>?_
  rw [u8Xs_zeros]
  refine oj_run TT rfl ?_
  (repeat (first | refine cj_seq ?_ | refine cjr TT rfl ?_ | refine oj_then ?_ | refine cj_block ?_))
  refine cj_loop (fun (_:Nat)=>σ) (fun k=>[(3,.a (.v (.slice (some ⟨g,0,none⟩) l.length l.length))),(9,.a (.v (.slice ao l.length cap))),(10,.a (.v (.int .i64 l.length))),(11,.a (.v (.int .i64 (k:Nat))))]) (fun _=>[]) (fun k=>[⟨some ⟨g,0,none⟩,l.length,l.length,5,1,u8Xs (fillK (turnG l) k)⟩]) 0
    (fun k=>k<=l.length) (fun k=>l.length - k) 0 (Nat.zero_le _) rfl (by (repeat first | exact trivial | refine ⟨rfl,?_⟩)) (by (repeat first | exact trivial | refine ⟨rfl,?_⟩)) (by unfold fillK;rw [turnG_len];rfl) (by (repeat' (first | exact trivial | constructor))) (by (repeat' exact trivial)) fun k hk=>?_
  (repeat (first | refine cj_seq ?_ | refine cjr TT rfl ?_ | refine oj_then ?_))
  refine cj_if rfl (fun h=>?_) (fun h=>?_)
  rotate_left
  · have hk0:k=l.length:=by have:=of_decide_eq_false h;omega
    have e:fillK (turnG l) k=turnG l:=by rw [hk0,<-turnG_len l,fillK_all]
    rw [e]
    (repeat (first | refine cj_seq ?_ | refine cjr TT rfl ?_ | refine oj_then ?_ | refine cj_exit ?_ | refine cj_ret ?_ | refine nj_then ?_ | refine nj_then_exit ?_ | refine nj_block_out ?_))
    refine nj_seal 0 rfl rfl fun s1 hle1 hS=>?_
    refine nj_ret TT rfl fun β w' _ _=>?_
    have hS:ArrSealed s1 (u8E (some ⟨g,0,none⟩) l.length (turnG l)):=by unfold u8E;rw [turnG_len];exact hS
    have:=u8_sealed hS (by rw [turnG_len];exact Nat.le_refl _)
    rw [turnG_len] at this
    exact ⟨_,_,rfl,this⟩
  have hkl:k<l.length:=by have:=of_decide_eq_true h;omega
  have hx:=List.getElem?_eq_getElem hkl
  have hrow:=u8Rows_get hx
  have hset:=fillK_set (turnG_get hx)
  generalize l[k]=x at *
  (repeat (first | refine cj_seq ?_ | refine cjr TT rfl ?_ | refine cj_skip ?_ | refine cj_block ?_ | refine nj_then ?_))
  refine oj_idx TT rfl rfl rfl rfl rfl rfl rfl rfl rfl H (by omega) hrow (oj_run TT rfl ?_)
  (repeat (first | refine cjr TT rfl ?_ | refine oj_then ?_))
  refine oj_compl8 rfl rfl rfl rfl rfl (oj_run TT rfl ?_)
  refine oj_indexAddr TT rfl rfl rfl rfl rfl rfl rfl rfl rfl ⟨by omega,by omega⟩ (oj_run TT rfl ?_)
  refine oj_stA 0 (off:=k) (A':=[⟨some ⟨g,0,none⟩,l.length,l.length,5,1,u8Xs (fillK (turnG l) (k+1))⟩]) (c:=.v (.int .u8 ((255 - x).toNat:Int))) TT rfl rfl rfl rfl (by rw [add0];show some (SV.a (AT.v (.pointer (some ⟨g,((k:Nat):Int).toNat*1,none⟩))))=_;rw [Nat.mul_one];rfl) rfl rfl rfl rfl rfl (by show k<l.length*1;omega) trivial rfl (by rw [<-hset,<-u8Xs_set];rfl) (oj_run TT rfl ?_)
  (repeat (first | refine cjr TT rfl ?_ | refine oj_nil ?_ | refine nj_then ?_ | refine nj_block ?_ | (refine oj_add rfl rfl rfl rfl rfl rfl (by omega) ?_;refine oj_run TT rfl ?_)))
  refine nj_again (k+1) hkl (by omega) rfl (by (repeat first | exact trivial | refine ⟨rfl,?_⟩)) (by (repeat first | exact trivial | refine ⟨rfl,?_⟩)) rfl (by (repeat' (first | exact trivial | constructor))) (by (repeat' exact trivial))
theorem wrap8 (x:Int):IntKind.u8.wrap x=((byteOf x).toNat:Int):=by
  rw [byteOf_nat]
  rfl
theorem shr8 (h:Int):bShr .i64 h 8=h / 256:=by
  show h.fdiv 256=_
  rw [Int.fdiv_eq_ediv_of_nonneg _ (by decide)]
theorem wrap8_sub:∀ c:UInt8,IntKind.u8.wrap ((c.toNat:Int) - 48)=((c - 48).toNat:Int):=all8 (by decide +kernel)
theorem wrap8_inc:∀ c:UInt8,IntKind.u8.wrap ((c.toNat:Int)+1)=((c+1).toNat:Int):=all8 (by decide +kernel)
def szK (h:Int) (l:List UInt8) (k:Nat):List UInt8:=byteOf (h / 256)::byteOf h::(l.take k).map (fun c=>c - 48+1)
theorem szK_len (h:Int) (l:List UInt8) (k:Nat):(szK h l k).length<=2+l.length:=by
  unfold szK
  rw [List.length_cons,List.length_cons,List.length_map,List.length_take]
  omega
theorem szK_succ {h:Int} {l:List UInt8} {k:Nat} {c:UInt8} (hc:l[k]?=some c):szK h l (k+1)=szK h l k++[c - 48+1]:=by
  obtain ⟨hk,he⟩:=List.getElem?_eq_some_iff.1 hc
  unfold szK
  rw [List.take_succ_eq_append_getElem hk,he,List.map_append]
  rfl
structure SzS where
  k:Nat
  oo:Option Addr
  oc:Nat
set_option maxRecDepth 100000 in
set_option maxHeartbeats 2000000 in
theorem size_c (σ:Snap) (d:GDec) (hs:decSane d=true) (h0:d.dg.size≠0):PureS Tryz.prog 238 [.agg (decCells d)] σ (fun v σ'=>∃ ao cap,v=.slice ao (sizeG d).length cap/\SlAt σ' ao (sizeG d).length cap 1 (u8Rows (sizeG d))):=by
  obtain ⟨hdig,h1,h2⟩:=sane_size hs h0
  obtain ⟨ng,dg,ex⟩:=d
  obtain ⟨l,rfl⟩:=mkB_ex dg
  have hsz:=mkB_size l
  dsimp only at h0 h1 h2
  rw [hsz] at h0
  have hl40:l.length<=40:=by
    rw [decSane_mk _ _ _ h0] at hs
    simp only [Bool.and_eq_true,decide_eq_true_eq] at hs
    exact hs.1.1.1.1.1.1.1
  refine enter_s Tryz.func238 rfl rfl (by (repeat' (first | exact trivial | exact decCells_lt _ _ | constructor))) fun w=>?_
  (repeat (first | refine cj_seq ?_ | refine cjr TT rfl ?_ | refine oj_then ?_))
  refine oj_add rfl rfl rfl rfl rfl rfl (by dsimp only;omega) (oj_run TT rfl ?_)
  refine oj_add rfl rfl rfl rfl rfl rfl (by dsimp only;omega) (oj_run TT rfl ?_)
  dsimp only
  have hH1:0<=((mkB l).size:Int)+ex+1000:=by omega
  have hH2:((mkB l).size:Int)+ex+1000<=1400:=by omega
  have hsz0:sizeG ⟨ng,mkB l,ex⟩=byteOf ((((mkB l).size:Int)+ex+1000) / 256)::byteOf (((mkB l).size:Int)+ex+1000)::(l.map (fun c=>c - 48+1)++[0]):=by
    unfold sizeG
    dsimp only
    rw [mkB_list]
  generalize ((mkB l).size:Int)+ex+1000=h at *
  (repeat (first | refine cj_seq ?_ | refine cjr TT rfl ?_ | refine oj_then ?_ | (refine oj_conv TT _ rfl rfl rfl rfl rfl rfl rfl rfl rfl ?_;refine oj_run TT rfl ?_) | (refine oj_bshr rfl rfl rfl rfl rfl rfl (by decide) ?_;refine oj_run TT rfl ?_)))
  have e1:IntKind.u8.wrap (bShr .i64 h 8)=((byteOf (h / 256)).toNat:Int):=by rw [wrap8,shr8]
  have e2:IntKind.u8.wrap h=((byteOf h).toNat:Int):=wrap8 h
  rw [e1,e2]
  refine oj_own 1 2 1 rfl (by (repeat' (first | exact trivial | refine AllLt.of ?_ | constructor))) rfl (by decide) fun g=>?_
  refine oj_bytes (y:=mkB l) TT rfl rfl rfl rfl rfl rfl rfl rfl rfl rfl rfl fun ao cap s1 hle1 HB=>?_
  rw [byteRows_u8,mkB_list,hsz] at HB
  refine oj_set 22 (.a (.v (.slice ao l.length cap))) rfl trivial (fun β=>by rw [hsz]) (oj_run TT rfl ?_)
  (repeat (first | refine oj_then ?_ | refine cj_block ?_))
  refine cj_loop (fun (_:SzS)=>s1) (fun t=>[(4,.a (.v (.slice t.oo (szK h l t.k).length t.oc))),(22,.a (.v (.slice ao l.length cap))),(23,.a (.v (.int .i64 l.length))),(24,.a (.v (.int .i64 (t.k:Nat))))]) (fun _=>[]) (fun t=>[u8E t.oo t.oc (szK h l t.k)]) 0
    (fun t=>t.k<=l.length/\(szK h l t.k).length<=t.oc) (fun t=>l.length - t.k) ⟨0,some ⟨g,0,none⟩,2⟩ ⟨Nat.zero_le _,Nat.le_refl _⟩ rfl (by (repeat first | exact trivial | refine ⟨rfl,?_⟩)) (by (repeat first | exact trivial | refine ⟨rfl,?_⟩)) rfl (by (repeat' (first | exact trivial | constructor))) (by (repeat' exact trivial)) fun ⟨k,oo,oc⟩ ⟨hk,hoc⟩=>?_
  dsimp only at hk hoc ⊢
  have hlen:=szK_len h l k
  (repeat (first | refine cj_seq ?_ | refine cjr TT rfl ?_ | refine oj_then ?_))
  refine cj_if rfl (fun hc=>?_) (fun hc=>?_)
  rotate_left
  · have hk0:k=l.length:=by have:=of_decide_eq_false hc;omega
    have e:szK h l k++[0]=sizeG ⟨ng,mkB l,ex⟩:=by
      rw [hsz0,hk0]
      unfold szK
      rw [List.take_length]
      rfl
    (repeat (first | refine cj_seq ?_ | refine cjr TT rfl ?_ | refine cj_exit ?_ | refine nj_then ?_ | refine nj_then_exit ?_ | refine nj_block_out ?_))
    refine oj_append_lit TT 0 rfl rfl rfl rfl rfl rfl rfl rfl rfl rfl rfl rfl rfl rfl rfl rfl rfl rfl (by (repeat' (first | exact trivial | refine AllLt.of ?_ | constructor))) rfl (by omega) (by show ((szK h l k).length+1)*1<=_;omega) fun oo' oc' hoc'=>oj_run TT rfl ?_
    (repeat (first | refine oj_then ?_ | refine cj_ret ?_))
    refine nj_seal 0 rfl rfl fun s2 hle2 hS=>?_
    refine nj_ret TT rfl fun β w' _ _=>?_
    have hl1:(szK h l k++[0]).length=(szK h l k).length+1:=by simp
    have hS:ArrSealed s2 (u8E oo' oc' (szK h l k++[0])):=by unfold u8E;rw [hl1,u8Xs_append];exact hS
    have:=u8_sealed hS (by rw [hl1];exact hoc')
    rw [<-e]
    exact ⟨oo',oc',by rw [hl1];rfl,this⟩
  have hkl:k<l.length:=by have:=of_decide_eq_true hc;omega
  have hx:=List.getElem?_eq_getElem hkl
  have hrow:=u8Rows_get hx
  have hs1:=szK_succ (h:=h) hx
  generalize l[k]=c at *
  (repeat (first | refine cj_seq ?_ | refine cjr TT rfl ?_ | refine cj_skip ?_ | refine cj_block ?_ | refine nj_then ?_))
  refine oj_idx TT rfl rfl rfl rfl rfl rfl rfl rfl rfl HB (by omega) hrow (oj_run TT rfl ?_)
  (repeat (first | refine cjr TT rfl ?_ | refine oj_then ?_))
  refine oj_arith ((c - 48).toNat:Int) rfl rfl rfl rfl rfl rfl (run_sub (wrap8_sub c)) (oj_run TT rfl ?_)
  refine oj_arith ((c - 48+1).toNat:Int) rfl rfl rfl rfl rfl rfl (run_add (wrap8_inc (c - 48))) (oj_run TT rfl ?_)
  refine oj_append_lit TT 0 rfl rfl rfl rfl rfl rfl rfl rfl rfl rfl rfl rfl rfl rfl rfl rfl rfl rfl (by (repeat' (first | exact trivial | refine AllLt.of ?_ | constructor))) rfl (by omega) (by show ((szK h l k).length+1)*1<=_;omega) fun oo' oc' hoc'=>oj_run TT rfl ?_
  (repeat (first | refine cjr TT rfl ?_ | refine oj_nil ?_ | refine nj_then ?_ | refine nj_block ?_ | (refine oj_add rfl rfl rfl rfl rfl rfl (by omega) ?_;refine oj_run TT rfl ?_)))
  have hl1:(szK h l (k+1)).length=(szK h l k).length+1:=by rw [hs1];simp
  refine nj_again (⟨k+1,oo',oc'⟩:SzS) ⟨hkl,by dsimp only;omega⟩ (by dsimp only;omega) rfl ?_ (by (repeat first | exact trivial | refine ⟨rfl,?_⟩)) ?_ (by (repeat' (first | exact trivial | constructor))) (by (repeat' exact trivial))
  · dsimp only
    rw [hl1]
    (repeat first | exact trivial | refine ⟨rfl,?_⟩)
  · show [_]=[_]
    dsimp only
    unfold u8E
    rw [hl1,hs1,u8Xs_append]
    rfl
end Go.Sy
/- The library's strings.ReplaceAll at this program: the shelf's contract, laid by its program. -/
namespace Go.Proofs
open Go.Shelf
def Tryz.lays155_ren:Go.Shelf.Ren:=⟨fun | 155=>239 | 154=>248 | 138=>258 | 165=>259 | 143=>260 | 166=>261 | 197=>262 | 169=>263 | 195=>267 | 218=>268 | 240=>269 | 241=>270 | 219=>271 | 260=>272 | 276=>275 | 277=>276 | 217=>277 | 225=>278 | 224=>279 | 267=>280 | 266=>283 | 314=>284 | n=>n,fun | 9=>9 | 3=>3 | 4=>4 | 72=>362 | 0=>0 | 76=>365 | 105=>249 | 21=>21 | 5=>5 | 70=>360 | 20=>20 | 37=>149 | 75=>364 | 127=>372 | 164=>374 | 46=>318 | 119=>376 | 139=>379 | 138=>378 | 146=>381 | 51=>380 | 80=>368 | n=>n,fun | 1=>0 | 3=>1 | 4=>2 | n=>n⟩
set_option maxRecDepth 100000 in
theorem Tryz.lays155:Go.Proofs.Lays.n155 Tryz.prog Tryz.lays155_ren:={
  mixed:=by kernel_rfl
  f138:=Tryz.func258.trans (congrArg some (by kernel_rfl))
  f143:=Tryz.func260.trans (congrArg some (by kernel_rfl))
  f154:=Tryz.func248.trans (congrArg some (by kernel_rfl))
  f155:=Tryz.func239.trans (congrArg some (by kernel_rfl))
  f165:=Tryz.func259.trans (congrArg some (by kernel_rfl))
  f166:=Tryz.func261.trans (congrArg some (by kernel_rfl))
  f169:=Tryz.func263.trans (congrArg some (by kernel_rfl))
  f195:=Tryz.func267.trans (congrArg some (by kernel_rfl))
  f197:=Tryz.func262.trans (congrArg some (by kernel_rfl))
  f217:=Tryz.func277.trans (congrArg some (by kernel_rfl))
  f218:=Tryz.func268.trans (congrArg some (by kernel_rfl))
  f219:=Tryz.func271.trans (congrArg some (by kernel_rfl))
  f224:=Tryz.func279.trans (congrArg some (by kernel_rfl))
  f225:=Tryz.func278.trans (congrArg some (by kernel_rfl))
  f240:=Tryz.func269.trans (congrArg some (by kernel_rfl))
  f241:=Tryz.func270.trans (congrArg some (by kernel_rfl))
  f260:=Tryz.func272.trans (congrArg some (by kernel_rfl))
  f266:=Tryz.func283.trans (congrArg some (by kernel_rfl))
  f267:=Tryz.func280.trans (congrArg some (by kernel_rfl))
  f276:=Tryz.func275.trans (congrArg some (by kernel_rfl))
  f277:=Tryz.func276.trans (congrArg some (by kernel_rfl))
  f314:=Tryz.func284.trans (congrArg some (by kernel_rfl))
  t0:=Tryz.underlying0
  a0:=Tryz.isAgg0
  z0:=Tryz.sizeOf0
  v0:=Tryz.zeroValue0
  t3:=Tryz.underlying3
  a3:=Tryz.isAgg3
  z3:=Tryz.sizeOf3
  v3:=Tryz.zeroValue3
  t4:=Tryz.underlying4
  a4:=Tryz.isAgg4
  z4:=Tryz.sizeOf4
  v4:=Tryz.zeroValue4
  t5:=Tryz.underlying5
  a5:=Tryz.isAgg5
  z5:=Tryz.sizeOf5
  v5:=Tryz.zeroValue5
  t9:=Tryz.underlying9
  a9:=Tryz.isAgg9
  z9:=Tryz.sizeOf9
  v9:=Tryz.zeroValue9
  t20:=Tryz.underlying20
  a20:=Tryz.isAgg20
  z20:=Tryz.sizeOf20
  v20:=Tryz.zeroValue20
  t21:=Tryz.underlying21
  a21:=Tryz.isAgg21
  z21:=Tryz.sizeOf21
  v21:=Tryz.zeroValue21
  t37:=Tryz.underlying149
  a37:=Tryz.isAgg149
  z37:=Tryz.sizeOf149
  v37:=Tryz.zeroValue149
  t46:=Tryz.underlying318
  a46:=Tryz.isAgg318
  z46:=Tryz.sizeOf318
  v46:=Tryz.zeroValue318
  t51:=Tryz.underlying380
  a51:=Tryz.isAgg380
  z51:=Tryz.sizeOf380
  v51:=Tryz.zeroValue380
  t70:=Tryz.underlying360
  a70:=Tryz.isAgg360
  z70:=Tryz.sizeOf360
  v70:=Tryz.zeroValue360
  t72:=Tryz.underlying362
  a72:=Tryz.isAgg362
  z72:=Tryz.sizeOf362
  v72:=Tryz.zeroValue362
  t75:=Tryz.underlying364
  a75:=Tryz.isAgg364
  z75:=Tryz.sizeOf364
  v75:=Tryz.zeroValue364
  t76:=Tryz.underlying365
  a76:=Tryz.isAgg365
  z76:=Tryz.sizeOf365
  v76:=Tryz.zeroValue365
  t105:=Tryz.underlying249
  a105:=Tryz.isAgg249
  z105:=Tryz.sizeOf249
  v105:=Tryz.zeroValue249
  t119:=Tryz.underlying376
  a119:=Tryz.isAgg376
  z119:=Tryz.sizeOf376
  t127:=Tryz.underlying372
  a127:=Tryz.isAgg372
  z127:=Tryz.sizeOf372
  v127:=Tryz.zeroValue372
  t138:=Tryz.underlying378
  a138:=Tryz.isAgg378
  z138:=Tryz.sizeOf378
  v138:=Tryz.zeroValue378
  t139:=Tryz.underlying379
  a139:=Tryz.isAgg379
  z139:=Tryz.sizeOf379
  v139:=Tryz.zeroValue379
  t146:=Tryz.underlying381
  a146:=Tryz.isAgg381
  z146:=Tryz.sizeOf381
  v146:=Tryz.zeroValue381
  t164:=Tryz.underlying374
  a164:=Tryz.isAgg374
  z164:=Tryz.sizeOf374
  v164:=Tryz.zeroValue374
  g1:=by kernel_rfl
  g3:=by kernel_rfl
  g4:=by kernel_rfl }
set_option maxRecDepth 100000 in
theorem Tryz.Builder_Extra_155:Builder.Extra Tryz.prog Tryz.lays155_ren:={
  sizeBuilder:=by kernel_rfl
  liesBuilder:=by kernel_rfl
  t5:=Tryz.underlying5
  a5:=Tryz.isAgg5
  z5:=Tryz.sizeOf5
  v5:=Tryz.zeroValue5
  infoByte:=by kernel_rfl
  cellsByte:=by kernel_rfl
  sizeByte:=by kernel_rfl
  neB5:=by decide }
open Go.RowKit Go.Lib in
set_option maxRecDepth 100000 in
theorem Tryz.strings_ReplaceAll (s old new:ByteArray) (m:Int) (w:World) (hs:s.size<4294967281) (hm:w.cell? ⟨0,0,none⟩=some (.int .i64 m)) (h1:1<=old.size) (hlen:s.size+Lib.countB s old*new.size<=140737488355328) :
    Calls Tryz.prog 239 #[.string s,.string old,.string new] w fun e w' =>
      e=.returned (.string ⟨(Lib.replaceAll s.data.toList old.data.toList new.data.toList).toArray⟩)/\Below w.heap.size w w':=Any.strings_ReplaceAll Tryz.lays155 Tryz.Builder_Extra_155 s old new m w hs hm h1 hlen
end Go.Proofs
namespace Go.Sy
open Go.Proofs
theorem esc_none:∀ {s:List UInt8},(∀ c∈s,c≠0)->escG s=s
  | [],_=>rfl
  | c::s,h=>by
    rw [escG,if_neg (h c List.mem_cons_self),esc_none fun x hx=>h x (List.mem_cons_of_mem c hx)]
theorem esc_hit:∀ (a r:List UInt8),(∀ c∈a,c≠0)->escG (a++0::r)=a++[0,255]++escG r
  | [],r,_=>by rw [List.nil_append,escG,if_pos rfl];rfl
  | c::a,r,h=>by
    rw [List.cons_append,escG,if_neg (h c List.mem_cons_self),esc_hit a r fun x hx=>h x (List.mem_cons_of_mem c hx)]
    rfl
theorem idx_split (s:List UInt8):(Lib.index s [0] = -1/\∀ c∈s,c≠0)\/∃ a r,s=a++0::r/\(∀ c∈a,c≠0)/\Lib.index s [0]=(a.length:Nat):=by
  rw [Lib.index_one]
  have hge:=Lib.indexByte_ge s 0
  by_cases h:Lib.indexByte s 0 = -1
  · refine .inl ⟨h,fun c hc h0=>?_⟩
    obtain ⟨k,hk,rfl⟩:=List.mem_iff_getElem.1 hc
    exact Lib.indexByte_none h k (by rw [List.getElem?_eq_getElem hk,h0])
  · obtain ⟨o,ho⟩:∃ o:Nat,Lib.indexByte s 0=o:=⟨(Lib.indexByte s 0).toNat,by omega⟩
    obtain ⟨h1,h2⟩:=Lib.indexByte_some ho
    obtain ⟨hl,he⟩:=List.getElem?_eq_some_iff.1 h1
    refine .inr ⟨s.take o,s.drop (o+1),?_,fun c hc h0=>?_,by rw [ho,List.length_take,Nat.min_eq_left (by omega)]⟩
    · rw [<-he,<-List.drop_eq_getElem_cons hl,List.take_append_drop]
    · obtain ⟨k,hk,hk3⟩:=List.mem_iff_getElem.1 hc
      have hk2:=List.getElem?_eq_getElem hk
      rw [hk3] at hk2
      rw [List.length_take] at hk
      rw [List.getElem?_take,if_pos (by omega),h0] at hk2
      exact h2 k (by omega) hk2
theorem replaceK_esc:∀ (fuel:Nat) (s:List UInt8),s.length<fuel->Lib.replaceK [0] [0,255] (Lib.countFrom [0] fuel s) s=escG s
  | 0,s,h=>by omega
  | fuel+1,s,h=>by
    rcases idx_split s with ⟨h1,h2⟩ | ⟨a,r,rfl,h2,h3⟩
    · rw [Lib.countFrom,h1]
      exact (esc_none h2).symm
    · have hne:¬ (Lib.index (a++0::r) [0] == -1)=true:=by rw [h3];intro e;have:=beq_iff_eq.1 e;omega
      have hd:(a++0::r).drop (a.length+1)=r:=by
        rw [List.drop_append,List.drop_of_length_le (by omega)]
        simp
      have ih:=replaceK_esc fuel r (by simp at h;omega)
      rw [Lib.countFrom,if_neg hne,Nat.add_comm,Lib.replaceK_hit _ _ _ _ _ h3,h3]
      show (a++0::r).take a.length++[0,255]++Lib.replaceK [0] [0,255] (Lib.countFrom [0] fuel ((a++0::r).drop (a.length+1))) ((a++0::r).drop (a.length+1))=_
      rw [hd,ih,esc_hit a r h2,List.take_left]
theorem replaceAll_esc (s:List UInt8):Lib.replaceAll s [0] [0,255]=escG s:=replaceK_esc (s.length+1) s (Nat.lt_succ_self _)
theorem plain_of_below {P:Program} {f:FuncId} {svs:List SV} {σ:Snap} {Φ:Value->Prop} (h:∀ w,Sealed σ w->Calls P f (svs.map (SV.den β0)).toArray w fun e w'=>∃ v,e=.returned v/\Φ v/\Go.RowKit.Below w.heap.size w w'):PlainS P f svs σ Φ:=by
  intro w hw
  refine Calls.mono (h w hw) fun e w' ⟨v,he,hv,hb⟩=>⟨v,σ,he,⟨hb.os,hb.tape,hb.output,hb.size,fun b hb' _=>hb.block b hb'⟩,⟨Snap.le_refl _,fun b hb'=>.inl hb'⟩,fun b o ho=>?_,hv⟩
  have h1:=hw b o ho
  rw [hb.block b (Array.getElem?_eq_some_iff.1 h1).1]
  exact h1
theorem ReplaceAll_c (σ:Snap) (m:Int) (hm:σ.cell ⟨0,0,none⟩=some (.int .i64 m)) (s:ByteArray) (hs:s.size<=1000000) :
    PlainS Tryz.prog 239 [.a (.v (.string s)),.a (.v (.string ⟨#[0]⟩)),.a (.v (.string ⟨#[0,255]⟩))] σ (fun v=>v=.string (mkB (escG s.data.toList))):=by
  refine plain_of_below fun w hw=>?_
  have hc:=Lib.countB_mul_le ⟨#[0]⟩ (by decide) s.size s (Nat.le_refl _)
  have hz:(⟨#[0]⟩:ByteArray).size=1:=rfl
  have hz2:(⟨#[0,255]⟩:ByteArray).size=2:=rfl
  rw [hz,Nat.mul_one] at hc
  refine Calls.mono (Tryz.strings_ReplaceAll s ⟨#[0]⟩ ⟨#[0,255]⟩ m w (by omega) (sealed_cell hw hm) (by decide) (by rw [hz2];omega)) fun e w' ⟨he,hb⟩=>⟨_,he,?_,hb⟩
  show Value.string ⟨(Lib.replaceAll s.data.toList [0] [0,255]).toArray⟩=_
  rw [replaceAll_esc]
  rfl
end Go.Sy
namespace Go.Sy
open Go.Proofs
theorem u8E_app {ao:Option Addr} {cap:Nat} {a b:List UInt8} {n:Nat} (hn:n=(a++b).length):(⟨ao,n,cap,5,1,u8Xs a++u8Xs b⟩:AE)=u8E ao cap (a++b):=by
  subst hn
  unfold u8E
  rw [u8Xs_append]
theorem u8Xs_flat (l:List UInt8):(u8Rows l).flatten.map AT.val=u8Xs l:=(u8Xs_rows l).symm
theorem esc_len:∀ (l:List UInt8),(escG l).length<=2*l.length
  | []=>Nat.le_refl _
  | c::l=>by
    have:=esc_len l
    unfold escG
    split<;>simp only [List.length_cons]<;>omega
theorem size_le {d:GDec} (h:decSane d=true) (h0:d.dg.size≠0):(sizeG d).length<=43:=by
  rw [size_len]
  obtain ⟨ng,dg,ex⟩:=d
  obtain ⟨l,rfl⟩:=mkB_ex dg
  have hsz:=mkB_size l
  dsimp only at h0 ⊢
  rw [hsz] at h0 ⊢
  rw [decSane_mk _ _ _ h0] at h
  simp only [Bool.and_eq_true,decide_eq_true_eq] at h
  have:=h.1.1.1.1.1.1.1
  omega
theorem shrA (i:Int):bShr .i64 i 24=i / 16777216:=by
  show i.fdiv 16777216=_
  rw [Int.fdiv_eq_ediv_of_nonneg _ (by decide)]
theorem shrB (i:Int):bShr .i64 i 16=i / 65536:=by
  show i.fdiv 65536=_
  rw [Int.fdiv_eq_ediv_of_nonneg _ (by decide)]
set_option maxRecDepth 100000 in
set_option maxHeartbeats 4000000 in
theorem put_c (σ:Snap) (m:Int) (hm:σ.cell ⟨0,0,none⟩=some (.int .i64 m)) (p:GPart) (hp:Rt p) (hps:p.s.size<=1000000) (o:List UInt8) (ho:o.length<=100000000) (oo:Option Addr) (oc:Nat) (_:o.length<=oc) :
    FnS Tryz.prog 219 [.a (.v (.slice oo o.length oc)),.agg (paCells p)] σ [u8E oo oc o] (fun v _ A'=>∃ oo' oc',v=.slice oo' (o++putG p).length oc'/\(o++putG p).length<=oc'/\A'=[u8E oo' oc' (o++putG p)]):=by
  obtain ⟨kd,b,n,s,i⟩:=p
  dsimp only at hps
  have hnum:kd=2->decSane n=true:=fun h=>by
    have hr:=(right_iff _).2 hp
    subst h
    have:(decide ((⟨0,b,dec0,s,i⟩:GPart)=part0)&&decSane n)=true:=hr
    rw [Bool.and_eq_true] at this
    exact this.2
  have hfin:∀ (l:List UInt8) (e:putG ⟨kd,b,n,s,i⟩=l) {k:Nat} (hk:k=l.length) (oo':Option Addr) (oc':Nat),o.length+k<=oc'->∃ ao ac,Value.slice oo' (o.length+k) oc'=.slice ao (o++putG ⟨kd,b,n,s,i⟩).length ac/\(o++putG ⟨kd,b,n,s,i⟩).length<=ac/\[(⟨oo',o.length+k,oc',5,1,u8Xs o++u8Xs l⟩:AE)]=[u8E ao ac (o++putG ⟨kd,b,n,s,i⟩)]:=by
    intro l e k hk oo' oc' h
    have hl:o.length+k=(o++l).length:=by rw [List.length_append,hk]
    rw [e]
    rw [hl] at h ⊢
    exact ⟨oo',oc',rfl,h,congrArg (fun x=>[x]) (u8E_app rfl)⟩
  refine enter_f Tryz.func219 rfl rfl ⟨trivial,paCells_lt 0 _,trivial⟩ fun w=>?_
  (repeat (first | refine cj_seq ?_ | refine cjr TT rfl ?_ | refine oj_then ?_ | refine cj_block ?_))
  refine cj_if rfl (fun h=>?_) (fun h0=>?_)
  · have h:=of_decide_eq_true (show decide (kd=0)=true from h)
    (repeat (first | refine cj_seq ?_ | refine cjr TT rfl ?_))
    refine oj_append_lit TT 0 rfl rfl rfl rfl rfl rfl rfl rfl rfl rfl rfl rfl rfl rfl rfl rfl rfl rfl (by (repeat' (first | exact trivial | refine AllLt.of ?_ | constructor))) rfl (by omega) (by show (o.length+1)*1<=_;omega) fun oo' oc' hoc'=>oj_run TT rfl ?_
    (repeat (first | refine oj_then ?_ | refine cj_ret ?_ | refine nj_then_ret ?_ | refine nj_block_ret ?_))
    refine nj_fret TT rfl fun β w' _ _=>?_
    have e:putG ⟨kd,b,n,s,i⟩=[16]:=by unfold putG;dsimp only;rw [if_pos h]
    exact hfin _ e rfl oo' oc' hoc'
  have h0:=of_decide_eq_false (show decide (kd=0)=false from h0)
  (repeat (first | refine cj_seq ?_ | refine cjr TT rfl ?_))
  refine oj_split 16 rfl (fun h1=>?_) (fun h1=>?_)
  · have h1:=of_decide_eq_true (show decide (kd=1)=true from h1)
    refine oj_run TT rfl ?_
    (repeat refine oj_then ?_)
    refine cj_if rfl (fun hb=>?_) (fun hb=>?_)
    · have hb:b=true:=hb
      (repeat (first | refine cj_seq ?_ | refine cjr TT rfl ?_))
      refine oj_append_lit TT 0 rfl rfl rfl rfl rfl rfl rfl rfl rfl rfl rfl rfl rfl rfl rfl rfl rfl rfl (by (repeat' (first | exact trivial | refine AllLt.of ?_ | constructor))) rfl (by omega) (by show (o.length+1)*1<=_;omega) fun oo' oc' hoc'=>oj_run TT rfl ?_
      (repeat (first | refine oj_then ?_ | refine cj_ret ?_ | refine nj_then_ret ?_ | refine nj_block_ret ?_))
      refine nj_fret TT rfl fun β w' _ _=>?_
      have e:putG ⟨kd,b,n,s,i⟩=[33]:=by unfold putG;dsimp only;rw [if_neg h0,if_pos h1,hb];rfl
      exact hfin _ e rfl oo' oc' hoc'
    · have hb:b=false:=hb
      (repeat (first | refine cj_seq ?_ | refine cjr TT rfl ?_ | refine oj_then ?_))
      refine cj_if rfl (fun _=>?_) (fun h=>absurd h1 (of_decide_eq_false (show decide (kd=1)=false from h)))
      (repeat (first | refine cj_seq ?_ | refine cjr TT rfl ?_))
      refine oj_append_lit TT 0 rfl rfl rfl rfl rfl rfl rfl rfl rfl rfl rfl rfl rfl rfl rfl rfl rfl rfl (by (repeat' (first | exact trivial | refine AllLt.of ?_ | constructor))) rfl (by omega) (by show (o.length+1)*1<=_;omega) fun oo' oc' hoc'=>oj_run TT rfl ?_
      (repeat (first | refine oj_then ?_ | refine cj_ret ?_ | refine nj_then_ret ?_ | refine nj_block_ret ?_))
      refine nj_fret TT rfl fun β w' _ _=>?_
      have e:putG ⟨kd,b,n,s,i⟩=[32]:=by unfold putG;dsimp only;rw [if_neg h0,if_pos h1,hb];rfl
      exact hfin _ e rfl oo' oc' hoc'
  have h1:=of_decide_eq_false (show decide (kd=1)=false from h1)
  refine oj_run TT rfl ?_
  (repeat (first | refine cj_seq ?_ | refine cjr TT rfl ?_ | refine oj_then ?_ | refine cj_if_f rfl ?_))
  refine cj_if rfl (fun h=>absurd (of_decide_eq_true (show decide (kd=1)=true from h)) h1) (fun _=>?_)
  (repeat (first | refine cj_seq ?_ | refine cjr TT rfl ?_))
  refine oj_split 34 rfl (fun h2=>?_) (fun h2=>?_)
  · have h2:=of_decide_eq_true (show decide (kd=2)=true from h2)
    have hs:=hnum h2
    refine oj_run TT rfl ?_
    (repeat refine oj_then ?_)
    refine cj_if rfl (fun hz=>?_) (fun hz=>?_)
    · have hz:n.dg.size=0:=by have:=of_decide_eq_true hz;rw [this];rfl
      (repeat (first | refine cj_seq ?_ | refine cjr TT rfl ?_))
      refine oj_append_lit TT 0 rfl rfl rfl rfl rfl rfl rfl rfl rfl rfl rfl rfl rfl rfl rfl rfl rfl rfl (by (repeat' (first | exact trivial | refine AllLt.of ?_ | constructor))) rfl (by omega) (by show (o.length+1)*1<=_;omega) fun oo' oc' hoc'=>oj_run TT rfl ?_
      (repeat (first | refine oj_then ?_ | refine cj_ret ?_ | refine nj_then_ret ?_ | refine nj_block_ret ?_))
      refine nj_fret TT rfl fun β w' _ _=>?_
      have e:putG ⟨kd,b,n,s,i⟩=[49]:=by unfold putG;dsimp only;rw [if_neg h0,if_neg h1,if_pos h2,if_pos hz]
      exact hfin _ e rfl oo' oc' hoc'
    have hz:n.dg.size≠0:=fun h=>by
      refine absurd ?_ (of_decide_eq_false hz)
      obtain ⟨l,hl⟩:=mkB_ex n.dg
      show n.dg=_
      rw [hl,mkB_size] at h
      rw [hl,List.eq_nil_of_length_eq_zero h]
      rfl
    have hsl:=size_le hs hz
    (repeat (first | refine cj_seq ?_ | refine cjr TT rfl ?_))
    refine oj_split 47 rfl (fun _=>?_) (fun h=>absurd h2 (of_decide_eq_false (show decide (kd=2)=false from h)))
    refine oj_run TT rfl ?_
    (repeat refine oj_then ?_)
    refine cj_if rfl (fun hn=>?_) (fun hn=>?_)
    · have hn:n.neg=true:=hn
      (repeat refine cj_seq ?_)
      refine cj_drawB 9 [0,3,8] [(0,.loc 99,paCells ⟨kd,b,n,s,i⟩)] mixed (by kernel_rfl) rfl (subH_of (by (repeat first | exact trivial | refine ⟨rfl,?_⟩))) ?_
      refine gb_val (i:=0) TT rfl (by kernel_rfl) (by kernel_rfl) rfl rfl rfl rfl rfl ?_
      refine gb_val (i:=3) TT rfl (by kernel_rfl) (by kernel_rfl) rfl rfl rfl rfl rfl ?_
      refine gb_val (i:=4) TT rfl (by kernel_rfl) (by kernel_rfl) rfl rfl rfl rfl rfl ?_
      refine gb_one (i:=1) (by kernel_rfl) ?_
      refine gb_new TT rfl rfl rfl rfl rfl ?_
      refine gb_one (i:=2) (by kernel_rfl) ?_
      refine gb_append_lit TT 0 rfl rfl rfl rfl rfl rfl rfl rfl rfl rfl rfl rfl rfl rfl rfl rfl rfl rfl (by (repeat' (first | exact trivial | refine AllLt.of ?_ | constructor))) rfl (by omega) (by show (o.length+1)*1<=_;omega) fun o1 c1 hc1=>?_
      refine gb_order [(5,.keep),(6,.keep),(7,.sink),(8,.pure)] rfl rfl (by kernel_rfl) ?_
      refine oj_run TT rfl ?_
      refine oj_callS rfl rfl rfl rfl rfl Tryz.call238 ⟨decCells_lt 0 n,trivial⟩ (size_c σ n hs hz) fun v s1 hle1 ⟨ao,ac,hv,HS⟩=>⟨.a (.v (.slice ao (sizeG n).length ac)),trivial,hv.symm,?_⟩
      refine oj_run TT rfl ?_
      refine oj_callS rfl rfl rfl rfl rfl Tryz.call237 ⟨trivial,trivial⟩ (turned_c s1 (sizeG n) (by omega) ao ac HS) fun v s2 hle2 ⟨bo,bc,hv,HT⟩=>⟨.a (.v (.slice bo (sizeG n).length bc)),trivial,hv.symm,?_⟩
      refine oj_run TT rfl ?_
      refine oj_append_sl TT 0 rfl rfl rfl rfl rfl rfl rfl HT rfl rfl rfl rfl rfl rfl rfl rfl rfl (fun r hr=>(u8Rows_all _ r hr).2.2) (by omega) (by show (o.length+1+(sizeG n).length)*1<=_;omega) fun o2 c2 hc2=>oj_run TT rfl ?_
      (repeat (first | refine oj_then ?_ | refine cj_ret ?_ | refine nj_then_ret ?_ | refine nj_block_ret ?_))
      refine nj_fret TT rfl fun β w' _ _=>?_
      have e:putG ⟨kd,b,n,s,i⟩=48::turnG (sizeG n):=by unfold putG;dsimp only;rw [if_neg h0,if_neg h1,if_pos h2,if_neg hz,if_pos hn]
      have hx:(u8Xs o++[.int .u8 48])++(u8Rows (turnG (sizeG n))).flatten.map AT.val=u8Xs o++u8Xs (48::turnG (sizeG n)):=by rw [u8Xs_flat,List.append_assoc];rfl
      have hf:=hfin _ e (k:=1+(sizeG n).length) (by rw [List.length_cons,turnG_len];omega) o2 c2 (by omega)
      rw [<-hx,<-Nat.add_assoc] at hf
      exact hf
    · have hn:n.neg=false:=hn
      (repeat (first | refine cj_seq ?_ | refine cjr TT rfl ?_ | refine oj_then ?_))
      refine cj_if rfl (fun _=>?_) (fun h=>absurd h2 (of_decide_eq_false (show decide (kd=2)=false from h)))
      (repeat refine cj_seq ?_)
      refine cj_drawB 8 [0,3,7] [(0,.loc 99,paCells ⟨kd,b,n,s,i⟩)] mixed (by kernel_rfl) rfl (subH_of (by (repeat first | exact trivial | refine ⟨rfl,?_⟩))) ?_
      refine gb_val (i:=0) TT rfl (by kernel_rfl) (by kernel_rfl) rfl rfl rfl rfl rfl ?_
      refine gb_val (i:=3) TT rfl (by kernel_rfl) (by kernel_rfl) rfl rfl rfl rfl rfl ?_
      refine gb_val (i:=4) TT rfl (by kernel_rfl) (by kernel_rfl) rfl rfl rfl rfl rfl ?_
      refine gb_one (i:=1) (by kernel_rfl) ?_
      refine gb_new TT rfl rfl rfl rfl rfl ?_
      refine gb_one (i:=2) (by kernel_rfl) ?_
      refine gb_append_lit TT 0 rfl rfl rfl rfl rfl rfl rfl rfl rfl rfl rfl rfl rfl rfl rfl rfl rfl rfl (by (repeat' (first | exact trivial | refine AllLt.of ?_ | constructor))) rfl (by omega) (by show (o.length+1)*1<=_;omega) fun o1 c1 hc1=>?_
      refine gb_order [(5,.keep),(6,.sink),(7,.pure)] rfl rfl (by kernel_rfl) ?_
      refine oj_run TT rfl ?_
      refine oj_callS rfl rfl rfl rfl rfl Tryz.call238 ⟨decCells_lt 0 n,trivial⟩ (size_c σ n hs hz) fun v s1 hle1 ⟨ao,ac,hv,HS⟩=>⟨.a (.v (.slice ao (sizeG n).length ac)),trivial,hv.symm,?_⟩
      refine oj_run TT rfl ?_
      refine oj_append_sl TT 0 rfl rfl rfl rfl rfl rfl rfl HS rfl rfl rfl rfl rfl rfl rfl rfl rfl (fun r hr=>(u8Rows_all _ r hr).2.2) (by omega) (by show (o.length+1+(sizeG n).length)*1<=_;omega) fun o2 c2 hc2=>oj_run TT rfl ?_
      (repeat (first | refine oj_then ?_ | refine cj_ret ?_ | refine nj_then_ret ?_ | refine nj_block_ret ?_))
      refine nj_fret TT rfl fun β w' _ _=>?_
      have e:putG ⟨kd,b,n,s,i⟩=50::sizeG n:=by unfold putG;dsimp only;rw [if_neg h0,if_neg h1,if_pos h2,if_neg hz,if_neg (by rw [hn];decide)]
      have hx:(u8Xs o++[.int .u8 50])++(u8Rows (sizeG n)).flatten.map AT.val=u8Xs o++u8Xs (50::sizeG n):=by rw [u8Xs_flat,List.append_assoc];rfl
      have hf:=hfin _ e (k:=1+(sizeG n).length) (by rw [List.length_cons];omega) o2 c2 (by omega)
      rw [<-hx,<-Nat.add_assoc] at hf
      exact hf
  have h2:=of_decide_eq_false (show decide (kd=2)=false from h2)
  refine oj_run TT rfl ?_
  (repeat (first | refine cj_seq ?_ | refine cjr TT rfl ?_ | refine oj_then ?_ | refine cj_if_f rfl ?_))
  refine oj_split 47 rfl (fun h=>absurd (of_decide_eq_true (show decide (kd=2)=true from h)) h2) (fun _=>?_)
  refine oj_run TT rfl ?_
  (repeat (first | refine cj_seq ?_ | refine cjr TT rfl ?_ | refine oj_then ?_ | refine cj_if_f rfl ?_))
  refine cj_if rfl (fun h=>absurd (of_decide_eq_true (show decide (kd=2)=true from h)) h2) (fun _=>?_)
  (repeat (first | refine cj_seq ?_ | refine cjr TT rfl ?_ | refine oj_then ?_))
  refine cj_if rfl (fun h3=>?_) (fun h3=>?_)
  · have h3:=of_decide_eq_true (show decide (kd=3)=true from h3)
    (repeat (first | refine cj_seq ?_ | refine cjr TT rfl ?_))
    have hel:=esc_len s.data.toList
    have hsl:s.data.toList.length=s.size:=Array.length_toList
    rw [hsl] at hel
    refine oj_append_lit TT 0 rfl rfl rfl rfl rfl rfl rfl rfl rfl rfl rfl rfl rfl rfl rfl rfl rfl rfl (by (repeat' (first | exact trivial | refine AllLt.of ?_ | constructor))) rfl (by omega) (by show (o.length+1)*1<=_;omega) fun o1 c1 hc1=>oj_run TT rfl ?_
    (repeat (first | refine cj_seq ?_ | refine cjr TT rfl ?_ | refine oj_then ?_))
    refine oj_callP rfl rfl rfl rfl rfl Tryz.call239 (by (repeat' (first | exact trivial | constructor))) (ReplaceAll_c σ m hm s hps) fun v hv=>⟨.a (.v (.string (mkB (escG s.data.toList)))),trivial,hv.symm,?_⟩
    have e:putG ⟨kd,b,n,s,i⟩=64::(escG s.data.toList++[0,0]):=by unfold putG;dsimp only;rw [if_neg h0,if_neg h1,if_neg h2,if_pos h3]
    generalize escG s.data.toList=E at *
    have hE:=mkB_size E
    refine oj_run TT rfl ?_
    refine oj_append_str TT 0 rfl rfl rfl rfl rfl rfl rfl rfl rfl rfl rfl rfl rfl rfl rfl rfl rfl (by rw [hE];omega) (by rw [hE];show (o.length+1+E.length)*1<=_;omega) fun o2 c2 hc2=>?_
    rw [hE] at hc2 ⊢
    refine oj_run TT rfl ?_
    (repeat (first | refine cj_seq ?_ | refine cjr TT rfl ?_ | refine oj_then ?_))
    refine oj_append_lit TT 0 rfl rfl rfl rfl rfl rfl rfl rfl rfl rfl rfl rfl rfl rfl rfl rfl rfl rfl (by (repeat' (first | exact trivial | refine AllLt.of ?_ | constructor))) rfl (by omega) (by show (o.length+1+E.length+2)*1<=_;omega) fun o3 c3 hc3=>oj_run TT rfl ?_
    (repeat (first | refine oj_then ?_ | refine cj_ret ?_ | refine nj_then_ret ?_ | refine nj_block_ret ?_))
    refine nj_fret TT rfl fun β w' _ _=>?_
    have hx:(u8Xs o++[.int .u8 64])++u8Xs (mkB E).data.toList++[.int .u8 0,.int .u8 0]=u8Xs o++u8Xs (64::(E++[0,0])):=by
      rw [mkB_list,show (64:UInt8)::(E++[0,0])=[64]++E++[0,0] by simp,u8Xs_append,u8Xs_append,List.append_assoc,List.append_assoc,List.append_assoc]
      rfl
    have hf:=hfin _ e (k:=1+E.length+2) (by rw [List.length_cons,List.length_append];show _=E.length+2+1;omega) o3 c3 (by omega)
    rw [<-hx,<-Nat.add_assoc,<-Nat.add_assoc] at hf
    exact hf
  have h3:=of_decide_eq_false (show decide (kd=3)=false from h3)
  (repeat (first | refine cj_seq ?_ | refine cjr TT rfl ?_ | refine cj_skip ?_ | refine nj_then ?_ | refine nj_block ?_ | (refine oj_conv TT _ rfl rfl rfl rfl rfl rfl rfl rfl rfl ?_;refine oj_run TT rfl ?_) | (refine oj_bshr rfl rfl rfl rfl rfl rfl (by decide) ?_;refine oj_run TT rfl ?_)))
  have e1:IntKind.u8.wrap (bShr .i64 i 24)=((byteOf (i / 16777216)).toNat:Int):=by rw [wrap8,shrA]
  have e2:IntKind.u8.wrap (bShr .i64 i 16)=((byteOf (i / 65536)).toNat:Int):=by rw [wrap8,shrB]
  have e3:IntKind.u8.wrap (bShr .i64 i 8)=((byteOf (i / 256)).toNat:Int):=by rw [wrap8,shr8]
  have e4:IntKind.u8.wrap i=((byteOf i).toNat:Int):=wrap8 i
  dsimp only
  rw [e1,e2,e3,e4]
  refine oj_append_lit TT 0 rfl rfl rfl rfl rfl rfl rfl rfl rfl rfl rfl rfl rfl rfl rfl rfl rfl rfl (by (repeat' (first | exact trivial | refine AllLt.of ?_ | constructor))) rfl (by omega) (by show (o.length+5)*1<=_;omega) fun o1 c1 hc1=>oj_run TT rfl ?_
  (repeat (first | refine oj_then ?_ | refine cj_ret ?_))
  refine nj_fret TT rfl fun β w' _ _=>?_
  have e:putG ⟨kd,b,n,s,i⟩=[80,byteOf (i / 16777216),byteOf (i / 65536),byteOf (i / 256),byteOf i]:=by unfold putG;dsimp only;rw [if_neg h0,if_neg h1,if_neg h2,if_neg h3]
  exact hfin _ e rfl o1 c1 hc1
end Go.Sy
namespace Go.Sy
open Go.Proofs
def paE (t:Nat) (ao:Option Addr) (cap:Nat) (l:List GPart):AE:=⟨ao,l.length,cap,t,7,paXs l⟩
theorem pa_sealed {t:Nat} {σ:Snap} {ao:Option Addr} {cap:Nat} {l:List GPart} (hS:ArrSealed σ (paE t ao cap l)) (hc:l.length<=cap):SlAt σ ao l.length cap 7 (paRows l) :=
  hS.sl (E:=paE t ao cap l) rfl (fun r hr=>⟨(paRows_all l r hr).1,(paRows_all l r hr).2.1⟩) (by simp [paRows]) rfl hc
end Go.Sy
namespace Go.Sy
open Go.Proofs
theorem put_len {p:GPart} (h:Rt p):(putG p).length<=2*p.s.size+60:=by
  cases h with
  | null=>show 1<=_;omega
  | bool b=>show 1<=_;omega
  | num n h =>
    unfold putG
    dsimp only
    rw [if_neg (by decide),if_neg (by decide),if_pos rfl]
    by_cases h0:n.dg.size=0
    · rw [if_pos h0];show 1<=_;omega
    have:=size_le h h0
    rw [if_neg h0]
    split<;>rw [List.length_cons]
    · rw [turnG_len];omega
    · omega
  | str s =>
    have:=esc_len s.data.toList
    have hs:s.data.toList.length=s.size:=Array.length_toList
    show (64::(escG s.data.toList++[0,0])).length<=_
    rw [List.length_cons,List.length_append]
    show (escG s.data.toList).length+2+1<=2*s.size+60
    omega
  | whole i h1 h2=>show 5<=_;omega
def enK (l:List GPart) (k:Nat):List UInt8:=(l.take k).flatMap putG
theorem enK_succ {l:List GPart} {k:Nat} {p:GPart} (h:l[k]?=some p):enK l (k+1)=enK l k++putG p:=by
  obtain ⟨hk,he⟩:=List.getElem?_eq_some_iff.1 h
  unfold enK
  rw [List.take_succ_eq_append_getElem hk,he,List.flatMap_append]
  simp
theorem putF_len {l:List GPart} (h:∀ p∈l,Rt p/\p.s.size<=1000000):(l.flatMap putG).length<=l.length*2000060:=by
  induction l with
  | nil=>exact Nat.le_refl _
  | cons p l ih =>
    have h1:=ih fun q hq=>h q (List.mem_cons_of_mem p hq)
    obtain ⟨h2,h3⟩:=h p List.mem_cons_self
    have h4:=put_len h2
    rw [List.flatMap_cons,List.length_append,List.length_cons,Nat.succ_mul]
    omega
structure EnS where
  k:Nat
  oo:Option Addr
  oc:Nat
set_option maxRecDepth 100000 in
set_option maxHeartbeats 4000000 in
theorem Encode_c (σ:Snap) (m:Int) (hm:σ.cell ⟨0,0,none⟩=some (.int .i64 m)) (l:List GPart) (hl:l.length<=140737488355328) (hb:∀ p∈l,p.n.dg.size<=mostLen/\p.s.size<=1000000) (lo:Option Addr) (lc:Nat) (H:SlAt σ lo l.length lc 7 (paRows l)) :
    PureS Tryz.prog 182 [.a (.v (.slice lo l.length lc))] σ (fun v σ'=>∃ bo bc,v=.tuple #[.slice bo (encG l).1.length bc,.int .i64 (encG l).2]/\SlAt σ' bo (encG l).1.length bc 1 (u8Rows (encG l).1)):=by
  refine enter_s Tryz.func182 rfl rfl (by (repeat' (first | exact trivial | constructor))) fun w=>?_
  (repeat (first | refine cj_seq ?_ | refine cjr TT rfl ?_ | refine oj_then ?_))
  refine cj_if rfl (fun h=>?_) (fun h=>?_)
  · have h:=of_decide_eq_true (show decide ((16:Int)<l.length)=true from h)
    have e:encG l=([],4):=by unfold encG;rw [if_pos (by omega)]
    rw [e]
    (repeat (first | refine cj_seq ?_ | refine cjr TT rfl ?_ | refine oj_then ?_ | refine cj_ret ?_ | refine nj_then_ret ?_))
    refine nj_ret TT rfl fun β w' _ _=>?_
    exact ⟨none,0,rfl,SlAt.nil _ none 0 1⟩
  have h16:l.length<=16:=by have:=of_decide_eq_false (show decide ((16:Int)<l.length)=false from h);omega
  (repeat (first | refine cj_seq ?_ | refine cjr TT rfl ?_ | refine oj_then ?_ | refine cj_skip ?_ | refine cj_block ?_ | refine nj_then ?_))
  refine cj_nilarr 5 1 ?_
  refine cj_loop2 (fun (s:Snap) (_:EnS)=>s) (fun _ t=>[(4,.a (.v (.slice t.oo (enK l t.k).length t.oc))),(10,.a (.v (.slice lo l.length lc))),(11,.a (.v (.int .i64 l.length))),(12,.a (.v (.int .i64 (t.k:Nat))))]) (fun _ _=>[]) (fun _ t=>[u8E t.oo t.oc (enK l t.k)]) 0
    (fun s t=>σ.le s/\t.k<=l.length/\(enK l t.k).length<=t.oc/\∀ p∈l.take t.k,Rt p) (fun _ t=>l.length - t.k) σ ⟨0,none,0⟩ ⟨Snap.le_refl _,Nat.zero_le _,Nat.le_refl _,fun _ h=>(by cases h)⟩ rfl (by (repeat first | exact trivial | refine ⟨rfl,?_⟩)) (by (repeat first | exact trivial | refine ⟨rfl,?_⟩)) rfl (by (repeat' (first | exact trivial | constructor))) (by (repeat' exact trivial)) fun s ⟨k,oo,oc⟩ ⟨hle,hk,hoc,hr⟩=>?_
  dsimp only at hk hoc hr ⊢
  have H:=H.mono hle
  have hm:=hle.cell hm
  (repeat (first | refine cj_seq ?_ | refine cjr TT rfl ?_ | refine oj_then ?_))
  refine cj_if rfl (fun h=>?_) (fun h=>?_)
  rotate_left
  · have hk0:k=l.length:=by have:=of_decide_eq_false h;omega
    rw [hk0,List.take_length] at hr
    have e:encG l=(enK l k,0):=by
      unfold encG enK
      rw [if_neg (by omega),if_pos (all_rt.2 hr),hk0,List.take_length]
    rw [e]
    (repeat (first | refine cj_seq ?_ | refine cjr TT rfl ?_ | refine oj_then ?_ | refine cj_exit ?_ | refine cj_ret ?_ | refine nj_then ?_ | refine nj_then_exit ?_ | refine nj_block_out ?_))
    refine nj_seal 0 rfl rfl fun s1 hle1 hS=>?_
    refine nj_ret TT rfl fun β w' _ _=>?_
    exact ⟨oo,oc,rfl,u8_sealed hS hoc⟩
  have hkl:k<l.length:=by have:=of_decide_eq_true h;omega
  have hx:=List.getElem?_eq_getElem hkl
  have hmem:=List.getElem_mem hkl
  have hrow:=paRows_get hx
  have hs1:=enK_succ hx
  have htk:l.take (k+1)=l.take k++[l[k]]:=List.take_succ_eq_append_getElem hkl
  have hbk:(enK l k).length<=16*2000060:=by
    have h1:=putF_len (l:=l.take k) fun p hp=>⟨hr p hp,(hb p (List.mem_of_mem_take hp)).2⟩
    have h2:(l.take k).length<=16:=by rw [List.length_take];omega
    exact Nat.le_trans h1 (Nat.mul_le_mul_right _ h2)
  obtain ⟨hb1,hb2⟩:=hb l[k] hmem
  generalize l[k]=p at *
  (repeat (first | refine cj_seq ?_ | refine cjr TT rfl ?_ | refine cj_skip ?_ | refine cj_block ?_ | refine nj_then ?_))
  refine oj_idx TT rfl rfl rfl rfl rfl rfl rfl rfl rfl H (by omega) hrow (oj_run TT rfl ?_)
  (repeat (first | refine cj_seq ?_ | refine cjr TT rfl ?_ | refine oj_then ?_))
  refine oj_callP rfl rfl rfl rfl rfl Tryz.call218 (by (repeat' (first | exact trivial | refine AllLt.of ?_ | constructor))) (right_c s p hb1) fun v hv=>⟨.a (.b (rightG p)),trivial,hv.symm,?_⟩
  refine oj_run TT rfl ?_
  (repeat refine oj_then ?_)
  refine cj_if rfl (fun hq=>?_) (fun hq=>?_)
  · have hq:rightG p=false:=by simpa using hq
    have e:encG l=([],1):=by
      unfold encG
      rw [if_neg (by omega),if_neg]
      intro ha
      have:=List.all_eq_true.1 ha p hmem
      rw [hq] at this
      cases this
    rw [e]
    (repeat (first | refine cj_seq ?_ | refine cjr TT rfl ?_ | refine oj_then ?_ | refine cj_ret ?_ | refine nj_then_ret ?_ | refine nj_block_ret ?_))
    refine nj_ret TT rfl fun β w' _ _=>?_
    exact ⟨none,0,rfl,SlAt.nil _ none 0 1⟩
  have hq:rightG p=true:=by simpa using hq
  have hrt:=(right_iff p).1 hq
  (repeat (first | refine cjr TT rfl ?_ | refine cj_skip ?_ | refine nj_then ?_))
  refine oj_callF [0] (A0:=[u8E oo oc (enK l k)]) (Ar:=[]) rfl rfl rfl rfl rfl rfl rfl Tryz.call219 ⟨trivial,paCells_lt 0 p,trivial⟩ (put_c s m hm p hrt hb2 (enK l k) (by omega) oo oc hoc) fun v s1 A' hle1 ⟨o1,c1,hv,hc1,hA⟩=>⟨.a (.v (.slice o1 (enK l k++putG p).length c1)),trivial,hv.symm,?_⟩
  subst hA
  rw [<-hs1] at hc1 ⊢
  refine oj_run TT rfl ?_
  (repeat (first | refine cjr TT rfl ?_ | refine oj_nil ?_ | refine nj_then ?_ | refine nj_block ?_ | (refine oj_add rfl rfl rfl rfl rfl rfl (by omega) ?_;refine oj_run TT rfl ?_)))
  refine nj_again (s1,(⟨k+1,o1,c1⟩:EnS)) ⟨Snap.le_trans hle hle1,hkl,hc1,fun q hq'=>?_⟩ (by dsimp only;omega) rfl (by (repeat first | exact trivial | refine ⟨rfl,?_⟩)) (by (repeat first | exact trivial | refine ⟨rfl,?_⟩)) rfl (by (repeat' (first | exact trivial | constructor))) (by (repeat' exact trivial))
  rw [htk] at hq'
  rcases List.mem_append.1 hq' with hq' | hq'
  · exact hr q hq'
  · rw [List.mem_singleton] at hq'
    subst hq'
    exact hrt
end Go.Sy
/- Plain law: items that stand in one another, and the sweep over them. No program in sight. -/
namespace Go.Sy
structure GItem where
  doc:Int
  at_:Int
  st:Int
  en:Int
  lv:Int
deriving DecidableEq
theorem snocRec {α:Type} {motive:List α->Prop} (nil:motive []) (snoc:∀ ss s,motive ss->motive (ss++[s])) (l:List α):motive l:=by
  have h:∀ m:List α,motive m.reverse:=fun m=>by
    induction m with
    | nil=>exact nil
    | cons x m ih=>rw [List.reverse_cons];exact snoc _ _ ih
  have:=h l.reverse
  rwa [List.reverse_reverse] at this
end Go.Sy
namespace Go.Sy
open Go.Proofs
def spanCells:List AT:=[.v (.int .u8 128),.v (.int .u8 0),.v (.int .i32 0),.v (.int .u8 224),.v (.int .u8 192),.v (.int .i32 128),.v (.int .u8 240),.v (.int .u8 224),.v (.int .i32 2048),.v (.int .u8 248),.v (.int .u8 240),.v (.int .i32 65536)]
theorem und208:Tryz.prog.underlying 337=some (.array 4 336):=by kernel_rfl
theorem spanCells_lt (n:Nat):∀ c∈spanCells,c.lt n:=by simp [spanCells,AT.lt]
set_option maxRecDepth 100000 in
set_option maxHeartbeats 1000000 in
theorem spans_c (σ:Snap):PlainS Tryz.prog 231 [] σ (fun v=>v=(SV.agg spanCells).den β0):=by
  refine enter_p Tryz.func231 rfl rfl trivial fun w=>?_
  (repeat (first | refine cj_seq ?_ | refine cjr TT rfl ?_ | refine oj_then ?_))
  refine oj_buildArr TT und208 rfl rfl rfl rfl rfl rfl rfl rfl (oj_run TT rfl ?_)
  (repeat (first | refine oj_then ?_ | refine cj_ret ?_))
  refine nj_ret TT rfl fun β w' _ _=>?_
  rfl
def soundR (r:Int):Bool:=(decide (0<=r)&&decide (r<55296))||(decide (57343<r)&&decide (r<=1114111))
set_option maxRecDepth 100000 in
set_option maxHeartbeats 1000000 in
theorem sound_c (σ:Snap) (r:Int):PlainS Tryz.prog 232 [.a (.v (.int .i32 r))] σ (fun v=>v=.bool (soundR r)):=by
  refine enter_p Tryz.func232 rfl rfl (by (repeat' (first | exact trivial | constructor))) fun w=>?_
  (repeat (first | refine cj_seq ?_ | refine cjr TT rfl ?_ | refine oj_then ?_))
  refine oj_split 5 rfl (fun h=>?_) (fun h=>?_)<;>refine oj_run TT rfl ?_
  · refine oj_split 9 rfl (fun h'=>?_) (fun h'=>?_)<;>refine oj_run TT rfl ?_
    · (repeat (first | refine oj_then ?_ | refine cj_ret ?_))
      refine nj_ret TT rfl fun β w' _ _=>?_
      show Value.bool true=_
      rw [soundR,h,h']
      rfl
    · refine oj_split 12 rfl (fun h2=>?_) (fun h2=>?_)<;>(refine oj_run TT rfl ?_)<;>(repeat (first | refine oj_then ?_ | refine cj_ret ?_))
      · refine nj_ret TT rfl fun β w' _ _=>?_
        show Value.bool _=_
        rw [soundR,h,h',h2]
        rfl
      · refine nj_ret TT rfl fun β w' _ _=>?_
        show Value.bool _=_
        rw [soundR,h,h',h2]
        rfl
  · refine oj_split 12 rfl (fun h2=>?_) (fun h2=>?_)<;>(refine oj_run TT rfl ?_)<;>(repeat (first | refine oj_then ?_ | refine cj_ret ?_))
    · refine nj_ret TT rfl fun β w' _ _=>?_
      show Value.bool _=_
      rw [soundR,h,h2]
      rfl
    · refine nj_ret TT rfl fun β w' _ _=>?_
      show Value.bool _=_
      rw [soundR,h,h2]
      rfl
def tailR:Int->List UInt8->Option Int
  | r,[]=>some r
  | r,c::l=>if bAnd .u8 c.toNat 192=128 then tailR (bOr .i32 (bShl .i32 r 6) (IntKind.i32.wrap (bAnd .u8 c.toNat 63))) l else none
def spanAt (k:Nat):Int×Int×Int:=match k with
  | 0=>(128,0,0)
  | 1=>(224,192,128)
  | 2=>(240,224,2048)
  | _=>(248,240,65536)
def nextAt (l:List UInt8) (k:Nat) (u:UInt8):Int×Int :=
  match tailR (IntKind.i32.wrap (bAndNot .u8 u.toNat (spanAt k).1)) ((l.take (k+1)).drop 1) with
  | none=>(0,0)
  | some r=>if r<(spanAt k).2.2\/soundR r=false then (0,0) else (r,k+1)
def nextFrom (l:List UInt8):Nat->Nat->Int×Int
  | 0,_=>(0,0)
  | n+1,k =>
    match l with
    | []=>(0,0)
    | u::_=>if l.length<=k\/bAnd .u8 u.toNat (spanAt k).1≠(spanAt k).2.1 then nextFrom l n (k+1) else nextAt l k u
def utfNext (l:List UInt8):Int×Int:=nextFrom l 4 0
def bRows (l:List UInt8):List (List AT):=l.map fun u=>[.v (.int .u8 u.toNat)]
theorem bRows_get {l:List UInt8} {i:Nat} {u:UInt8} (h:l[i]?=some u):(bRows l)[i]?=some [.v (.int .u8 u.toNat)]:=by simp [bRows,h]
theorem bRows_mk (l:List UInt8):byteRows (mkB l)=bRows l:=rfl
theorem bRows_sub (l:List UInt8) (a b:Nat):((bRows l).take b).drop a=bRows ((l.take b).drop a):=by simp [bRows,List.map_take,List.map_drop]
theorem nextFrom_skip {l:List UInt8} {k:Nat} (hk:k<4) (h:l.length<=k\/∃ u,l[0]?=some u/\bAnd .u8 u.toNat (spanAt k).1≠(spanAt k).2.1):nextFrom l (4 - k) k=nextFrom l (4 - (k+1)) (k+1):=by
  rw [show 4 - k=(4 - (k+1))+1 by omega]
  cases l with
  | nil=>simp only [nextFrom];cases 4 - (k+1)<;>rfl
  | cons u l =>
    simp only [nextFrom]
    rw [if_pos (h.imp id fun ⟨v,hv,hne⟩=>by simp at hv;subst hv;exact hne)]
theorem nextFrom_take {l:List UInt8} {k:Nat} {u:UInt8} (hk:k<4) (hl:k<l.length) (hu:l[0]?=some u) (h:bAnd .u8 u.toNat (spanAt k).1=(spanAt k).2.1):nextFrom l (4 - k) k=nextAt l k u:=by
  rw [show 4 - k=(4 - (k+1))+1 by omega]
  cases l with
  | nil=>simp at hl
  | cons v l =>
    simp at hu
    subst hu
    simp only [nextFrom]
    rw [if_neg (by simp only [not_or,Nat.not_le,ne_eq,Decidable.not_not];exact ⟨hl,h⟩)]
def spanRow (k:Nat):List AT:=[.v (.int .u8 (spanAt k).1),.v (.int .u8 (spanAt k).2.1),.v (.int .i32 (spanAt k).2.2)]
theorem spanRow_get {k:Nat} (h:k<4):takeAt spanCells (k*3) 3=some (spanRow k):=by
  match k,h with
  | 0,_=>rfl
  | 1,_=>rfl
  | 2,_=>rfl
  | 3,_=>rfl
theorem und207:Tryz.prog.underlying 336=some (.struct (Tryz.prog.fieldsOf 336)):=by kernel_rfl
theorem cells207:Tryz.prog.cellsOf 336=3:=by kernel_rfl
set_option maxRecDepth 100000 in
set_option maxHeartbeats 1000000 in
theorem utfNext_c (σ:Snap) (ao:Option Addr) (cap:Nat) (l:List UInt8) (H:SlAt σ ao l.length cap 1 (bRows l)) (hl:l.length<=mostLen) :
    PlainS Tryz.prog 199 [.a (.v (.slice ao l.length cap))] σ (fun v=>v=(SV.tup [.a (.v (.int .i32 (utfNext l).1)),.a (.v (.int .i64 (utfNext l).2))]).den β0):=by
  simp only [mostLen] at hl
  refine enter_p Tryz.func199 rfl rfl (by (repeat' (first | exact trivial | constructor))) fun w=>?_
  (repeat (first | refine cj_seq ?_ | refine cjr TT rfl ?_ | refine oj_then ?_))
  refine oj_callP rfl rfl rfl rfl rfl Tryz.call231 (by (repeat' exact trivial)) (spans_c σ) fun v hv=>⟨.agg spanCells,spanCells_lt 0,hv.symm,?_⟩
  refine oj_run TT rfl ?_
  (repeat (first | refine oj_then ?_ | refine cj_block ?_))
  refine cj_loop (fun _=>σ) (fun (k:Nat)=>[(0,.a (.v (.slice ao l.length cap))),(9,.agg spanCells),(10,.a (.v (.int .i64 k)))]) (fun _=>[]) (fun _=>[]) 0
    (fun k=>k<=4/\nextFrom l (4 - k) k=utfNext l) (fun k=>4 - k) 0 ⟨by omega,rfl⟩ rfl (by (repeat first | exact trivial | refine ⟨rfl,?_⟩)) (by (repeat first | exact trivial | refine ⟨rfl,?_⟩)) rfl ⟨trivial,spanCells_lt 0,trivial,trivial⟩ trivial fun k ⟨hk,hkn⟩=>?_
  (repeat (first | refine cj_seq ?_ | refine cjr TT rfl ?_ | refine oj_then ?_))
  refine cj_if rfl (fun h=>?_) (fun h=>?_)
  · have hk4:k<4:=by simp at h;omega
    (repeat (first | refine cj_seq ?_ | refine cjr TT rfl ?_ | refine cj_skip ?_ | refine cj_block ?_ | refine nj_then ?_))
    refine oj_index_arr (spanRow k) 336 4 _ und208 und207 rfl rfl rfl rfl rfl rfl rfl (by omega) (by omega) (by rw [show Tryz.prog.cellsOf 336=3 from cells207];exact spanRow_get hk4) (oj_run TT rfl ?_)
    (repeat (first | refine cj_seq ?_ | refine oj_then ?_))
    refine cj_draw [(0,.pure),(1,.pure),(2,.pure),(3,.pure),(4,.pure),(5,.pure),(6,.pure),(7,.quiet),(8,.pure),(9,.quiet),(10,.pure),(11,.pure),(12,.quiet),(13,.pure),(14,.pure)] mixed (by kernel_rfl) (oj_run TT rfl ?_)
    refine oj_split 18 rfl (fun h=>?_) (fun h=>?_)
    · refine oj_run TT rfl ?_
      (repeat (first | refine cjr TT rfl ?_ | refine oj_then ?_ | refine oj_nil ?_ | refine cj_if_t rfl ?_ | refine cj_exit ?_ | refine nj_then ?_ | refine nj_then_exit ?_ | refine nj_block_out ?_ | (refine oj_add rfl rfl rfl rfl rfl rfl (by omega) ?_;refine oj_run TT rfl ?_)))
      refine nj_again (k+1) ⟨by omega,?_⟩ (by omega) rfl (by (repeat first | exact trivial | refine ⟨rfl,?_⟩)) (by (repeat first | exact trivial | refine ⟨rfl,?_⟩)) rfl ⟨trivial,spanCells_lt 0,trivial,trivial⟩ trivial
      rw [<-hkn]
      exact (nextFrom_skip hk4 (.inl (by simp at h;omega))).symm
    have hkl:k<l.length:=by simp at h;omega
    obtain ⟨u,hu⟩:∃ u,l[0]?=some u:=⟨l[0],List.getElem?_eq_getElem (by omega)⟩
    refine oj_run TT rfl ?_
    refine oj_idx TT rfl rfl rfl rfl rfl rfl rfl rfl rfl H (by omega) (bRows_get hu) (oj_run TT rfl ?_)
    (repeat (first | refine oj_then ?_ | (refine oj_band rfl rfl rfl rfl rfl rfl ?_;refine oj_run TT rfl ?_)))
    refine cj_if rfl (fun h=>?_) (fun h=>?_)
    · (repeat (first | refine cjr TT rfl ?_ | refine oj_nil ?_ | refine cj_exit ?_ | refine nj_then ?_ | refine nj_then_exit ?_ | refine nj_block_out ?_ | (refine oj_add rfl rfl rfl rfl rfl rfl (by omega) ?_;refine oj_run TT rfl ?_)))
      refine nj_again (k+1) ⟨by omega,?_⟩ (by omega) rfl (by (repeat first | exact trivial | refine ⟨rfl,?_⟩)) (by (repeat first | exact trivial | refine ⟨rfl,?_⟩)) rfl ⟨trivial,spanCells_lt 0,trivial,trivial⟩ trivial
      rw [<-hkn]
      exact (nextFrom_skip hk4 (.inr ⟨u,hu,by simpa using h⟩)).symm
    have heq:bAnd .u8 u.toNat (spanAt k).1=(spanAt k).2.1:=by simpa using h
    rw [nextFrom_take hk4 hkl hu heq] at hkn
    (repeat (first | refine cj_seq ?_ | refine cj_skip ?_ | refine nj_then ?_))
    refine cj_draw [(0,.pure),(1,.pure),(2,.quiet),(3,.pure),(4,.quiet),(5,.pure),(6,.pure),(7,.pure)] mixed (by kernel_rfl) (oj_run TT rfl ?_)
    refine oj_idx TT rfl rfl rfl rfl rfl rfl rfl rfl rfl H (by omega) (bRows_get hu) (oj_run TT rfl ?_)
    (repeat (first | refine cj_seq ?_ | refine cjr TT rfl ?_ | refine oj_then ?_ | (refine oj_bandnot rfl rfl rfl rfl rfl rfl ?_;refine oj_run TT rfl ?_) | (refine oj_conv TT _ rfl rfl rfl rfl rfl rfl rfl rfl rfl ?_;refine oj_run TT rfl ?_) | (refine oj_add rfl rfl rfl rfl rfl rfl (by omega) ?_;refine oj_run TT rfl ?_)))
    have hncap:=H.ncap
    refine oj_slice (vl:=some (.int .i64 1)) (vh:=some (.int .i64 (k+1))) TT 1 (k+1) rfl rfl rfl rfl rfl rfl rfl rfl rfl rfl (.inr ⟨_,_,rfl,rfl⟩) (.inr ⟨_,_,rfl,rfl⟩) (by omega) (by omega) hncap ?_
    have Ht:=H.sub (l:=1) (k:=k+1) (by omega) (by omega)
    rw [bRows_sub] at Ht
    generalize hao:(if cap=1 then ao else ao.map (·.add (1*1)))=ao' at Ht
    generalize hcap':cap - 1=cap' at Ht
    generalize htl:(l.take (k+1)).drop 1=tl at Ht
    have htll:tl.length=k:=by rw [<-htl];simp;omega
    rw [show k+1 - 1=k by omega] at Ht
    refine oj_set 39 (.a (.v (.slice ao' k cap'))) rfl trivial (fun β=>?_) (oj_run TT rfl ?_)
    · rw [show k+1 - 1=k by omega]
    (repeat (first | refine oj_then ?_ | refine cj_block ?_))
    refine cj_loop2 (fun _ _=>σ) (fun (i:Nat) (r:Int)=>[(0,.a (.v (.slice ao l.length cap))),(4,.a (.v (.int .i64 k))),(5,.a (.p 0 0)),(6,.a (.v (.int .i32 r))),(9,.agg spanCells),(10,.a (.v (.int .i64 k))),(39,.a (.v (.slice ao' k cap'))),(40,.a (.v (.int .i64 k))),(41,.a (.v (.int .i64 i)))])
      (fun _ _=>[(0,.loc 336,[.v (.int .u8 (spanAt k).1),.v (.int .u8 (spanAt k).2.1),.v (.int .i32 (spanAt k).2.2)])]) (fun _ _=>[]) 1
      (fun i r=>i<=k/\tailR r (tl.drop i)=tailR (IntKind.i32.wrap (bAndNot .u8 u.toNat (spanAt k).1)) tl) (fun i _=>k - i) 0 (IntKind.i32.wrap (bAndNot .u8 u.toNat (spanAt k).1)) ⟨by omega,rfl⟩ rfl (by (repeat first | exact trivial | refine ⟨rfl,?_⟩)) (by (repeat first | exact trivial | refine ⟨rfl,?_⟩)) rfl ⟨trivial,trivial,Nat.zero_lt_one,trivial,spanCells_lt 1,trivial,trivial,trivial,trivial,trivial⟩ (by (repeat' (first | exact trivial | exact Nat.le_of_ble_eq_true rfl | refine AllLt.of ?_ | constructor))) fun i r ⟨hi,hir⟩=>?_
    (repeat (first | refine cj_seq ?_ | refine cjr TT rfl ?_ | refine oj_then ?_))
    refine cj_if rfl (fun h=>?_) (fun h=>?_)
    · have hik:i<k:=by simp at h;omega
      obtain ⟨c,hc⟩:∃ c,tl[i]?=some c:=⟨tl[i],List.getElem?_eq_getElem (by omega)⟩
      have hdrop:tl.drop i=c::tl.drop (i+1):=by
        rw [List.drop_eq_getElem_cons (by omega)]
        rw [List.getElem?_eq_getElem (by omega)] at hc
        injection hc with hc
        rw [hc]
      rw [hdrop] at hir
      simp only [tailR] at hir
      (repeat (first | refine cj_seq ?_ | refine cjr TT rfl ?_ | refine cj_skip ?_ | refine cj_block ?_ | refine nj_then ?_))
      refine oj_idx TT rfl rfl rfl rfl rfl rfl rfl rfl rfl Ht (by omega) (bRows_get hc) (oj_run TT rfl ?_)
      (repeat (first | refine cj_seq ?_ | refine cjr TT rfl ?_ | refine oj_then ?_ | (refine oj_band rfl rfl rfl rfl rfl rfl ?_;refine oj_run TT rfl ?_)))
      refine cj_if rfl (fun h=>?_) (fun h=>?_)
      · (repeat (first | refine cj_seq ?_ | refine cjr TT rfl ?_ | refine oj_then ?_ | refine cj_ret ?_ | refine nj_then_ret ?_ | refine nj_block_ret ?_))
        refine nj_ret TT rfl fun β w' _ _=>?_
        have hne:bAnd .u8 c.toNat 192≠128:=by simpa using h
        rw [if_neg hne] at hir
        rw [<-hkn,nextAt,htl,<-hir]
        rfl
      · have heq:bAnd .u8 c.toNat 192=128:=by simpa using h
        rw [if_pos heq] at hir
        (repeat (first | refine cjr TT rfl ?_ | refine oj_nil ?_ | refine cj_skip ?_ | refine nj_then ?_ | refine nj_block ?_ | (refine oj_band rfl rfl rfl rfl rfl rfl ?_;refine oj_run TT rfl ?_) | (refine oj_bor rfl rfl rfl rfl rfl rfl ?_;refine oj_run TT rfl ?_) | (refine oj_conv TT _ rfl rfl rfl rfl rfl rfl rfl rfl rfl ?_;refine oj_run TT rfl ?_) | (refine oj_bshl rfl rfl rfl rfl rfl rfl (by decide) ?_;refine oj_run TT rfl ?_) | (refine oj_add rfl rfl rfl rfl rfl rfl (by omega) ?_;refine oj_run TT rfl ?_)))
        refine nj_again (i+1,bOr .i32 (bShl .i32 r 6) (IntKind.i32.wrap (bAnd .u8 c.toNat 63))) ⟨hik,hir⟩ (by dsimp only;omega) rfl (by (repeat first | exact trivial | refine ⟨rfl,?_⟩)) (by (repeat first | exact trivial | refine ⟨rfl,?_⟩)) rfl ⟨trivial,trivial,Nat.zero_lt_one,trivial,spanCells_lt 1,trivial,trivial,trivial,trivial,trivial⟩ (by (repeat' (first | exact trivial | exact Nat.le_of_ble_eq_true rfl | refine AllLt.of ?_ | constructor)))
    · have hik:i=k:=by simp at h;omega
      rw [List.drop_of_length_le (by omega)] at hir
      simp only [tailR] at hir
      (repeat (first | refine cj_seq ?_ | refine cjr TT rfl ?_ | refine cj_exit ?_ | refine nj_then ?_ | refine nj_then_exit ?_ | refine nj_block_out ?_))
      have hfin:utfNext l=if r<(spanAt k).2.2\/soundR r=false then (0,0) else (r,(k:Int)+1):=by
        rw [<-hkn,nextAt,htl,<-hir]
      refine oj_split 59 rfl (fun h=>?_) (fun h=>?_)
      · refine oj_run TT rfl ?_
        (repeat (first | refine cj_seq ?_ | refine cjr TT rfl ?_ | refine oj_then ?_ | refine cj_if_t rfl ?_ | refine cj_ret ?_ | refine nj_then_ret ?_ | refine nj_block_ret ?_))
        refine nj_ret TT rfl fun β w' _ _=>?_
        rw [hfin,if_pos (.inl (by simpa using h))]
        rfl
      refine oj_run TT rfl ?_
      refine oj_callP rfl rfl rfl rfl rfl Tryz.call232 (by (repeat' (first | exact trivial | constructor))) (sound_c σ r) fun v hv=>⟨.a (.b (soundR r)),trivial,hv.symm,?_⟩
      refine oj_run TT rfl ?_
      (repeat refine oj_then ?_)
      refine cj_if rfl (fun h'=>?_) (fun h'=>?_)
      · (repeat (first | refine cj_seq ?_ | refine cjr TT rfl ?_ | refine oj_then ?_ | refine cj_ret ?_ | refine nj_then_ret ?_ | refine nj_block_ret ?_))
        refine nj_ret TT rfl fun β w' _ _=>?_
        rw [hfin,if_pos (.inr (by simpa using h'))]
        rfl
      · (repeat (first | refine cj_seq ?_ | refine cjr TT rfl ?_ | refine oj_then ?_ | refine cj_skip ?_ | refine cj_ret ?_ | refine nj_then ?_ | refine nj_then_ret ?_ | refine nj_block_ret ?_ | (refine oj_add rfl rfl rfl rfl rfl rfl (by omega) ?_;refine oj_run TT rfl ?_)))
        refine nj_ret TT rfl fun β w' _ _=>?_
        rw [hfin,if_neg (by simp at h h';simp [h'];omega)]
        rfl
  · (repeat (first | refine cj_seq ?_ | refine cjr TT rfl ?_ | refine oj_then ?_ | refine cj_exit ?_ | refine cj_ret ?_ | refine nj_then ?_ | refine nj_then_exit ?_ | refine nj_block_out ?_))
    refine nj_ret TT rfl fun β w' _ _=>?_
    have:k=4:=by simp at h;omega
    subst this
    rw [<-hkn]
    rfl
end Go.Sy
namespace Go.Sy
open Go.Proofs
theorem tail_len (l:List UInt8) (k:Nat) (u:UInt8):0<=(nextAt l k u).2/\(nextAt l k u).2<=k+1:=by
  unfold nextAt
  split
  · simp;omega
  · split<;>simp<;>omega
theorem next_len (l:List UInt8):∀ (n k:Nat),0<=(nextFrom l n k).2/\(nextFrom l n k).2<=l.length
  | 0,k=>by simp [nextFrom]
  | n+1,k=>by
    cases l with
    | nil=>simp [nextFrom]
    | cons u l =>
      simp only [nextFrom]
      split
      · exact next_len (u::l) n (k+1)
      · rename_i h
        simp only [not_or] at h
        have:=tail_len (u::l) k u
        omega
def checkFrom (l:List UInt8):Nat->Nat->Int
  | 0,_ => -1
  | n+1,at_ =>
    if at_<l.length then
      if (utfNext (l.drop at_)).2=0 then at_ else checkFrom l n (at_+(utfNext (l.drop at_)).2.toNat)
    else -1
def utfCheck (l:List UInt8):Int:=checkFrom l (l.length+1) 0
set_option maxRecDepth 100000 in
set_option maxHeartbeats 1000000 in
theorem utfCheck_c (σ:Snap) (ao:Option Addr) (cap:Nat) (l:List UInt8) (H:SlAt σ ao l.length cap 1 (bRows l)) (hl:l.length<=mostLen) :
    PlainS Tryz.prog 139 [.a (.v (.slice ao l.length cap))] σ (fun v=>v=.int .i64 (utfCheck l)):=by
  have hl':=hl
  simp only [mostLen] at hl'
  refine enter_p Tryz.func139 rfl rfl (by (repeat' (first | exact trivial | constructor))) fun w=>?_
  (repeat (first | refine cj_seq ?_ | refine cjr TT rfl ?_ | refine oj_then ?_ | refine cj_block ?_))
  refine cj_loop2 (fun _ _=>σ) (fun (n:Nat) (k:Nat)=>[(0,.a (.v (.slice ao l.length cap))),(3,.a (.v (.int .i64 k)))]) (fun _ _=>[]) (fun _ _=>[]) 0
    (fun n k=>k<=l.length/\l.length - k<n/\checkFrom l n k=utfCheck l) (fun n k=>l.length - k) (l.length+1) 0 ⟨by omega,by omega,rfl⟩ rfl (by (repeat first | exact trivial | refine ⟨rfl,?_⟩)) (by (repeat first | exact trivial | refine ⟨rfl,?_⟩)) rfl (by (repeat' (first | exact trivial | constructor))) (by (repeat' exact trivial)) fun n k ⟨hk,hn,hkn⟩=>?_
  (repeat (first | refine cj_seq ?_ | refine cjr TT rfl ?_ | refine oj_then ?_))
  refine cj_if rfl (fun h=>?_) (fun h=>?_)
  · have hkl:k<l.length:=by simp at h;omega
    (repeat (first | refine cj_seq ?_ | refine cjr TT rfl ?_ | refine cj_skip ?_ | refine cj_block ?_ | refine nj_then ?_))
    have hncap:=H.ncap
    refine oj_slice (vl:=some (.int .i64 k)) (vh:=none) TT k l.length rfl rfl rfl rfl rfl rfl rfl rfl rfl rfl (.inr ⟨_,_,rfl,rfl⟩) (.inl ⟨rfl,rfl⟩) (by omega) hncap hncap ?_
    have Ht:=H.sub (l:=k) (k:=l.length) (by omega) (by omega)
    rw [bRows_sub,List.take_length] at Ht
    generalize hao:(if cap=k then ao else ao.map (·.add (k*1)))=ao' at Ht
    generalize hcap':cap - k=cap' at Ht
    have hdl:(l.drop k).length=l.length - k:=List.length_drop
    rw [<-hdl] at Ht
    refine oj_set 13 (.a (.v (.slice ao' (l.drop k).length cap'))) rfl trivial (fun β=>?_) (oj_run TT rfl ?_)
    · rw [hdl]
    refine oj_callP rfl rfl rfl rfl rfl Tryz.call199 (by (repeat' (first | exact trivial | constructor))) (utfNext_c σ ao' cap' (l.drop k) Ht (by rw [hdl];simp only [mostLen];omega)) fun v hv=>⟨_,by (repeat' (first | exact trivial | refine SV.lt_tup ?_ | constructor)),hv.symm,?_⟩
    refine oj_run TT rfl ?_
    (repeat (first | refine cj_seq ?_ | refine cjr TT rfl ?_ | refine oj_then ?_))
    have hb:0<=(utfNext (l.drop k)).2/\(utfNext (l.drop k)).2<=(l.drop k).length:=next_len (l.drop k) 4 0
    obtain ⟨m,rfl⟩:∃ m,n=m+1:=⟨n - 1,by omega⟩
    rw [checkFrom,if_pos hkl] at hkn
    refine cj_if rfl (fun h=>?_) (fun h=>?_)
    · (repeat (first | refine cj_seq ?_ | refine cjr TT rfl ?_ | refine oj_then ?_ | refine cj_ret ?_ | refine nj_then_ret ?_ | refine nj_block_ret ?_))
      refine nj_ret TT rfl fun β w' _ _=>?_
      rw [if_pos (by simpa using h)] at hkn
      rw [<-hkn]
      rfl
    · have h0:(utfNext (l.drop k)).2≠0:=by simpa using h
      rw [if_neg h0] at hkn
      (repeat (first | refine cjr TT rfl ?_ | refine oj_nil ?_ | refine cj_skip ?_ | refine nj_then ?_ | refine nj_block ?_ | (refine oj_add rfl rfl rfl rfl rfl rfl (by omega) ?_;refine oj_run TT rfl ?_)))
      have he:(k:Int)+(utfNext (l.drop k)).2=((k+(utfNext (l.drop k)).2.toNat:Nat):Int):=by omega
      rw [he]
      refine nj_again (m,k+(utfNext (l.drop k)).2.toNat) ⟨?_,?_,hkn⟩ ?_ rfl (by (repeat first | exact trivial | refine ⟨rfl,?_⟩)) (by (repeat first | exact trivial | refine ⟨rfl,?_⟩)) rfl (by (repeat' (first | exact trivial | constructor))) (by (repeat' exact trivial))<;>(dsimp only;omega)
  · have hkl:¬ k<l.length:=by simp at h;omega
    obtain ⟨m,rfl⟩:∃ m,n=m+1:=⟨n - 1,by omega⟩
    rw [checkFrom,if_neg hkl] at hkn
    (repeat (first | refine cj_seq ?_ | refine cjr TT rfl ?_ | refine oj_then ?_ | refine cj_exit ?_ | refine cj_ret ?_ | refine nj_then ?_ | refine nj_then_exit ?_ | refine nj_block_out ?_))
    refine nj_ret TT rfl fun β w' _ _=>?_
    rw [<-hkn]
    rfl
end Go.Sy
namespace Go.Sy
open Go.Proofs
theorem keyRow_lt {n:Nat} {k:ByteArray} {r:List AT} (h:∀ c∈r,c.lt n):∀ c∈keyRow k r,c.lt n:=by
  intro c hc
  rcases List.mem_cons.1 hc with rfl | hc
  · trivial
  · exact h c hc
def keyOk (k:ByteArray):Bool:=decide (utfCheck k.data.toList<0)
set_option maxRecDepth 100000 in
set_option maxHeartbeats 1000000 in
theorem fields1_c (σ:Snap) (k:ByteArray) (r:List AT) (hk:k.size<=mostLen) (hr:r.length=8/\∀ c∈r,c.lt 0) :
    PlainS Tryz.prog 230 [.agg (keyRow k r)] σ (fun v=>v=.bool (!keyOk k)):=by
  obtain ⟨hr8,hrl⟩:=hr
  obtain ⟨l,rfl⟩:=mkB_ex k
  have hsz:=mkB_size l
  match r,hr8,hrl with
  | [a0,a1,a2,a3,a4,a5,a6,a7],_,hrl =>
  have hrow:∀ c∈keyRow (mkB l) [a0,a1,a2,a3,a4,a5,a6,a7],c.lt 0:=by
    intro c hc
    rcases List.mem_cons.1 hc with rfl | hc
    · trivial
    · exact hrl c hc
  refine enter_p Tryz.func230 rfl rfl ⟨hrow,trivial⟩ fun w=>?_
  (repeat (first | refine cj_seq ?_ | refine cjr TT rfl ?_ | refine oj_then ?_))
  refine oj_bytes (y:=mkB l) TT rfl rfl rfl rfl rfl rfl rfl rfl rfl rfl rfl fun ao cap σ' hle H=>?_
  rw [hsz,bRows_mk] at H
  refine oj_set 5 (.a (.v (.slice ao l.length cap))) rfl trivial (fun β=>by rw [hsz]) (oj_run TT rfl ?_)
  refine oj_callP rfl rfl rfl rfl rfl Tryz.call139 (by (repeat' (first | exact trivial | constructor))) (utfCheck_c σ' ao cap l H (by rw [<-hsz];exact hk)) fun v hv=>⟨.a (.v (.int .i64 (utfCheck l))),trivial,hv.symm,?_⟩
  refine oj_run TT rfl ?_
  (repeat (first | refine oj_then ?_ | refine cj_ret ?_))
  refine nj_ret TT rfl fun β w' _ _=>?_
  show Value.bool _=_
  congr 1
  simp only [keyOk,mkB_list]
  rw [Bool.eq_iff_iff]
  by_cases h:utfCheck l<0
  · first | (simp [h];done) | (simp [h];omega)
  · first | (simp [h];done) | (simp [h];omega)
def badKey:List ByteArray->Nat->Int
  | [],_ => -1
  | k::ks,i=>if keyOk k then badKey ks (i+1) else i
theorem badKey_spec:∀ (ks:List ByteArray) (i:Nat),(0<=badKey ks i)↔ks.all keyOk=false
  | [],i=>by simp [badKey]
  | k::ks,i=>by
    simp only [badKey,List.all_cons]
    split
    · rename_i h;rw [badKey_spec ks (i+1),h,Bool.true_and]
    · rename_i h;simp [h]
set_option maxRecDepth 100000 in
set_option maxHeartbeats 1000000 in
theorem indexKey_c (σ:Snap) (g:GVal) (la:Option Addr) (lc:Nat) (lrows:List (List AT)) (ma:Option Addr) (mc:Nat) (vrows:List (List AT)) (V:VAt σ g la lc lrows ma mc vrows) :
    PlainS Tryz.prog 246 [.a (.v (.slice ma g.ks.length mc)),.a (.fn (.func 230) [])] σ (fun v=>v=.int .i64 (badKey g.ks 0)):=by
  have hkl:=V.kl
  simp only [mostLen] at hkl
  refine enter_p Tryz.func246 rfl rfl (by (repeat' (first | exact trivial | exact SV.lt_fn0 | constructor))) fun w=>?_
  (repeat (first | refine cj_seq ?_ | refine cjr TT rfl ?_ | refine oj_then ?_ | refine cj_block ?_))
  refine cj_loop (fun _=>σ) (fun (k:Nat)=>[(0,.a (.v (.slice ma g.ks.length mc))),(1,.a (.fn (.func 230) [])),(7,.a (.v (.int .i64 g.ks.length))),(8,.a (.v (.int .i64 k)))]) (fun _=>[]) (fun _=>[]) 0
    (fun k=>k<=g.ks.length/\badKey (g.ks.drop k) k=badKey g.ks 0) (fun k=>g.ks.length - k) 0 ⟨Nat.zero_le _,rfl⟩ rfl (by (repeat first | exact trivial | refine ⟨rfl,?_⟩)) (by (repeat first | exact trivial | refine ⟨rfl,?_⟩)) rfl (by (repeat' (first | exact trivial | exact SV.lt_fn0 | constructor))) (by (repeat' exact trivial)) fun k ⟨hk,hbk⟩=>?_
  (repeat (first | refine cj_seq ?_ | refine cjr TT rfl ?_ | refine oj_then ?_))
  refine cj_if rfl (fun h=>?_) (fun h=>?_)
  · have hkl':k<g.ks.length:=by simpa using h
    obtain ⟨r,hr1,hr2⟩:=V.v.get (List.getElem?_eq_getElem (l:=g.vs) (i:=k) (by have:=V.kv;omega))
    have hrow:=keyRows_get (List.getElem?_eq_getElem hkl') hr1
    have hkk:=V.kk _ (List.getElem_mem hkl')
    have hr8:=hr2.len
    have hrc:=hr2.clo
    rw [List.drop_eq_getElem_cons hkl',badKey] at hbk
    (repeat (first | refine cj_seq ?_ | refine cjr TT rfl ?_ | refine oj_then ?_ | refine cj_skip ?_ | refine cj_block ?_ | refine nj_then ?_))
    match r,hr8,hrc,hrow with
    | [a0,a1,a2,a3,a4,a5,a6,a7],hr8,hrc,hrow =>
    refine oj_idx TT rfl rfl rfl rfl rfl rfl rfl rfl rfl V.M (by omega) hrow (oj_run TT rfl ?_)
    skip
    refine oj_callP rfl rfl rfl rfl rfl Tryz.call230 ⟨keyRow_lt hrc,trivial⟩ (fields1_c σ g.ks[k] [a0,a1,a2,a3,a4,a5,a6,a7] hkk ⟨rfl,hrc⟩) fun v hv=>⟨.a (.b (!keyOk g.ks[k])),trivial,hv.symm,?_⟩
    refine oj_run TT rfl ?_
    (repeat refine oj_then ?_)
    refine cj_if rfl (fun h=>?_) (fun h=>?_)
    · (repeat (first | refine cj_seq ?_ | refine cjr TT rfl ?_ | refine oj_then ?_ | refine cj_ret ?_ | refine nj_then_ret ?_ | refine nj_block_ret ?_))
      refine nj_ret TT rfl fun β w' _ _=>?_
      rw [if_neg (by simpa using h)] at hbk
      rw [<-hbk]
      rfl
    · rw [if_pos (by simpa using h)] at hbk
      (repeat (first | refine cjr TT rfl ?_ | refine oj_nil ?_ | refine cj_skip ?_ | refine nj_then ?_ | refine nj_block ?_ | (refine oj_add rfl rfl rfl rfl rfl rfl (by omega) ?_;refine oj_run TT rfl ?_)))
      refine nj_again (k+1) ⟨hkl',hbk⟩ (by omega) rfl (by (repeat first | exact trivial | refine ⟨rfl,?_⟩)) (by (repeat first | exact trivial | refine ⟨rfl,?_⟩)) rfl (by (repeat' (first | exact trivial | exact SV.lt_fn0 | constructor))) (by (repeat' exact trivial))
  · have hk0:k=g.ks.length:=by simp at h;omega
    subst hk0
    rw [List.drop_length] at hbk
    (repeat (first | refine cj_seq ?_ | refine cjr TT rfl ?_ | refine oj_then ?_ | refine cj_exit ?_ | refine cj_ret ?_ | refine nj_then ?_ | refine nj_then_exit ?_ | refine nj_block_out ?_))
    refine nj_ret TT rfl fun β w' _ _=>?_
    rw [<-hbk]
    rfl
set_option maxRecDepth 100000 in
set_option maxHeartbeats 1000000 in
theorem containsKey_c (σ:Snap) (g:GVal) (la:Option Addr) (lc:Nat) (lrows:List (List AT)) (ma:Option Addr) (mc:Nat) (vrows:List (List AT)) (V:VAt σ g la lc lrows ma mc vrows) :
    PlainS Tryz.prog 229 [.a (.v (.slice ma g.ks.length mc)),.a (.fn (.func 230) [])] σ (fun v=>v=.bool (!g.ks.all keyOk)):=by
  refine enter_p Tryz.func229 rfl rfl (by (repeat' (first | exact trivial | exact SV.lt_fn0 | constructor))) fun w=>?_
  (repeat (first | refine cj_seq ?_ | refine cjr TT rfl ?_ | refine oj_then ?_))
  refine oj_callP rfl rfl rfl rfl rfl Tryz.call246 (by (repeat' (first | exact trivial | exact SV.lt_fn0 | constructor))) (indexKey_c σ g la lc lrows ma mc vrows V) fun v hv=>⟨.a (.v (.int .i64 (badKey g.ks 0))),trivial,hv.symm,?_⟩
  refine oj_run TT rfl ?_
  (repeat (first | refine oj_then ?_ | refine cj_ret ?_))
  refine nj_ret TT rfl fun β w' _ _=>?_
  show Value.bool _=_
  congr 1
  have:=badKey_spec g.ks 0
  rw [Bool.eq_iff_iff]
  simp only [decide_eq_true_eq,this,Bool.not_eq_true']
def emptyS:ByteArray:=⟨#[]⟩
def fieldsG (g:GVal):Bool :=
  let b:=!g.b
  let n:=decide (g.n=dec0)
  let s:=decide (g.s=emptyS)
  let l:=decide (g.l.length=0)
  let m:=decide (g.ks.length=0)
  if g.kind=0 then b&&n&&s&&l&&m
  else if g.kind=1 then n&&s&&l&&m
  else if g.kind=2 then decSane g.n&&b&&s&&l&&m
  else if g.kind=3 then decide (utfCheck g.s.data.toList<0)&&b&&n&&l&&m
  else if g.kind=4 then b&&n&&s&&m
  else if g.kind=5 then g.ks.all keyOk&&b&&n&&s&&l
  else false
theorem dec_add (a b:Nat):decide (a+b=0)=(decide (a=0)&&decide (b=0)):=by rw [Bool.eq_iff_iff];simp
theorem fieldsG_0 {g:GVal} (h:g.kind=0):fieldsG g=(!g.b&&decide (g.n=dec0)&&decide (g.s=emptyS)&&decide (g.l.length=0)&&decide (g.ks.length=0)):=by simp only [fieldsG,if_pos h]
theorem fieldsG_1 {g:GVal} (h:g.kind=1):fieldsG g=(decide (g.n=dec0)&&decide (g.s=emptyS)&&decide (g.l.length=0)&&decide (g.ks.length=0)):=by
  unfold fieldsG;rw [if_neg (by omega),if_pos h]
theorem fieldsG_2 {g:GVal} (h:g.kind=2):fieldsG g=(decSane g.n&&!g.b&&decide (g.s=emptyS)&&decide (g.l.length=0)&&decide (g.ks.length=0)):=by
  unfold fieldsG;rw [if_neg (by omega),if_neg (by omega),if_pos h]
theorem fieldsG_3 {g:GVal} (h:g.kind=3):fieldsG g=(decide (utfCheck g.s.data.toList<0)&&!g.b&&decide (g.n=dec0)&&decide (g.l.length=0)&&decide (g.ks.length=0)):=by
  unfold fieldsG;rw [if_neg (by omega),if_neg (by omega),if_neg (by omega),if_pos h]
theorem fieldsG_4 {g:GVal} (h:g.kind=4):fieldsG g=(!g.b&&decide (g.n=dec0)&&decide (g.s=emptyS)&&decide (g.ks.length=0)):=by
  unfold fieldsG;rw [if_neg (by omega),if_neg (by omega),if_neg (by omega),if_neg (by omega),if_pos h]
theorem fieldsG_5 {g:GVal} (h:g.kind=5):fieldsG g=(g.ks.all keyOk&&!g.b&&decide (g.n=dec0)&&decide (g.s=emptyS)&&decide (g.l.length=0)):=by
  unfold fieldsG;rw [if_neg (by omega),if_neg (by omega),if_neg (by omega),if_neg (by omega),if_neg (by omega),if_pos h]
theorem fieldsG_x {g:GVal} (h0:g.kind≠0) (h1:g.kind≠1) (h2:g.kind≠2) (h3:g.kind≠3) (h4:g.kind≠4) (h5:g.kind≠5):fieldsG g=false:=by
  unfold fieldsG;rw [if_neg h0,if_neg h1,if_neg h2,if_neg h3,if_neg h4,if_neg h5]
structure RestS where
  σ:Snap
  ok:Bool
  b:Bool
  n:GDec
  s:ByteArray
  la:Option Addr
  ll:Nat
  lc:Nat
  ma:Option Addr
  ml:Nat
  mc:Nat
def restCells (k:Int) (x:RestS):List AT:=[.v (.int .i64 k),.b x.b,.b x.n.neg,.v (.string x.n.dg),.v (.int .i64 x.n.ex),.v (.string x.s),.v (.slice x.la x.ll x.lc),.v (.slice x.ma x.ml x.mc)]
theorem restCells_lt (n:Nat) (k:Int) (x:RestS):∀ c∈restCells k x,c.lt n:=by simp [restCells,AT.lt]
set_option maxRecDepth 100000 in
set_option maxHeartbeats 1000000 in
theorem fields_c (σ:Snap) (g:GVal) (r:List AT) (hr:RepV σ g r) :
    PlainS Tryz.prog 197 [.agg r] σ (fun v=>v=.bool (fieldsG g)):=by
  obtain ⟨la,lc,lrows,ma,mc,vrows,rfl,V⟩:=hr.open
  have hll:=V.ll
  have hkl:=V.kl
  simp only [mostLen] at hkl hll
  refine enter_p Tryz.func197 rfl rfl (by (repeat' (first | exact trivial | exact vCells_lt _ _ _ _ _ _ | constructor))) fun w=>?_
  (repeat (first | refine cj_seq ?_ | refine cjr TT rfl ?_ | refine oj_then ?_ | refine cj_block ?_))
  refine cj_cutB (fun (x:RestS)=>x.σ) (fun x=>[(4,.a (.b x.ok)),(3,.a (.p 1 0))]) (fun x=>[(1,.loc 28,restCells g.kind x)]) (fun _=>[]) 2
    (fun x=>(x.ok&&!x.b&&decide (x.n=dec0)&&decide (x.s=emptyS)&&decide (x.ll+x.ml=0))=fieldsG g/\x.ll+x.ml<=1000000000000000) ?_ (fun x ⟨hx,hxm⟩=>?_)
  · refine cj_if rfl (fun h=>?_) (fun h=>?_)
    · have h0:g.kind=0:=by simpa using h
      (repeat (first | refine cj_skip ?_ | refine nj_block ?_))
      refine nj_set 4 (.a (.b true)) rfl trivial (fun _=>rfl) ?_
      refine nj_again ⟨σ,true,g.b,g.n,g.s,la,g.l.length,lc,ma,g.ks.length,mc⟩ ⟨?_,by dsimp only;omega⟩ Nat.zero_lt_one rfl (by (repeat first | exact trivial | refine ⟨rfl,?_⟩)) (by (repeat first | exact trivial | refine ⟨rfl,?_⟩)) rfl (by (repeat' (first | exact trivial | exact Nat.le_of_ble_eq_true rfl | constructor))) (by (repeat' (first | exact trivial | exact Nat.le_of_ble_eq_true rfl | exact vCells_lt _ _ _ _ _ _ | constructor)))
      rw [fieldsG_0 h0,dec_add]
      simp only [Bool.true_and,Bool.and_assoc]
    have h0:g.kind≠0:=by simpa using h
    (repeat (first | refine cj_seq ?_ | refine cjr TT rfl ?_ | refine oj_then ?_))
    refine cj_if rfl (fun h=>?_) (fun h=>?_)
    · have h1:g.kind=1:=by simpa using h
      (repeat (first | refine cjr TT rfl ?_ | refine oj_nil ?_ | refine nj_block ?_))
      refine nj_set 4 (.a (.b true)) rfl trivial (fun _=>rfl) ?_
      refine nj_rowset 1 (restCells g.kind ⟨σ,true,false,g.n,g.s,la,g.l.length,lc,ma,g.ks.length,mc⟩) rfl (fun _=>rfl) (restCells_lt _ _ _) ?_
      refine nj_again ⟨σ,true,false,g.n,g.s,la,g.l.length,lc,ma,g.ks.length,mc⟩ ⟨?_,by dsimp only;omega⟩ Nat.zero_lt_one rfl (by (repeat first | exact trivial | refine ⟨rfl,?_⟩)) (by (repeat first | exact trivial | refine ⟨rfl,?_⟩)) rfl (by (repeat' (first | exact trivial | exact Nat.le_of_ble_eq_true rfl | constructor))) (by (repeat' (first | exact trivial | exact Nat.le_of_ble_eq_true rfl | refine AllLt.of ?_ | constructor)))
      rw [fieldsG_1 h1,dec_add]
      simp only [Bool.true_and,Bool.not_false,Bool.and_assoc]
    have h1:g.kind≠1:=by simpa using h
    (repeat (first | refine cj_seq ?_ | refine cjr TT rfl ?_ | refine oj_then ?_))
    refine cj_if rfl (fun h=>?_) (fun h=>?_)
    · have h2:g.kind=2:=by simpa using h
      (repeat (first | refine cj_seq ?_ | refine cjr TT rfl ?_ | refine oj_then ?_))
      refine oj_callP rfl rfl rfl rfl rfl Tryz.call228 (by (repeat' (first | exact trivial | exact decCells_lt _ _ | constructor))) (decSane_c σ g.n V.dg) fun v hv=>⟨.a (.b (decSane g.n)),trivial,hv.symm,?_⟩
      refine oj_run TT rfl ?_
      (repeat (first | refine oj_nil ?_ | refine nj_block ?_))
      refine nj_rowset 1 (restCells g.kind ⟨σ,decSane g.n,g.b,dec0,g.s,la,g.l.length,lc,ma,g.ks.length,mc⟩) rfl (fun _=>rfl) (restCells_lt _ _ _) ?_
      refine nj_again ⟨σ,decSane g.n,g.b,dec0,g.s,la,g.l.length,lc,ma,g.ks.length,mc⟩ ⟨?_,by dsimp only;omega⟩ Nat.zero_lt_one rfl (by (repeat first | exact trivial | refine ⟨rfl,?_⟩)) (by (repeat first | exact trivial | refine ⟨rfl,?_⟩)) rfl (by (repeat' (first | exact trivial | exact Nat.le_of_ble_eq_true rfl | constructor))) (by (repeat' (first | exact trivial | exact Nat.le_of_ble_eq_true rfl | refine AllLt.of ?_ | constructor)))
      rw [fieldsG_2 h2,dec_add]
      simp only [decide_true,Bool.and_true,Bool.and_assoc]
    have h2:g.kind≠2:=by simpa using h
    (repeat (first | refine cj_seq ?_ | refine cjr TT rfl ?_ | refine oj_then ?_))
    refine cj_if rfl (fun h=>?_) (fun h=>?_)
    · have h3:g.kind=3:=by simpa using h
      obtain ⟨sl,hsl⟩:=mkB_ex g.s
      have hsz:=mkB_size sl
      have hs:=V.s
      (repeat (first | refine cj_seq ?_ | refine cjr TT rfl ?_ | refine oj_then ?_))
      refine oj_bytes (y:=g.s) TT rfl rfl rfl rfl rfl rfl rfl rfl rfl rfl rfl fun ao cap σ' hle H=>?_
      rw [hsl,hsz,bRows_mk] at H
      refine oj_set 25 (.a (.v (.slice ao sl.length cap))) rfl trivial (fun β=>by rw [hsl,hsz]) (oj_run TT rfl ?_)
      refine oj_callP rfl rfl rfl rfl rfl Tryz.call139 (by (repeat' (first | exact trivial | constructor))) (utfCheck_c σ' ao cap sl H (by rw [<-hsz,<-hsl];exact hs)) fun v hv=>⟨.a (.v (.int .i64 (utfCheck sl))),trivial,hv.symm,?_⟩
      refine oj_run TT rfl ?_
      (repeat (first | refine oj_nil ?_ | refine nj_block ?_))
      refine nj_rowset 1 (restCells g.kind ⟨σ',decide (utfCheck sl<0),g.b,g.n,emptyS,la,g.l.length,lc,ma,g.ks.length,mc⟩) rfl (fun _=>rfl) (restCells_lt _ _ _) ?_
      refine nj_again ⟨σ',decide (utfCheck sl<0),g.b,g.n,emptyS,la,g.l.length,lc,ma,g.ks.length,mc⟩ ⟨?_,by dsimp only;omega⟩ Nat.zero_lt_one rfl (by (repeat first | exact trivial | refine ⟨rfl,?_⟩)) (by (repeat first | exact trivial | refine ⟨rfl,?_⟩)) rfl (by (repeat' (first | exact trivial | exact Nat.le_of_ble_eq_true rfl | constructor))) (by (repeat' (first | exact trivial | exact Nat.le_of_ble_eq_true rfl | refine AllLt.of ?_ | constructor)))
      rw [fieldsG_3 h3,dec_add,hsl]
      simp only [mkB_list,decide_true,Bool.and_true,Bool.and_assoc]
      congr
    have h3:g.kind≠3:=by simpa using h
    (repeat (first | refine cj_seq ?_ | refine cjr TT rfl ?_ | refine oj_then ?_))
    refine cj_if rfl (fun h=>?_) (fun h=>?_)
    · have h4:g.kind=4:=by simpa using h
      (repeat (first | refine cjr TT rfl ?_ | refine oj_nil ?_ | refine nj_block ?_))
      refine nj_set 4 (.a (.b true)) rfl trivial (fun _=>rfl) ?_
      refine nj_rowset 1 (restCells g.kind ⟨σ,true,g.b,g.n,g.s,none,0,0,ma,g.ks.length,mc⟩) rfl (fun _=>rfl) (restCells_lt _ _ _) ?_
      refine nj_again ⟨σ,true,g.b,g.n,g.s,none,0,0,ma,g.ks.length,mc⟩ ⟨?_,by dsimp only;omega⟩ Nat.zero_lt_one rfl (by (repeat first | exact trivial | refine ⟨rfl,?_⟩)) (by (repeat first | exact trivial | refine ⟨rfl,?_⟩)) rfl (by (repeat' (first | exact trivial | exact Nat.le_of_ble_eq_true rfl | constructor))) (by (repeat' (first | exact trivial | exact Nat.le_of_ble_eq_true rfl | refine AllLt.of ?_ | constructor)))
      rw [fieldsG_4 h4,dec_add]
      simp only [decide_true,Bool.true_and,Bool.and_assoc]
    have h4:g.kind≠4:=by simpa using h
    (repeat (first | refine cj_seq ?_ | refine cjr TT rfl ?_ | refine oj_then ?_))
    refine cj_if rfl (fun h=>?_) (fun h=>?_)
    · have h5:g.kind=5:=by simpa using h
      (repeat (first | refine cj_seq ?_ | refine cjr TT rfl ?_ | refine oj_then ?_))
      refine oj_callP rfl rfl rfl rfl rfl Tryz.call229 (by (repeat' (first | exact trivial | exact SV.lt_fn0 | constructor))) (containsKey_c σ g la lc lrows ma mc vrows V) fun v hv=>⟨.a (.b (!g.ks.all keyOk)),trivial,hv.symm,?_⟩
      refine oj_run TT rfl ?_
      (repeat (first | refine oj_nil ?_ | refine nj_block ?_))
      refine nj_rowset 1 (restCells g.kind ⟨σ,!!g.ks.all keyOk,g.b,g.n,g.s,la,g.l.length,lc,none,0,0⟩) rfl (fun _=>rfl) (restCells_lt _ _ _) ?_
      refine nj_again ⟨σ,!!g.ks.all keyOk,g.b,g.n,g.s,la,g.l.length,lc,none,0,0⟩ ⟨?_,by dsimp only;omega⟩ Nat.zero_lt_one rfl (by (repeat first | exact trivial | refine ⟨rfl,?_⟩)) (by (repeat first | exact trivial | refine ⟨rfl,?_⟩)) rfl (by (repeat' (first | exact trivial | exact Nat.le_of_ble_eq_true rfl | constructor))) (by (repeat' (first | exact trivial | exact Nat.le_of_ble_eq_true rfl | refine AllLt.of ?_ | constructor)))
      rw [fieldsG_5 h5,dec_add]
      simp only [Bool.not_not,decide_true,Bool.and_true,Bool.and_assoc]
    have h5:g.kind≠5:=by simpa using h
    (repeat (first | refine cj_seq ?_ | refine cjr TT rfl ?_ | refine oj_then ?_ | refine cj_ret ?_ | refine nj_then_ret ?_ | refine nj_block_ret ?_))
    refine nj_ret TT rfl fun β w' _ _=>?_
    rw [fieldsG_x h0 h1 h2 h3 h4 h5]
    rfl
  · (repeat (first | refine cj_seq ?_ | refine cjr TT rfl ?_))
    refine oj_split 39 rfl (fun h=>?_) (fun h=>?_)
    rotate_left
    · refine oj_run TT rfl ?_
      (repeat (first | refine oj_then ?_ | refine cj_ret ?_))
      refine nj_ret TT rfl fun β w' _ _=>?_
      rw [<-hx,h]
      rfl
    rw [h,Bool.true_and] at hx
    refine oj_run TT rfl ?_
    refine oj_split 44 rfl (fun h=>?_) (fun h=>?_)
    rotate_left
    · refine oj_run TT rfl ?_
      (repeat (first | refine oj_then ?_ | refine cj_ret ?_))
      refine nj_ret TT rfl fun β w' _ _=>?_
      rw [<-hx,h]
      rfl
    rw [h,Bool.true_and] at hx
    refine oj_run TT rfl ?_
    refine oj_eqDec x.n dec0 rfl rfl rfl rfl rfl rfl rfl (fun _=>rfl) (fun _=>rfl) (oj_run TT rfl ?_)
    refine oj_split 50 rfl (fun h=>?_) (fun h=>?_)
    rotate_left
    · refine oj_run TT rfl ?_
      (repeat (first | refine oj_then ?_ | refine cj_ret ?_))
      refine nj_ret TT rfl fun β w' _ _=>?_
      rw [<-hx,h]
      rfl
    rw [h,Bool.true_and] at hx
    refine oj_run TT rfl ?_
    refine oj_split 55 rfl (fun h=>?_) (fun h=>?_)
    rotate_left
    · refine oj_run TT rfl ?_
      (repeat (first | refine oj_then ?_ | refine cj_ret ?_))
      refine nj_ret TT rfl fun β w' _ _=>?_
      have h:decide (x.s=emptyS)=false:=h
      rw [<-hx,h]
      rfl
    have h:decide (x.s=emptyS)=true:=h
    rw [h,Bool.true_and] at hx
    refine oj_run TT rfl ?_
    (repeat (first | refine oj_then ?_ | refine cj_ret ?_ | (refine oj_add rfl rfl rfl rfl rfl rfl (by omega) ?_;refine oj_run TT rfl ?_)))
    refine nj_ret TT rfl fun β w' _ _=>?_
    show Value.bool _=_
    rw [<-hx]
    congr 1
    rw [Bool.eq_iff_iff]
    simp only [decide_eq_true_eq]
    omega
end Go.Sy
