/- Parts of the proof of CStreamsValues: Ka, SyQ, SyT, SyW, SyR, SyS, SyU, SyX, SyY, SyZ, K1, K2, KSh, K3. No conditions. -/
import Derived.Test.YtlonlnagmfdlbaaGreatDoorM4
import Derived.Laws.MakeOwn
import Derived.Laws.IdiomStrings
import Derived.Lib.BufferRead
import Derived.Shelf.Strings.Replace
import Derived.Test.YtlonlnagmfdlbaaGreatDoorProg
/- Plain law: parts as bytes, and bytes as parts. No program in sight. -/
namespace Go.Sy
structure GPart where
  kd:Int
  b:Bool
  n:GDec
  s:ByteArray
  i:Int
deriving DecidableEq
def emptyB:ByteArray:=⟨#[]⟩
def part0:GPart:=⟨0,false,dec0,emptyB,0⟩
def rightG (p:GPart):Bool :=
  if p.kd=0 then decide (p=part0)
  else if p.kd=1 then decide ((⟨0,false,p.n,p.s,p.i⟩:GPart)=part0)
  else if p.kd=2 then decide ((⟨0,p.b,dec0,p.s,p.i⟩:GPart)=part0)&&decSane p.n
  else if p.kd=3 then decide ((⟨0,p.b,p.n,emptyB,p.i⟩:GPart)=part0)
  else if p.kd=9 then decide ((⟨0,p.b,p.n,p.s,0⟩:GPart)=part0)&&decide (0<=p.i)&&decide (p.i<=4294967295)
  else false
inductive Rt:GPart->Prop
  | null:Rt part0
  | bool (b:Bool):Rt ⟨1,b,dec0,emptyB,0⟩
  | num (n:GDec) (h:decSane n=true):Rt ⟨2,false,n,emptyB,0⟩
  | str (s:ByteArray):Rt ⟨3,false,dec0,s,0⟩
  | whole (i:Int) (h1:0<=i) (h2:i<=4294967295):Rt ⟨9,false,dec0,emptyB,i⟩
theorem right_iff (p:GPart):rightG p=true↔Rt p:=by
  obtain ⟨kd,b,n,s,i⟩:=p
  constructor
  · intro h
    unfold rightG at h
    dsimp only at h
    split at h
    · rename_i h0
      rw [decide_eq_true_eq] at h
      rw [h]
      exact Rt.null
    split at h
    · rename_i h0 h1
      simp only [decide_eq_true_eq,part0,GPart.mk.injEq,true_and] at h
      obtain ⟨rfl,rfl,rfl⟩:=h
      subst h1
      exact Rt.bool b
    split at h
    · rename_i h0 h1 h2
      simp only [Bool.and_eq_true,decide_eq_true_eq,part0,GPart.mk.injEq,true_and] at h
      obtain ⟨⟨rfl,rfl,rfl⟩,hs⟩:=h
      subst h2
      exact Rt.num n hs
    split at h
    · rename_i h0 h1 h2 h3
      simp only [decide_eq_true_eq,part0,GPart.mk.injEq,true_and] at h
      obtain ⟨rfl,rfl,rfl⟩:=h
      subst h3
      exact Rt.str s
    split at h
    · rename_i h0 h1 h2 h3 h9
      simp only [Bool.and_eq_true,decide_eq_true_eq,part0,GPart.mk.injEq,true_and,and_true] at h
      obtain ⟨⟨⟨rfl,rfl,rfl⟩,ha⟩,hb⟩:=h
      subst h9
      exact Rt.whole i ha hb
    · cases h
  · intro h
    cases h with
    | null=>rfl
    | bool b=>simp [rightG,part0]
    | num n h=>simp [rightG,part0,h]
    | str s=>simp [rightG,part0]
    | whole i h1 h2=>simp [rightG,part0,h1,h2]
def byteOf (x:Int):UInt8:=UInt8.ofNat (x % 256).toNat
theorem byteOf_nat (x:Int):((byteOf x).toNat:Int)=x % 256:=by
  unfold byteOf
  rw [UInt8.toNat_ofNat']
  omega
theorem all8 {p:UInt8->Prop} (h:∀ n:Fin 256,p (UInt8.ofNat n.val)) (c:UInt8):p c:=by
  have:=h ⟨c.toNat,c.toNat_lt⟩
  simpa using this
theorem turn_turn:∀ c:UInt8,255 - (255 - c)=c:=all8 (by decide +kernel)
theorem fig_back:∀ c:UInt8,48+(c - 48+1) - 1=c:=all8 (by decide +kernel)
theorem fig_iff':∀ c:UInt8,digitB c=true->c - 48+1≠0/\c - 48+1<=10:=all8 (by decide +kernel)
def sizeG (d:GDec):List UInt8 :=
  byteOf ((d.dg.size+d.ex+1000) / 256)::byteOf (d.dg.size+d.ex+1000)::(d.dg.data.toList.map (fun c=>c - 48+1)++[0])
def turnG (l:List UInt8):List UInt8:=l.map fun c=>255 - c
theorem turnG_turn (l:List UInt8):turnG (turnG l)=l:=by
  unfold turnG
  rw [List.map_map]
  conv=>rhs;rw [<-List.map_id l]
  exact List.map_congr_left fun c _=>turn_turn c
def escG:List UInt8->List UInt8
  | []=>[]
  | c::l=>if c=0 then 0::255::escG l else c::escG l
def putG (p:GPart):List UInt8 :=
  if p.kd=0 then [16]
  else if p.kd=1 then [if p.b then 33 else 32]
  else if p.kd=2 then (if p.n.dg.size=0 then [49] else if p.n.neg then 48::turnG (sizeG p.n) else 50::sizeG p.n)
  else if p.kd=3 then 64::(escG p.s.data.toList++[0,0])
  else [80,byteOf (p.i / 16777216),byteOf (p.i / 65536),byteOf (p.i / 256),byteOf p.i]
def encG (l:List GPart):List UInt8×Int :=
  if 16<l.length then ([],4) else if l.all rightG then (l.flatMap putG,0) else ([],1)
def zsplit:List UInt8->Option (List UInt8×List UInt8)
  | []=>none
  | c::l=>if c=0 then some ([],l) else (zsplit l).map fun p=>(c::p.1,p.2)
theorem zsplit_of:∀ (a r:List UInt8),(∀ c∈a,c≠0)->zsplit (a++0::r)=some (a,r)
  | [],r,_=>by simp [zsplit]
  | c::a,r,h=>by
    rw [List.cons_append,zsplit,if_neg (h c List.mem_cons_self),zsplit_of a r fun x hx=>h x (List.mem_cons_of_mem c hx)]
    rfl
def decOf (neg:Bool) (x y:UInt8) (ds:List UInt8):GDec:=⟨neg,mkB (ds.map fun c=>48+c - 1),x.toNat*256+y.toNat - 1000 - ds.length⟩
def numberG (b:List UInt8) (neg:Bool):Option (GDec×List UInt8) :=
  match (if neg then turnG b else b) with
  | x::y::s =>
    match zsplit s with
    | some (ds,_)=>if ds=[]\/(ds.any fun c=>decide (10<c))=true\/decSane (decOf neg x y ds)=false then none else some (decOf neg x y ds,b.drop (3+ds.length))
    | none=>none
  | _=>none
def textG:List UInt8->Option (List UInt8×List UInt8)
  | []=>none
  | [_]=>none
  | c::d::r =>
    if c≠0 then (textG (d::r)).map fun p=>(c::p.1,p.2)
    else if d=0 then some ([],r) else if d=255 then (textG r).map fun p=>(0::p.1,p.2) else none
def firstG (b:List UInt8):Option (GPart×List UInt8) :=
  match b with
  | []=>none
  | t::r =>
    if t=16 then some (part0,r)
    else if t=32\/t=33 then some (⟨1,decide (t=33),dec0,emptyB,0⟩,r)
    else if t=49 then some (⟨2,false,dec0,emptyB,0⟩,r)
    else if t=48\/t=50 then (numberG r (decide (t=48))).map fun p=>(⟨2,false,p.1,emptyB,0⟩,p.2)
    else if t=64 then (textG r).map fun p=>(⟨3,false,dec0,mkB p.1,0⟩,p.2)
    else if t=80 then
      match r with
      | a::b::c::d::r=>some (⟨9,false,dec0,emptyB,(a.toNat:Int)*16777216+b.toNat*65536+c.toNat*256+d.toNat⟩,r)
      | _=>none
    else none
theorem esc_text:∀ (s u:List UInt8),textG (escG s++0::0::u)=some (s,u)
  | [],u=>by simp [escG,textG]
  | c::s,u=>by
    have ih:=esc_text s u
    unfold escG
    split
    · rename_i h0
      subst h0
      rw [List.cons_append,List.cons_append,textG,ih]
      simp
    · rename_i h0
      have:∃ d r,escG s++0::0::u=d::r:=by
        cases h:escG s++0::0::u with
        | nil=>simp at h
        | cons d r=>exact ⟨d,r,rfl⟩
      obtain ⟨d,r,e⟩:=this
      rw [List.cons_append,e,textG,if_pos h0,<-e,ih]
      rfl
theorem sane_size {d:GDec} (h:decSane d=true) (h0:d.dg.size≠0):(∀ c∈d.dg.data.toList,digitB c=true) /\ -400<=d.dg.size+d.ex/\d.dg.size+d.ex<=400:=by
  obtain ⟨ng,dg,ex⟩:=d
  obtain ⟨l,rfl⟩:=mkB_ex dg
  simp only [mkB_size] at h0 ⊢
  rw [decSane_mk _ _ _ h0] at h
  simp only [Bool.and_eq_true,decide_eq_true_eq,List.all_eq_true] at h
  obtain ⟨⟨⟨⟨⟨⟨⟨-,h1⟩,-⟩,-⟩,h2⟩,h3⟩,-⟩,-⟩:=h
  exact ⟨h1,h2,h3⟩
theorem sane_zero {d:GDec} (h:decSane d=true) (h0:d.dg.size=0):d=dec0:=by
  obtain ⟨ng,dg,ex⟩:=d
  obtain ⟨l,rfl⟩:=mkB_ex dg
  have h0:l.length=0:=by simpa using h0
  have hl:l=[]:=List.eq_nil_of_length_eq_zero h0
  subst hl
  simp only [decSane,mkB_list,List.length_nil,if_true,Bool.and_eq_true,Bool.not_eq_true',decide_eq_true_eq] at h
  obtain ⟨rfl,rfl⟩:=h
  rfl
theorem any_false_of {l:List UInt8} (h:∀ c∈l,c<=10):(l.any fun c=>decide (10<c))=false:=by
  rw [List.any_eq_false]
  intro c hc
  have:=h c hc
  rw [decide_eq_true_eq,UInt8.not_lt]
  exact this
theorem dec_of_size {d:GDec} (h:decSane d=true) (h0:d.dg.size≠0):decOf d.neg (byteOf ((d.dg.size+d.ex+1000) / 256)) (byteOf (d.dg.size+d.ex+1000)) (d.dg.data.toList.map fun c=>c - 48+1)=d:=by
  obtain ⟨-,h1,h2⟩:=sane_size h h0
  obtain ⟨ng,dg,ex⟩:=d
  obtain ⟨l,rfl⟩:=mkB_ex dg
  simp only [mkB_size] at h1 h2 ⊢
  unfold decOf
  rw [mkB_list,List.map_map,List.length_map,byteOf_nat,byteOf_nat]
  congr 1
  · congr 1
    conv=>rhs;rw [<-List.map_id l]
    exact List.map_congr_left fun c _=>fig_back c
  · omega
theorem size_len (d:GDec):(sizeG d).length=3+d.dg.size:=by
  unfold sizeG
  rw [List.length_cons,List.length_cons,List.length_append,List.length_map,List.length_singleton,Array.length_toList]
  show d.dg.data.size+1+1+1=3+d.dg.data.size
  omega
theorem size_number {d:GDec} (h:decSane d=true) (h0:d.dg.size≠0) (u:List UInt8):numberG ((if d.neg then turnG (sizeG d) else sizeG d)++u) d.neg=some (d,u):=by
  obtain ⟨hd,-,-⟩:=sane_size h h0
  have hs:(if d.neg then turnG ((if d.neg then turnG (sizeG d) else sizeG d)++u) else ((if d.neg then turnG (sizeG d) else sizeG d)++u))=sizeG d++(if d.neg then turnG u else u):=by
    cases d.neg
    · rfl
    · show turnG (turnG (sizeG d)++u)=sizeG d++turnG u
      have:turnG (turnG (sizeG d)++u)=turnG (turnG (sizeG d))++turnG u:=List.map_append
      rw [this,turnG_turn]
  unfold numberG
  rw [hs]
  unfold sizeG
  rw [List.cons_append,List.cons_append,List.append_assoc]
  dsimp only
  rw [show ([0]++(if d.neg then turnG u else u))=0::(if d.neg then turnG u else u) from rfl,zsplit_of _ _ (fun c hc=>by
    obtain ⟨x,hx,rfl⟩:=List.mem_map.1 hc
    exact (fig_iff' x (hd x hx)).1)]
  dsimp only
  rw [dec_of_size h h0,if_neg,List.length_map]
  · congr 2
    have hl:(if d.neg then turnG (sizeG d) else sizeG d).length=3+d.dg.data.toList.length:=by
      have:=size_len d
      split
      · unfold turnG;rw [List.length_map,this];rfl
      · rw [this];rfl
    show List.drop (3+d.dg.data.toList.length) _=u
    rw [<-hl]
    exact List.drop_left
  · rintro (h1 | h1 | h1)
    · rw [List.map_eq_nil_iff] at h1
      exact h0 (by show d.dg.data.size=0;rw [<-Array.length_toList,h1];rfl)
    · rw [any_false_of fun c hc=>by
        obtain ⟨x,hx,rfl⟩:=List.mem_map.1 hc
        exact (fig_iff' x (hd x hx)).2] at h1
      cases h1
    · rw [h] at h1;cases h1
theorem first_put {p:GPart} (h:Rt p) (u:List UInt8):firstG (putG p++u)=some (p,u):=by
  cases h with
  | null=>rfl
  | bool b=>cases b<;>rfl
  | num n h =>
    unfold putG
    dsimp only
    rw [if_neg (by decide),if_neg (by decide),if_pos rfl]
    by_cases h0:n.dg.size=0
    · rw [if_pos h0,sane_zero h h0]
      rfl
    rw [if_neg h0]
    have hn:=size_number h h0 u
    cases hneg:n.neg with
    | true =>
      rw [hneg] at hn
      simp only [if_true] at hn ⊢
      rw [List.cons_append]
      unfold firstG
      dsimp only
      rw [if_neg (by decide),if_neg (by decide),if_neg (by decide),if_pos (.inl rfl),decide_eq_true rfl,hn]
      rfl
    | false =>
      rw [hneg] at hn
      simp only [Bool.false_eq_true,if_false] at hn ⊢
      rw [List.cons_append]
      unfold firstG
      dsimp only
      rw [if_neg (by decide),if_neg (by decide),if_neg (by decide),if_pos (.inr rfl),show decide ((50:UInt8)=48)=false from rfl,hn]
      rfl
  | str s =>
    unfold putG
    dsimp only
    rw [if_neg (by decide),if_neg (by decide),if_neg (by decide),if_pos rfl,List.cons_append,List.append_assoc]
    unfold firstG
    dsimp only
    rw [if_neg (by decide),if_neg (by decide),if_neg (by decide),if_neg (by decide),if_pos rfl,show [0,0]++u=0::0::u from rfl,esc_text]
    rfl
  | whole i h1 h2 =>
    show firstG (80::byteOf (i / 16777216)::byteOf (i / 65536)::byteOf (i / 256)::byteOf i::u)=_
    unfold firstG
    dsimp only
    rw [if_neg (by decide),if_neg (by decide),if_neg (by decide),if_neg (by decide),if_neg (by decide),if_pos rfl]
    rw [byteOf_nat,byteOf_nat,byteOf_nat,byteOf_nat]
    congr 3
    omega
theorem put_ne {p:GPart} (h:Rt p):putG p≠[]:=by
  intro e
  have h1:=first_put h []
  rw [e] at h1
  cases h1
theorem all_rt {l:List GPart}:l.all rightG=true↔∀ p∈l,Rt p:=by
  rw [List.all_eq_true]
  exact ⟨fun h p hp=>(right_iff p).1 (h p hp),fun h p hp=>(right_iff p).2 (h p hp)⟩
end Go.Sy
/- Arrays that are made; the less of two numbers. No program in sight. -/
namespace Go.Sy
section
variable {cf:Cf} {σ:Snap} {hp:HP} {A:List AE} {β:Nat->Addr} {w:World}
theorem StW.undrew {o:Obj} (h:StW cf σ hp A β (w.drew.alloc o)):StW cf σ hp A β (w.alloc o) :=
  ⟨h.os,h.tape,h.output,h.size,h.fr,h.sealed,h.le,h.grow,h.loc,h.ro,h.inj,h.arr,h.arrd,h.arrh⟩
end
section
variable {cf:Cf} {Q:Exit->Act->World->Prop} {σ:Snap} {env:Env} {hp:HP} {A:List AE} {nh:Nat} {it:Item} {rest:List Item}
def mmOf:Op->Option (Bool×Operand×Operand)
  | .call c =>
    match c.callee,c.args.toList with
    | .builtin .min,[x,y]=>some (true,x,y)
    | .builtin .max,[x,y]=>some (false,x,y)
    | _,_=>none
  | _=>none
theorem mmOf_run {o:Oper} {b:Bool} {x y:Operand} (h:mmOf o.op=some (b,x,y)) {P:Program} {a:Act} {w:World} {k:IntKind} {m n:Int} (hx:a.eval x=.int k m) (hy:a.eval y=.int k n) :
    (execOp a.eval o).run P w=.ok (.value (.int k (if b then (if n<m then n else m) else (if n > m then n else m)))) w:=by
  unfold mmOf at h
  split at h
  · rename_i c hop
    have e1:∀ l,c.args.toList=l->c.args=l.toArray:=fun l hl=>by
      cases hq:c.args with
      | mk l'=>rw [hq] at hl;simp only at hl;rw [hl]
    split at h
    · rename_i x' y' hcal hargs
      injection h with h
      simp only [Prod.mk.injEq] at h
      obtain ⟨rfl,rfl,rfl⟩:=h
      simp only [execOp,hop,resolve,hcal,e1 _ hargs,invoke,builtin,Sem.run_bind,Sem.run_pure,Result.andThen_ok,List.map_toArray,List.map_cons,List.map_nil,Builtin.min_,hx,hy,List.foldlM_cons,List.foldlM_nil,Builtin.min2]
      rfl
    · rename_i x' y' hcal hargs
      injection h with h
      simp only [Prod.mk.injEq] at h
      obtain ⟨rfl,rfl,rfl⟩:=h
      simp only [execOp,hop,resolve,hcal,e1 _ hargs,invoke,builtin,Sem.run_bind,Sem.run_pure,Result.andThen_ok,List.map_toArray,List.map_cons,List.map_nil,Builtin.max_,hx,hy,List.foldlM_cons,List.foldlM_nil,Builtin.max2]
      rfl
    · cases h
  · cases h
theorem oj_mm {d:Nat} {b:Bool} {x y:Operand} {m n:Int} (hop:mmOf it.o.op=some (b,x,y)) (hd:it.o.dst=some d) (hg:guardVal it.guard env=some true) (hN:Nat.blt d cf.N=true) (htag:(match it.tag with | .pure=>false | _=>true)=true)
    (hx:evalO env x=some (.a (.v (.int .i64 m)))) (hy:evalO env y=some (.a (.v (.int .i64 n))))
    (k:OJ cf rest Q σ ((d,.a (.v (.int .i64 (if b then (if n<m then n else m) else (if n > m then n else m)))))::env) hp A nh):OJ cf (it::rest) Q σ env hp A nh :=
  oj_valW (.a (.v (.int .i64 (if b then (if n<m then n else m) else (if n > m then n else m))))) hd hg hN trivial htag
    (fun _ _ β ha _ _=>mmOf_run hop (evalO_eval (β:=β) ha hx) (evalO_eval (β:=β) ha hy)) k
end
end Go.Sy
/- Arrays that are made, of elements of several cells. No program in sight. -/
namespace Go.Sy
theorem madeCells_rep (z:List Value) (k:Nat):(madeCells z.toArray (k*z.length)).toList=(List.replicate k z).flatten:=by
  have hall:∀ r∈List.replicate k z,r.length=z.length:=fun r hr=>by rw [List.eq_of_mem_replicate hr]
  have hl:(List.replicate k z).flatten.length=k*z.length:=by rw [flat_len hall,List.length_replicate]
  have hl2:(madeCells z.toArray (k*z.length)).toList.length=k*z.length:=by rw [Array.length_toList,size_madeCells]
  apply List.ext_getElem?
  intro i
  by_cases hi:i<k*z.length
  · have hz:0<z.length:=by
      rcases Nat.eq_zero_or_pos z.length with h | h
      · rw [h,Nat.mul_zero] at hi;omega
      · exact h
    have hm:i / z.length<k:=Nat.div_lt_of_lt_mul (by rw [Nat.mul_comm];exact hi)
    have hj:i % z.length<z.length:=Nat.mod_lt _ hz
    have:=flat_get hall (m:=i / z.length) (j:=i % z.length) (r:=z) (c:=z[i % z.length]) (by rw [List.getElem?_replicate,if_pos hm]) (List.getElem?_eq_getElem hj)
    rw [Nat.mul_comm,Nat.div_add_mod] at this
    rw [this]
    unfold madeCells
    rw [Array.getElem?_toList,Array.getElem?_map,Array.getElem?_range,if_pos hi]
    simp [hj]
  · rw [List.getElem?_eq_none (by omega),List.getElem?_eq_none (by omega)]
section
variable {cf:Cf} {Q:Exit->Act->World->Prop} {σ:Snap} {env:Env} {hp:HP} {A:List AE} {nh:Nat} {it:Item} {rest:List Item}
theorem oj_makeSliceN {d:Nat} {t e n:Nat} {x y:Operand} {T:List (Nat×TI)} (hT:TTok cf.P T) {ti te:TI} (xs:List Value) (hop:it.o.op=.makeSlice t x y) (hd:it.o.dst=some d) (hg:guardVal it.guard env=some true) (hN:Nat.blt d cf.N=true)
    (htg:canSink it.tag=true) (hx:evalO env x=some (.a (.v (.int .i64 n)))) (hy:evalO env y=some (.a (.v (.int .i64 n)))) (ht:tget T t=some ti) (hkt:ti.kind=.slice e) (hte:tget T e=some te)
    (hby:n*te.bytes<=281474976710656) (hmax:n<=1000000000) (hxs:(madeCells (te.zero.map AT.val).toArray (n*te.size)).toList=xs)
    (hk:∀ g,OJ cf rest Q σ ((d,.a (.v (.slice (some ⟨g,0,none⟩) n n)))::env) hp (A++[⟨some ⟨g,0,none⟩,n,n,e,te.size,xs⟩]) nh):OJ cf (it::rest) Q σ env hp A nh:=by
  refine oj_step hd hg hN htg fun hb a β ha w hw=>?_
  obtain ⟨i1,d1,z1,hs1⟩:=tiOf_spec (hT _ _ ht)
  obtain ⟨i3,d3,z3,hs3⟩:=tiOf_spec (hT _ _ hte)
  have hut:cf.P.underlying t=some (.slice e):=by
    have h1:=hs1.kind
    rw [hkt] at h1
    have h2:=hs1.und
    cases d1<;>first
      | (simp only [kindD,TK.slice.injEq] at h1;subst h1;exact h2)
      | (simp only [kindD] at h1;cases h1)
  have hz3:z3.cells=(te.zero.map AT.val).toArray:=(zero_den hs3 β0).symm
  have hxl:xs.length=n*te.size:=by rw [<-hxs,Array.length_toList,size_madeCells]
  have hxe:a.eval x=.int .i64 n:=evalO_eval ha hx
  have hye:a.eval y=.int .i64 n:=evalO_eval ha hy
  have hrun:=run_make (P:=cf.P) w t e i3 z3 hut hs3.info hs3.zero .i64 .i64 n n (by omega) (Int.le_refl _) (by rw [hs3.bytes];rw [<-Int.natCast_mul,Nat.mul_comm];omega) (by omega)
  rw [hs3.size,Int.toNat_natCast,hz3] at hrun
  have hm:=((StW.nilArr e te.size).1 hw).moveArr (i:=A.length) (E:=⟨none,0,0,e,te.size,[]⟩) (E':=⟨some ⟨w.heap.size,0,none⟩,n,n,e,te.size,xs⟩) (cur':=madeCells (te.zero.map AT.val).toArray (n*te.size)) (by simp) rfl (Nat.le_refl _) (by simp only [maxLen];omega) (by dsimp only;exact hxl) (by rw [size_madeCells]) (by dsimp only;rw [hxs,<-hxl,List.take_length])
  have hset:(A++[(⟨none,0,0,e,te.size,[]⟩:AE)]).set A.length ⟨some ⟨w.heap.size,0,none⟩,n,n,e,te.size,xs⟩=A++[⟨some ⟨w.heap.size,0,none⟩,n,n,e,te.size,xs⟩]:=by
    rw [List.set_append_right _ _ (Nat.le_refl _),Nat.sub_self]
    rfl
  rw [hset] at hm
  refine ⟨.a (.v (.slice (some ⟨w.heap.size,0,none⟩) n n)),σ,hp,_,nh,_,β,?_,ha,hb.put (x:=.a (.v (.slice (some ⟨w.heap.size,0,none⟩) n n))) trivial d,hm.undrew,hk w.heap.size⟩
  simp only [execOp,hop,hxe,hye,Sem.run_bind,hrun,Result.andThen_ok,Sem.run_pure]
  rfl
end
section
variable {cf:Cf} {σ:Snap} {hp:HP} {A:List AE} {β:Nat->Addr} {w:World}
end
section
variable {cf:Cf} {Q:Exit->Act->World->Prop} {σ:Snap} {env:Env} {hp:HP} {A:List AE} {nh:Nat}
end
end Go.Sy
/- More rules: room made by 'append(nil, make(..)..)'; values read in a wider class. No program in sight. -/
namespace Go.Sy
section
variable {cf:Cf} {Q:Exit->Act->World->Prop} {σ:Snap} {env:Env} {hp:HP} {A:List AE} {nh:Nat} {it:Item} {rest:List Item}
theorem sealed_cell {σ:Snap} {w:World} (h:Sealed σ w) {a:Addr} {v:Value} (hv:σ.cell a=some v):w.cell? a=some v:=by
  unfold Snap.cell at hv
  unfold World.cell?
  split at hv
  · rename_i c e f hc
    rw [h _ _ hc]
    exact hv
  · cases hv
variable {W:(Nat->Addr)->World->Prop}
theorem StW.dropA {β:Nat->Addr} {w:World} (h:StW cf σ hp A β w):StW cf σ hp [] β w :=
  { h with arr:=fun i E hi=>(by simp at hi),arrd:=fun i j E F hi=>(by simp at hi),arrh:=fun i j E e cs hi=>(by simp at hi) }
end
end Go.Sy
/- A store of several cells into an own array. No program in sight. -/
namespace Go.Sy
theorem take_splice {α:Type} (l news:List α) (off N:Nat) (h:off+news.length<=N) (hl:N<=l.length) :
    (l.take off++news++l.drop (off+news.length)).take N=(l.take N).take off++news++(l.take N).drop (off+news.length):=by
  have h1:(l.take off++news).length=off+news.length:=by rw [List.length_append,List.length_take];omega
  rw [List.take_append,h1,List.take_of_length_le (by omega),List.take_take,Nat.min_eq_left (by omega),List.drop_take]
section
variable {cf:Cf} {Q:Exit->Act->World->Prop} {σ:Snap} {env:Env} {hp:HP} {A:List AE} {nh:Nat} {it:Item} {rest:List Item}
theorem oj_stAs (i:Nat) {E:AE} {A':List AE} {t:Nat} {x y:Operand} {T:List (Nat×TI)} (hT:TTok cf.P T) {ti:TI} {g off:Nat} {cs:List AT} (hop:it.o.op=.store t x y) (hd:it.o.dst=none) (hg:guardVal it.guard env=some true)
    (htag:canSink it.tag=true) (hx:evalO env x=some (.a (.v (.pointer (some ⟨g,off,none⟩))))) (hy:evalO env y=some (.agg cs)) (hi:A[i]?=some E) (hE:E.ao=some ⟨g,0,none⟩) (ht:tget T t=some ti) (hsz:ti.size=cs.length)
    (hoff:off+cs.length<=E.n*E.sz) (hc:∀ c∈cs,c.lt 0) (hone:cs.all AT.one=true)
    (hA:A.set i ⟨E.ao,E.n,E.cap,E.e,E.sz,E.xs.take off++cs.map AT.val++E.xs.drop (off+cs.length)⟩=A') (k:OJ cf rest Q σ env hp A' nh):OJ cf (it::rest) Q σ env hp A nh:=by
  subst hA
  refine ⟨fun hb a β ha hex=>?_⟩
  have key:∀ w,StW cf σ hp A β w->∀ Q',it.o.wq cf.P a w (fun a' w'=>∃ E' S':World->Prop,S' w'/\(∀ x,S' x->E' x)/\RunT cf.P Q rest E' S' a') Q':=by
    intro w hw Q'
    obtain ⟨inf,d',z,hs⟩:=tiOf_spec (hT _ _ ht)
    have hx':a.eval x=.pointer (some ⟨g,off,none⟩):=evalO_eval ha hx
    have hmap:cs.map (AT.den β)=cs.map AT.val:=List.map_congr_left fun c h=>AT.den_val (hc c h) β
    have hy':a.eval y=.agg (cs.map AT.val).toArray:=by
      rw [<-hmap]
      exact evalO_eval ha hy
    have hE0:=hw.arr i E hi
    rcases hE0.2 with h1 | ⟨g',cur,h3,h4,h5,h6,h7,h8,h9,h10⟩
    · rw [h1.1] at hE;cases hE
    · rw [hE] at h3
      injection h3 with h3
      simp only [Addr.mk.injEq,and_true] at h3
      subst h3
      have hnc:E.n*E.sz<=E.cap*E.sz:=Nat.mul_le_mul_right _ h5
      have hll:cur.toList.length=E.cap*E.sz:=by rw [Array.length_toList,h7]
      have hst:=run_storeCells_at cf.P g off E.e (cs.map AT.val) 0 cur w h4 (by simp only [List.length_map];omega) (fun v hv=>by
        obtain ⟨c,hc',rfl⟩:=List.mem_map.1 hv
        exact AT.one_den β0 (List.all_eq_true.1 hone c hc'))
      simp only [Nat.add_zero,List.length_map] at hst
      have hrun:(execOp a.eval it.o).run cf.P w=.ok .skip (w.setRow g (cur.toList.take off++cs.map AT.val++cur.toList.drop (off+cs.length)).toArray):=by
        have hsz':inf.size=cs.length:=by rw [hs.size,hsz]
        simp only [execOp,hop,Instr.storeAt,hx',hy',Instr.sureAddr,storeVar,Sem.run_bind,Sem.run_pure,Result.andThen_ok,Value.cells,run_size hs.info,hsz',List.size_toArray,List.length_map,ne_eq,not_true,if_false,Sem.run_ite,hst]
      unfold Oper.wq
      rw [hrun]
      have htk:=take_splice cur.toList (cs.map AT.val) off (E.n*E.sz) (by simp only [List.length_map];omega) (by omega)
      simp only [List.length_map] at htk
      have hxl:E.xs.length=E.n*E.sz:=hE0.1
      have hw':=hw.setArr (E':=⟨E.ao,E.n,E.cap,E.e,E.sz,E.xs.take off++cs.map AT.val++E.xs.drop (off+cs.length)⟩) (cur':=(cur.toList.take off++cs.map AT.val++cur.toList.drop (off+cs.length)).toArray) hi hE h4 rfl rfl rfl rfl h5
        (by simp only [List.length_append,List.length_take,List.length_drop,List.length_map];omega) (by simp only [List.size_toArray,List.length_append,List.length_take,List.length_drop,List.length_map];omega) (by rw [htk,h8])
      refine ⟨_,_,hw',fun _ h=>h,?_⟩
      rw [hd]
      exact k.run hb a β ha ⟨_,hw'⟩
  simp only [RunT]
  rw [if_pos (guardVal_ok ha hg)]
  cases htag':it.tag with
  | pure=>rw [htag'] at htag;cases htag
  | quiet=>rw [htag'] at htag;cases htag
  | keep=>rw [htag'] at htag;cases htag
  | sink=>exact fun w hw=>key w hw _
  | free=>exact fun w hw=>key w hw _
end
end Go.Sy
/- Calls that look at the call's own arrays, and leave them as they are. No program in sight. -/
namespace Go.Sy
theorem ArrSealed.mono {σ σ':Snap} {E:AE} (h:ArrSealed σ E) (hle:σ.le σ'):ArrSealed σ' E:=by
  rcases h with h | ⟨g,h1,h2⟩
  · exact .inl h
  · exact .inr ⟨g,h1,fun j x hx=>hle.cell (h2 j x hx)⟩
section
variable {cf:Cf} {hp:HP} {β:Nat->Addr} {w w':World}
theorem StW.sealAll:∀ {A:List AE} {σ:Snap},StW cf σ hp A β w->∃ σ',σ.le σ'/\(∀ (i:Nat) E,A[i]?=some E->ArrSealed σ' E)/\StW cf σ' hp [] β w
  | [],σ,h=>⟨σ,Snap.le_refl σ,fun i E hE=>by simp at hE,h⟩
  | E::A,σ,h=>by
    obtain ⟨σ1,h1,h2,h3⟩:=h.sealArr (i:=0) (E:=E) rfl
    obtain ⟨σ2,h4,h5,h6⟩:=StW.sealAll (A:=A) h3
    refine ⟨σ2,Snap.le_trans h1 h4,fun i F hF=>?_,h6⟩
    cases i with
    | zero =>
      simp only [List.getElem?_cons_zero,Option.some.injEq] at hF
      subst hF
      exact h2.mono h4
    | succ i=>exact h5 i F (by simpa using hF)
theorem ArrOk.weak {σ σ':Snap} {E:AE} (h:ArrOk cf σ' w E) (hn:∀ {b},σ' b=none->σ b=none):ArrOk cf σ w E:=by
  refine ⟨h.1,h.2.imp id ?_⟩
  rintro ⟨g,cur,h3,h4,h5,h6,h7,h8,h9,h10⟩
  exact ⟨g,cur,h3,h4,h5,h6,h7,h8,hn h9,h10⟩
theorem StW.peeked {σ σ1 σ2:Snap} {A A':List AE} (h:StW cf σ hp A β w) (h1:StW cf σ1 hp [] β w) (hle:σ.le σ1) (h':StW ⟨cf.P,w,σ1,blks [],0,[],none⟩ σ2 [] A' β0 w'):StW cf σ hp (A++A') β w':=by
  have t:StW cf σ2 hp (A'++[]) β w':=StW.through (A0:=[]) (Ar:=[]) h1 h'
  rw [List.append_nil] at t
  have hold:∀ b,b<w.heap.size->w'.heap[b]?=w.heap[b]?:=fun b hb=>h'.fr b hb (by rintro ⟨E,hE,_⟩;cases hE)
  have hle2:σ.le σ2:=Snap.le_trans hle h'.le
  have hn:∀ {b},σ2 b=none->σ b=none:=fun hb=>Snap.none_of_le hle2 hb
  have hget:∀ {j:Nat} {E:AE},(A++A')[j]?=some E->(j<A.length/\A[j]?=some E)\/(A.length<=j/\A'[j - A.length]?=some E):=by
    intro j E hj
    by_cases hlt:j<A.length
    · rw [List.getElem?_append_left hlt] at hj;exact .inl ⟨hlt,hj⟩
    · rw [List.getElem?_append_right (by omega)] at hj;exact .inr ⟨by omega,hj⟩
  have old:∀ {j:Nat} {E:AE} {b:Nat},A[j]?=some E->E.blk=some b->b<w.heap.size:=fun hE hb=>((h.arr _ _ hE).lt hb).1
  have new:∀ {j:Nat} {E:AE} {b:Nat},A'[j]?=some E->E.blk=some b->w.heap.size<=b:=by
    intro j E b hE hb
    rcases ((h'.arr _ _ hE).lt hb).2.2 with h1 | ⟨F,hF,_⟩
    · exact h1
    · cases hF
  refine ⟨t.os,t.tape,t.output,t.size,t.fr,fun b o hb=>t.sealed b o (hle2 b o hb),h.le,h.grow,fun i e cs hi=>?_,h.ro,h.inj,fun i E hE=>?_,fun i j E F hE hF hij g hg=>?_,fun i j E e cs hE hj=>?_⟩
  · obtain ⟨q1,q2,q3,q4⟩:=t.loc i e cs hi
    exact ⟨q1,q2,hn q3,q4⟩
  · rcases hget hE with ⟨_,hE⟩ | ⟨_,hE⟩
    · exact (h.arr i E hE).keep fun g hg=>hold g (old hE hg)
    · exact (t.arr _ E hE).weak hn
  · rcases hget hE with ⟨_,hE⟩ | ⟨_,hE⟩<;>rcases hget hF with ⟨_,hF⟩ | ⟨_,hF⟩
    · exact h.arrd i j E F hE hF hij g hg
    · intro hc
      have:=old hE hg
      have:=new hF hc
      omega
    · intro hc
      have:=new hE hg
      have:=old hF hc
      omega
    · exact t.arrd _ _ E F hE hF (by omega) g hg
  · rcases hget hE with ⟨_,hE⟩ | ⟨_,hE⟩
    · exact h.arrh i j E e cs hE hj
    · exact t.arrh _ j E e cs hE hj
end
theorem FnC.ofPure {P:Program} {f:FuncId} {args:Array Value} {σ:Snap} {Φ:Value->Snap->Prop} (h:PureC P f args σ Φ):FnC P f args σ [] (fun v σ' A'=>Φ v σ'/\A'=[]):=by
  intro w hw
  refine Calls.mono (h w hw.sealed) fun e w' ⟨v,σ',he,h1,h2,h3,h4⟩=>?_
  rw [blks_nil]
  refine ⟨v,σ',he,h1,h2,h3,[],⟨h4,rfl⟩,?_⟩
  rw [blks_nil]
  exact (StW.start (M:=fun _=>False) hw.sealed β0).after h1 h2 h3
section
variable {cf:Cf} {Q:Exit->Act->World->Prop} {σ:Snap} {env:Env} {hp:HP} {A:List AE} {nh:Nat} {it:Item} {rest:List Item}
theorem oj_peekF {d:Nat} {f:FuncId} {ys:List SV} {Φ:Value->List AE->Prop}
    (hc:callee env it.o.op=some (f,ys)) (hd:it.o.dst=some d) (hg:guardVal it.guard env=some true)
    (hN:Nat.blt d cf.N=true) (htag:canSink it.tag=true) (hcall:∀ args w,(callFunc f args).run cf.P w=.ok (.enter f args) w) (hlt:LtAll ys)
    (hC:∀ σ',σ.le σ'->(∀ (i:Nat) E,A[i]?=some E->ArrSealed σ' E)->FnS cf.P f ys σ' [] (fun v _ A'=>Φ v A'))
    (k:∀ v A',Φ v A'->∃ y:SV,y.lt 0/\y.den β0=v/\OJ cf rest Q σ ((d,y)::env) hp (A++A') nh):OJ cf (it::rest) Q σ env hp A nh:=by
  refine ⟨fun hb a β ha hex=>?_⟩
  have hN':d<cf.N:=by simpa [Nat.blt_eq] using hN
  have den0:∀ {y:SV},y.lt 0->y.den β=y.den β0:=fun hy=>SV.den_congr (n:=0) (fun i hi=>by omega) hy
  have hargs:(ys.map (SV.den β)).toArray=(ys.map (SV.den β0)).toArray:=by
    rw [List.map_congr_left fun y hy=>den0 (hlt.of y hy)]
  have key:∀ w,StW cf σ hp A β w->∀ Q',it.o.wq cf.P a w (fun a' w'=>∃ E' S':World->Prop,S' w'/\(∀ x,S' x->E' x)/\RunT cf.P Q rest E' S' a') Q':=by
    intro w hw Q'
    obtain ⟨σ1,hle,hS,hw1⟩:=hw.sealAll
    have hw2:StW cf σ1 hp ([]++[]) β w:=hw1
    unfold Oper.wq
    rw [callee_ok ha hc hcall]
    simp only [Oper.uponIn]
    rw [hargs]
    refine ⟨fun h=>(by cases h),CallsIn.mono (callsIn_FR.2 (hC σ1 hle hS w hw2.handIn)) fun e w' ⟨v,σ',he,h1,h2,h3,A',h4,h5⟩=>?_⟩
    subst he
    obtain ⟨y,hy,hyv,hk⟩:=k v A' h4
    have hw':=hw.peeked hw1 hle h5
    refine ⟨_,_,hw',fun _ h=>h,?_⟩
    have:=hk.run (hb.put (SV.lt_mono (Nat.zero_le _) hy) d) (a.put (some d) (y.den β)) β (ha.put hN' y) ⟨_,hw'⟩
    rw [hd,<-hyv,<-den0 hy]
    exact this
  simp only [RunT]
  rw [if_pos (guardVal_ok ha hg)]
  cases htag':it.tag with
  | pure=>rw [htag'] at htag;cases htag
  | quiet=>rw [htag'] at htag;cases htag
  | keep=>rw [htag'] at htag;cases htag
  | sink=>exact fun w hw=>key w hw _
  | free=>exact fun w hw=>key w hw _
theorem oj_peekP {d:Nat} {f:FuncId} {ys:List SV} {Φ:Value->Prop}
    (hc:callee env it.o.op=some (f,ys)) (hd:it.o.dst=some d) (hg:guardVal it.guard env=some true)
    (hN:Nat.blt d cf.N=true) (htag:canSink it.tag=true) (hcall:∀ args w,(callFunc f args).run cf.P w=.ok (.enter f args) w) (hlt:LtAll ys)
    (hC:∀ σ',σ.le σ'->(∀ (i:Nat) E,A[i]?=some E->ArrSealed σ' E)->PlainS cf.P f ys σ' Φ)
    (k:∀ v,Φ v->∃ y:SV,y.lt 0/\y.den β0=v/\OJ cf rest Q σ ((d,y)::env) hp A nh):OJ cf (it::rest) Q σ env hp A nh:=by
  refine oj_peekF (Φ:=fun v A'=>Φ v/\A'=[]) hc hd hg hN htag hcall hlt (fun σ' h1 h2=>FnC.ofPure (hC σ' h1 h2)) fun v A' ⟨h1,h2⟩=>?_
  subst h2
  rw [List.append_nil]
  exact k v h1
theorem oj_strcat {d:Nat} {x y:Operand} {xt yt:TypeId} {s t:ByteArray} (hop:it.o.op=.binOp .add xt x y yt) (hd:it.o.dst=some d) (hg:guardVal it.guard env=some true) (hN:Nat.blt d cf.N=true)
    (hx:evalO env x=some (.a (.v (.string s)))) (hy:evalO env y=some (.a (.v (.string t)))) (hb:s.size+t.size<=9223372036854775807)
    (hk:OJ cf rest Q σ ((d,.a (.v (.string (s++t))))::env) hp A nh):OJ cf (it::rest) Q σ env hp A nh:=by
  refine oj_val (.a (.v (.string (s++t)))) hd hg hN trivial (fun _ a β ha w=>?_) hk
  have h1:a.eval x=.string s:=evalO_eval ha hx
  have h2:a.eval y=.string t:=evalO_eval ha hy
  have h3:¬ ((s.size+t.size:Nat):Int) > IntKind.i64.max:=by
    show ¬ ((s.size+t.size:Nat):Int) > 9223372036854775807
    omega
  simp only [execOp,hop,h1,h2]
  rw [Sem.run_bind]
  have:∀ P:Program,(do eqGuard .add xt x y (.string s) (.string t);binOp .add xt (.string s) (.string t):Sem Value).run P w=.ok (.string (s++t)) w:=by
    intro P
    simp only [eqGuard,binOp,Op.stringOp,if_neg h3,Sem.run_bind,Sem.run_pure]
    rfl
  rw [this]
  rfl
end
end Go.Sy
/- Regions whose orders fork: of two operations that change the world, either may come first, and both ways are gone. No program in sight. -/
namespace Go.Sy
structure GJ (cf:Cf) (ops:Array Oper) (U bef:List Nat) (n:Nat) (listed:Array Bool) (fst:Bool) (Q:Exit->Act->World->Prop) (σ:Snap) (env:Env) (hp:HP) (A:List AE) (nh:Nat):Prop where
  run:Region.noSelect ops=true->Bd env hp nh->∀ a β,StA cf env β a->(∃ w,StW cf σ hp A β w)->Closed ops listed->∀ E0:World->Prop,(∀ x,StW cf σ hp A β x->E0 x) ->
    (fst=true->∀ x,E0 x->StW cf σ hp A β x)->wpAnyC cf.P ops U Q n listed a E0 (fun w=>StW cf σ hp A β w)
structure GK (cf:Cf) (ops:Array Oper) (U bef:List Nat) (n:Nat) (listed:Array Bool) (j:Nat) (Q:Exit->Act->World->Prop) (σ:Snap) (env:Env) (hp:HP) (A:List AE) (nh:Nat):Prop where
  run:Region.noSelect ops=true->Bd env hp nh->∀ a β,StA cf env β a->(∃ w,StW cf σ hp A β w)->Closed ops listed->j∈Region.ready .any ops listed->∀ E0:World->Prop,(∀ x,StW cf σ hp A β x->E0 x) ->
    stepC cf.P ops U Q j (wpAnyC cf.P ops U Q n (listed.setIfInBounds j true)) a E0 (fun w=>StW cf σ hp A β w)
section
variable {cf:Cf} {Q:Exit->Act->World->Prop} {σ:Snap} {env:Env} {hp:HP} {A:List AE} {nh:Nat} {ops:Array Oper} {U bef:List Nat} {n:Nat} {listed:Array Bool} {fst:Bool}
theorem cj_drawG {id:Nat} (m:Nat) (U:List Nat) (hm:cf.P.follows .mixedOrders=true) (hs:Region.noSelect ops=true) (hn:ops.size=m)
    (h:GJ cf ops U [] m (Array.replicate m false) true Q σ env hp A nh) (hd:okRd cf.rd ops=true:=by rfl):CJ cf (.region id ops true) Q σ env hp A nh:=by
  subst hn
  refine ⟨fun hb a β w ha hw=>wpIn_region_any hm ?_⟩
  have hc:Closed ops (Array.replicate ops.size false):=⟨by simp,fun j oj _ hl=>by
    exfalso
    rcases Nat.lt_or_ge j ops.size with h | h
    · simp [h] at hl
    · simp [h] at hl⟩
  exact wpAnyIn_of_C (okRd_mem hd) _ _ _ _ _ _ hw.drew (h.run hs hb a β ha ⟨_,hw⟩ hc _ (fun _ h=>h) (fun _ _ h=>h))
theorem gj_valT {i d:Nat} {o:Oper} (y:SV) (hi:ops[i]?=some o) (hr:(Region.ready .any ops listed).contains i=true) (hf:Region.free .any ops listed i=true) (hk:(U.contains i||fst)=true)
    (hd:o.dst=some d) (hg:guardVal (slotOf ops o) env=some true) (hN:Nat.blt d cf.N=true) (hlt:y.lt nh)
    (hrun:Bd env hp nh->∀ a β,StA cf env β a->∀ w,(U.contains i=false->StW cf σ hp A β w)->(execOp a.eval o).run cf.P w=.ok (.value (y.den β)) w)
    (k:GJ cf ops U (bef++[i]) n (listed.setIfInBounds i true) fst Q σ ((d,y)::env) hp A nh):GJ cf ops U bef (n+1) listed fst Q σ env hp A nh:=by
  refine ⟨fun hs hb a β ha hex hc E0 hE hF=>?_⟩
  have hN':d<cf.N:=by simpa [Nat.blt_eq] using hN
  have hr':i∈Region.ready .any ops listed:=by simpa using hr
  have hw:Region.wanted o (yielded ops a.tmps)=true:=by rw [<-wantedS_slotOf];exact guardVal_ok ha hg
  have hrest:=k.run hs (hb.put hlt d) _ β (ha.put hN' y) hex (hc.set hr') E0 hE hF
  refine wpAnyC_first hi (Region.noSelect_spec hs) n listed a E0 _ hc hE (Region.free_spec hi hf) hr' ⟨.inl ⟨hw,fun w hE0=>.inl ?_⟩,fun hu=>.inl ⟨hw,fun w _=>.inl ?_⟩⟩ (by rw [hd];exact hrest)
  · refine hrun hb a β ha w fun hu=>?_
    rw [hu,Bool.false_or] at hk
    exact hF hk w hE0
  · exact hrun hb a β ha w fun hu'=>absurd (List.contains_iff_mem.2 hu) (by rw [hu'];simp)
theorem gj_val {i d:Nat} {o:Oper} {T:List (Nat×TI)} (hT:TTok cf.P T) {x:SV} (hi:ops[i]?=some o) (hr:(Region.ready .any ops listed).contains i=true) (hf:Region.free .any ops listed i=true)
    (hk:(bif U.contains i then !isLoad o.op else fst)=true) (hd:o.dst=some d) (hg:guardVal (slotOf ops o) env=some true) (hN:Nat.blt d cf.N=true) (h:stepOp T o.op env hp nh=some (.val x))
    (k:GJ cf ops U (bef++[i]) n (listed.setIfInBounds i true) fst Q σ ((d,x)::env) hp A nh):GJ cf ops U bef (n+1) listed fst Q σ env hp A nh:=by
  refine ⟨fun hs hb a β ha hex hc E0 hE hF=>?_⟩
  have hx:x.lt nh:=(step_ok (o:=o) hT ha hb h).1
  refine (gj_valT x hi hr hf ?_ hd hg hN hx (fun hb a β ha w hw=>?_) k).run hs hb a β ha hex hc E0 hE hF
  · cases hu:U.contains i<;>rw [hu] at hk
    · simpa using hk
    · rfl
  · refine (step_ok (o:=o) hT ha hb h).2 w fun hl=>⟨σ,A,hw ?_⟩
    cases hu:U.contains i with
    | false=>rfl
    | true=>rw [hu,cond_true,hl] at hk;cases hk
theorem gj_fork (js:List Nat) (hr:(Region.ready .any ops listed == js)=true) (hne:js.isEmpty=false) (k:∀ j,j∈js->GK cf ops U bef n listed j Q σ env hp A nh):GJ cf ops U bef (n+1) listed fst Q σ env hp A nh:=by
  refine ⟨fun hs hb a β ha hex hc E0 hE hF=>?_⟩
  have hr':=eq_of_beq hr
  refine ⟨fun h0=>?_,fun j hj=>(k j (by rw [<-hr'];exact hj)).run hs hb a β ha hex hc hj E0 hE⟩
  rw [hr'] at h0
  subst h0
  cases hne
theorem gj_two {i j:Nat} (hr:(Region.ready .any ops listed == [i,j])=true) (ki:GK cf ops U bef n listed i Q σ env hp A nh) (kj:GK cf ops U bef n listed j Q σ env hp A nh):GJ cf ops U bef (n+1) listed fst Q σ env hp A nh :=
  gj_fork [i,j] hr rfl fun m hm=>by
    simp only [List.mem_cons,List.not_mem_nil,or_false] at hm
    rcases hm with rfl | rfl
    · exact ki
    · exact kj
theorem gk_call {j d:Nat} {o:Oper} {f:FuncId} {ys:List SV} {Φ:Value->Snap->Prop} (hj:ops[j]?=some o) (hc:callee env o.op=some (f,ys)) (hd:o.dst=some d) (hg:guardVal (slotOf ops o) env=some true)
    (hN:Nat.blt d cf.N=true) (hcall:∀ args w,(callFunc f args).run cf.P w=.ok (.enter f args) w) (hlt:LtAll ys) (hC:PureS cf.P f ys σ Φ)
    (k:∀ v σ',σ.le σ'->Φ v σ'->∃ y:SV,y.lt 0/\y.den β0=v/\GJ cf ops U (bef++[j]) n (listed.setIfInBounds j true) false Q σ' ((d,y)::env) hp A nh):GK cf ops U bef n listed j Q σ env hp A nh:=by
  refine ⟨fun hs hb a β ha hex hcl hr E0 hE=>?_⟩
  have hN':d<cf.N:=by simpa [Nat.blt_eq] using hN
  have den0:∀ {y:SV},y.lt 0->y.den β=y.den β0:=fun hy=>SV.den_congr (n:=0) (fun i hi=>by omega) hy
  have hargs:(ys.map (SV.den β)).toArray=(ys.map (SV.den β0)).toArray:=by
    rw [List.map_congr_left fun y hy=>den0 (hlt.of y hy)]
  have hwant:Region.wanted o (yielded ops a.tmps)=true:=by rw [<-wantedS_slotOf];exact guardVal_ok ha hg
  unfold stepC
  simp only [hj]
  rw [if_pos hwant]
  intro w hw
  unfold Oper.wq
  rw [callee_ok ha hc hcall]
  simp only [Oper.uponIn]
  rw [hargs]
  refine ⟨fun h=>(by cases h),CallsIn.mono (callsIn_FR.2 (hC w hw.sealed)) fun e w' ⟨v,σ',he,h1,h2,h3,h4⟩=>?_⟩
  subst he
  have hw':=hw.after h1 h2 h3
  have hσ:∀ {b},σ' b=none->σ b=none:=fun hb=>Snap.none_of_le h2.le hb
  have hsub:∀ x,StW cf σ' hp A β x->StW cf σ hp A β x:=by
    intro x hx
    refine ⟨hx.os,hx.tape,hx.output,hx.size,hx.fr,fun b o hb=>hx.sealed b o (h2.le b o hb),hw.le,hw.grow,fun i e cs hi=>?_,hw.ro,hx.inj,fun i E hE=>(hx.arr i E hE).weak hσ,hx.arrd,hx.arrh⟩
    obtain ⟨q1,q2,q3,q4⟩:=hx.loc i e cs hi
    exact ⟨q1,q2,hσ q3,q4⟩
  obtain ⟨y,hy,hyv,hk⟩:=k v σ' h2.le h4
  refine ⟨E0,_,hw',fun x hx=>hE x (hsub x hx),.inl fun _ h=>h,?_⟩
  have:=hk.run hs (hb.put (SV.lt_mono (Nat.zero_le _) hy) d) (a.put (some d) (y.den β)) β (ha.put hN' y) ⟨_,hw'⟩ (hcl.set hr) E0 (fun x hx=>hE x (hsub x hx)) (fun h=>by cases h)
  rw [hd,<-hyv,<-den0 hy]
  exact this
theorem gk_new {j d:Nat} {o:Oper} {T:List (Nat×TI)} (hT:TTok cf.P T) {e:TypeId} {cs:List AT} {x:AT} (hj:ops[j]?=some o) (h:stepOp T o.op env hp nh=some (.new e cs x)) (hd:o.dst=some d) (hg:guardVal (slotOf ops o) env=some true)
    (hN:Nat.blt d cf.N=true) (k:GJ cf ops U (bef++[j]) n (listed.setIfInBounds j true) false Q σ ((d,.a x)::env) ((nh,.loc e,cs)::hp) A (nh+1)):GK cf ops U bef n listed j Q σ env hp A nh:=by
  refine ⟨fun hs hb a β ha hex hcl hr E0 hE=>?_⟩
  have hN':d<cf.N:=by simpa [Nat.blt_eq] using hN
  have hwant:Region.wanted o (yielded ops a.tmps)=true:=by rw [<-wantedS_slotOf];exact guardVal_ok ha hg
  obtain ⟨hcs,hx,hrun⟩:=step_ok (o:=o) hT ha hb h
  have hxl:(SV.a x).lt (nh+1):=by
    rcases hx with rfl | ⟨n,rfl⟩<;>exact Nat.lt_succ_self nh
  unfold stepC
  simp only [hj]
  rw [if_pos hwant]
  intro w hw
  unfold Oper.wq
  rw [hrun w]
  have hw':=hw.alloc (e:=e) hb hcs
  have hβ:=upd_old β nh w
  have hg2:∀ {i k l},hp.get i=some (k,l)->HP.get ((nh,HK.loc e,cs)::hp) i=some (k,l):=by
    intro i k l hi
    have hlt:=(hb.hp i k l hi).1
    rw [HP.get_cons,if_neg (by omega)]
    exact hi
  have keepS:∀ w',StW cf σ ((nh,.loc e,cs)::hp) A (upd β nh w) w'->StW cf σ hp A β w':=by
    intro w' s
    refine ⟨s.os,s.tape,s.output,s.size,s.fr,s.sealed,s.le,s.grow,fun i e' l hi=>?_,fun i l hi j c hc=>?_,fun i j e1 e2 l1 l2 hi hj heq=>?_,s.arr,s.arrd,fun i j E e' l hE hj=>?_⟩
    · obtain ⟨hlt,hl⟩:=hb.hp i _ l hi
      have:=s.loc i e' l (hg2 hi)
      rw [hβ i hlt,AT.denL_congr hβ hl] at this
      exact this
    · obtain ⟨hlt,hl⟩:=hb.hp i _ l hi
      have:=s.ro i l (hg2 hi) j c hc
      rw [hβ i hlt,AT.den_congr hβ (hl c (List.mem_of_getElem? hc))] at this
      exact this
    · have h1:=(hb.hp i _ l1 hi).1
      have h2:=(hb.hp j _ l2 hj).1
      exact s.inj i j e1 e2 l1 l2 (hg2 hi) (hg2 hj) (by rw [hβ i h1,hβ j h2];exact heq)
    · have h1:=(hb.hp j _ l hj).1
      have:=s.arrh i j E e' l hE (hg2 hj)
      rw [hβ j h1] at this
      exact this
  refine ⟨E0,_,hw',fun x hx=>hE x (keepS x hx),.inl fun _ h=>h,?_⟩
  rw [hd]
  exact k.run hs ((hb.mono (Nat.le_succ nh)).row (Nat.lt_succ_self nh) (fun c hc=>AT.lt_mono (Nat.le_succ nh) (hcs c hc)) |>.put hxl d) _ (upd β nh w) ((ha.congr hb hβ).put hN' (.a x)) ⟨_,hw'⟩ (hcl.set hr) E0 (fun x hx=>hE x (keepS x hx)) (fun h=>by cases h)
theorem gj_order (l:List (Nat×Tag)) (hl:(l.all fun p=>decide (p.1<ops.size))=true) (hq:noQuiet (itemsOf ops l)=true) (ho:orderFrom ops U bef l listed=true) (h:OJ cf (itemsOf ops l) Q σ env hp A nh) :
    GJ cf ops U bef l.length listed fst Q σ env hp A nh:=by
  refine ⟨fun hs hb a β ha hex hc E0 hE _=>?_⟩
  have:=run_wider hE _ _ a hq (h.run hb a β ha hex)
  exact run_order hs l bef listed a E0 _ hc hE (fun p hp=>by simpa using List.all_eq_true.1 hl p hp) ho this
end
end Go.Sy
/- What 'slices.Delete' does with a call's own array: a piece moved to the front, the rest cleared. No program in sight. -/
namespace Go.Sy
section
variable {cf:Cf} {Q:Exit->Act->World->Prop} {σ:Snap} {env:Env} {hp:HP} {A:List AE} {nh:Nat} {it:Item} {rest:List Item}
def clearOf:Op->Option (Operand×TypeId)
  | .call c =>
    match c.callee,c.args.toList,c.argTypes.toList with
    | .builtin .clear,[x],[t]=>some (x,t)
    | _,_,_=>none
  | _=>none
theorem clearOf_run {o:Oper} {x:Operand} {t:TypeId} (h:clearOf o.op=some (x,t)) {P:Program} {a:Act} {w w':World} {v:Value}
    (hr:(Builtin.clear_ #[t] o.type #[a.eval x]).run P w=.ok v w'):(execOp a.eval o).run P w=.ok (.value v) w':=by
  unfold clearOf at h
  split at h
  · rename_i c hop
    split at h
    · rename_i x' t' hcal hargs htys
      injection h with h
      simp only [Prod.mk.injEq] at h
      obtain ⟨rfl,rfl⟩:=h
      have e1:c.args=#[x']:=by
        cases hq:c.args with
        | mk l=>rw [hq] at hargs;simp only at hargs;rw [hargs]
      have e2:c.argTypes=#[t']:=by
        cases hq:c.argTypes with
        | mk l=>rw [hq] at htys;simp only at htys;rw [htys]
      simp only [execOp,hop,resolve,hcal,e1,e2,invoke,builtin,Sem.run_bind,Sem.run_pure,Result.andThen_ok,List.map_toArray,List.map_cons,List.map_nil,hr]
    · cases h
  · cases h
theorem mem_zeroCells {z:Array Value} {n:Nat} {v:Value} (h:v∈(Builtin.zeroCells z n).toList):v∈z.toList:=by
  unfold Builtin.zeroCells at h
  rw [Array.toList_map,List.mem_map] at h
  obtain ⟨i,hi,rfl⟩:=h
  rw [Array.mem_toList_iff,Array.mem_range] at hi
  have hz:0<z.size:=by
    rcases Nat.eq_zero_or_pos z.size with h0 | h0
    · rw [h0,Nat.mul_zero] at hi;omega
    · exact h0
  have hlt:=Nat.mod_lt i hz
  rw [getElem!_pos z (i % z.size) hlt]
  exact Array.mem_toList_iff.2 (Array.getElem_mem hlt)
theorem oj_clear_tail {x:Operand} {t e:Nat} {T:List (Nat×TI)} (hT:TTok cf.P T) {ti te:TI} (i:Nat) {E:AE} {g:Nat} {xo:Option Addr} {m xc:Nat} (q:Nat)
    (hop:clearOf it.o.op=some (x,t)) (hd:it.o.dst=none) (hg:guardVal it.guard env=some true) (htg:canSink it.tag=true)
    (hx:evalO env x=some (.a (.v (.slice xo m xc)))) (hA:A[i]?=some E) (hE:E.ao=some ⟨g,0,none⟩) (hEe:E.e=e) (hq:E.n<=q) (hqm:q+m<=E.cap) (hxo:m=0\/xo=some ⟨g,q*te.size,none⟩)
    (ht:tget T t=some ti) (hkt:ti.kind=.slice e) (hte:tget T e=some te) (hsz:E.sz=te.size) (hzl:te.zero.length=te.size) (hzo:te.zero.all AT.one=true)
    (k:OJ cf rest Q σ env hp A nh):OJ cf (it::rest) Q σ env hp A nh:=by
  subst hEe
  refine ⟨fun hb a β ha hex=>?_⟩
  have key:∀ w,StW cf σ hp A β w->∀ Q',it.o.wq cf.P a w (fun a' w'=>∃ E' S':World->Prop,S' w'/\(∀ x,S' x->E' x)/\RunT cf.P Q rest E' S' a') Q':=by
    intro w hw Q'
    obtain ⟨i1,d1,z1,hs1⟩:=tiOf_spec (hT _ _ ht)
    obtain ⟨i3,d3,z3,hs3⟩:=tiOf_spec (hT _ _ hte)
    have hut:cf.P.underlying t=some (.slice E.e):=by
      have h1:=hs1.kind
      rw [hkt] at h1
      have h2:=hs1.und
      cases d1<;>first
        | (simp only [kindD,TK.slice.injEq] at h1;subst h1;exact h2)
        | (simp only [kindD] at h1;cases h1)
    have hxe:a.eval x=.slice xo m xc:=evalO_eval ha hx
    have hE0:=hw.arr i E hA
    rcases hE0.2 with h1 | ⟨g',cur,h3,hrow,hnc,hcm,hcs,htk,hσ,hown⟩
    · rw [h1.1] at hE;cases hE
    rw [hE] at h3
    injection h3 with h3
    simp only [Addr.mk.injEq,and_true] at h3
    subst h3
    rcases Nat.eq_zero_or_pos m with hm0 | hmp
    · subst hm0
      have hrun:(execOp a.eval it.o).run cf.P w=.ok (.value (.tuple #[])) w:=by
        refine clearOf_run hop ?_
        rw [hxe]
        cases xo<;>simp only [Builtin.clear_,List.getElem?_toArray,List.getElem?_cons_zero,Sem.run_bind,run_underlying hut,Result.andThen_ok,Sem.run_pure]
      unfold Oper.wq
      rw [hrun]
      refine ⟨_,_,hw,fun _ h=>h,?_⟩
      rw [hd]
      exact k.run hb a β ha ⟨_,hw⟩
    · have hxo:=hxo.resolve_left (by omega)
      subst hxo
      have hz3:z3.cells.size=E.sz:=by
        have:=zero_den hs3 β
        rw [<-this,hsz]
        simp [hzl]
      have hzone:∀ v∈z3.cells.toList,v.oneCell'=true:=fun v hv=>by
        have:=zero_den hs3 β
        rw [<-this] at hv
        simp only [List.mem_map] at hv
        obtain ⟨c,hc,rfl⟩:=hv
        exact AT.one_den β (List.all_eq_true.1 hzo c hc)
      have hzs:(Builtin.zeroCells z3.cells m).toList.length=m*E.sz:=by rw [Array.length_toList,size_zeroCells,hz3]
      have hle:q*E.sz+m*E.sz<=E.cap*E.sz:=by rw [<-Nat.add_mul];exact Nat.mul_le_mul_right _ hqm
      have hnq:E.n*E.sz<=q*E.sz:=Nat.mul_le_mul_right _ hq
      have hst:=run_storeCells_at cf.P g (q*E.sz) E.e (Builtin.zeroCells z3.cells m).toList 0 cur w hrow (by rw [hzs,hcs];omega) (fun v hv=>hzone v (mem_zeroCells hv))
      simp only [Nat.add_zero] at hst
      have hcl:cur.toList.length=E.cap*E.sz:=by rw [Array.length_toList,hcs]
      have hrun:(execOp a.eval it.o).run cf.P w=.ok (.value (.tuple #[])) (w.setRow g (cur.toList.take (q*E.sz)++(Builtin.zeroCells z3.cells m).toList++cur.toList.drop (q*E.sz+(Builtin.zeroCells z3.cells m).toList.length)).toArray):=by
        refine clearOf_run hop ?_
        rw [hxe]
        obtain ⟨m',rfl⟩:∃ m',m=m'+1:=⟨m - 1,by omega⟩
        rw [<-hsz]
        simp only [Builtin.clear_,List.getElem?_toArray,List.getElem?_cons_zero,Sem.run_bind,run_underlying hut,Result.andThen_ok,run_zero hs3.info hs3.zero,hst,Sem.run_pure]
      unfold Oper.wq
      rw [hrun]
      have hxl:E.xs.length=E.n*E.sz:=hE0.1
      have hw':=hw.setArr (E':=E) (cur':=(cur.toList.take (q*E.sz)++(Builtin.zeroCells z3.cells m).toList++cur.toList.drop (q*E.sz+(Builtin.zeroCells z3.cells m).toList.length)).toArray) hA hE hrow rfl rfl rfl rfl hnc hxl
        (by
          simp only [List.size_toArray,List.length_append,List.length_take,List.length_drop,hcl,hzs]
          omega)
        (by
          dsimp only
          rw [List.append_assoc,List.take_append_of_le_length (by rw [List.length_take,hcl];omega),List.take_take,Nat.min_eq_left hnq,htk])
      rw [set_same hA] at hw'
      refine ⟨_,_,hw',fun _ h=>h,?_⟩
      rw [hd]
      exact k.run hb a β ha ⟨_,hw'⟩
  simp only [RunT]
  rw [if_pos (guardVal_ok ha hg)]
  cases htag':it.tag with
  | pure=>rw [htag'] at htg;cases htg
  | quiet=>rw [htag'] at htg;cases htg
  | keep=>rw [htag'] at htg;cases htg
  | sink=>exact fun w hw=>key w hw _
  | free=>exact fun w hw=>key w hw _
end
end Go.Sy
/- Regions whose allocations and calls come in several orders, calls that are handed arrays among them. No program in sight. -/
namespace Go.Sy
section
variable {cf:Cf} {σ σb:Snap} {hp hpb:HP} {A:List AE} {β:Nat->Addr} {w0 x:World}
theorem StW.base (h0:StW cf σb hpb [] β w0) (hle:σb.le σ) (hs:subH hpb hp) (h:StW cf σ hp A β x):StW cf σb hpb [] β x:=by
  refine ⟨h.os,h.tape,h.output,h.size,h.fr,fun b o hb=>h.sealed b o (hle b o hb),h0.le,h0.grow,fun i e cs hi=>?_,h0.ro,fun i j e1 e2 l1 l2 hi hj heq=>h.inj i j e1 e2 l1 l2 (hs _ _ hi) (hs _ _ hj) heq,
    fun i E hi=>(by simp at hi),fun i j E F hi=>(by simp at hi),fun i j E e cs hi=>(by simp at hi)⟩
  obtain ⟨q1,q2,q3,q4⟩:=h.loc i e cs (hs _ _ hi)
  exact ⟨q1,q2,Snap.none_of_le hle q3,q4⟩
theorem StW.reβ {β':Nat->Addr} {nb:Nat} (hb:Bd [] hpb nb) (hβ:∀ i,i<nb->β' i=β i) (h:StW cf σb hpb [] β x):StW cf σb hpb [] β' x:=by
  refine ⟨h.os,h.tape,h.output,h.size,h.fr,h.sealed,h.le,h.grow,fun i e cs hi=>?_,fun i cs hi j c hc=>?_,fun i j e1 e2 l1 l2 hi hj heq=>?_,fun i E hi=>(by simp at hi),fun i j E F hi=>(by simp at hi),fun i j E e cs hi=>(by simp at hi)⟩
  · obtain ⟨hlt,hl⟩:=hb.hp i _ cs hi
    have:=h.loc i e cs hi
    rw [hβ i hlt,AT.denL_congr hβ hl]
    exact this
  · obtain ⟨hlt,hl⟩:=hb.hp i _ cs hi
    have:=h.ro i cs hi j c hc
    rw [hβ i hlt,AT.den_congr hβ (hl c (List.mem_of_getElem? hc))]
    exact this
  · have h1:=(hb.hp i _ l1 hi).1
    have h2:=(hb.hp j _ l2 hj).1
    exact h.inj i j e1 e2 l1 l2 hi hj (by rw [<-hβ i h1,<-hβ j h2];exact heq)
end
structure GB (cf:Cf) (ops:Array Oper) (U bef:List Nat) (σb:Snap) (hpb:HP) (nb n:Nat) (listed:Array Bool) (Q:Exit->Act->World->Prop) (σ:Snap) (env:Env) (hp:HP) (A:List AE) (nh:Nat):Prop where
  run:Region.noSelect ops=true->Bd env hp nh->Bd [] hpb nb->nb<=nh->σb.le σ->subH hpb hp->∀ a β,StA cf env β a->(∃ w,StW cf σ hp A β w)->(∃ w,StW cf σb hpb [] β w)->Closed ops listed ->
    wpAnyC cf.P ops U Q n listed a (fun w=>StW cf σb hpb [] β w) (fun w=>StW cf σ hp A β w)
structure GBK (cf:Cf) (ops:Array Oper) (U bef:List Nat) (σb:Snap) (hpb:HP) (nb n:Nat) (listed:Array Bool) (j:Nat) (Q:Exit->Act->World->Prop) (σ:Snap) (env:Env) (hp:HP) (A:List AE) (nh:Nat):Prop where
  run:Region.noSelect ops=true->Bd env hp nh->Bd [] hpb nb->nb<=nh->σb.le σ->subH hpb hp->∀ a β,StA cf env β a->(∃ w,StW cf σ hp A β w)->(∃ w,StW cf σb hpb [] β w)->Closed ops listed->j∈Region.ready .any ops listed ->
    stepC cf.P ops U Q j (wpAnyC cf.P ops U Q n (listed.setIfInBounds j true)) a (fun w=>StW cf σb hpb [] β w) (fun w=>StW cf σ hp A β w)
section
variable {cf:Cf} {Q:Exit->Act->World->Prop} {σ σb:Snap} {env:Env} {hp hpb:HP} {A:List AE} {nh nb:Nat} {ops:Array Oper} {U bef:List Nat} {n:Nat} {listed:Array Bool}
theorem cj_drawB {id:Nat} (m:Nat) (U:List Nat) (hpb:HP) (hm:cf.P.follows .mixedOrders=true) (hs:Region.noSelect ops=true) (hn:ops.size=m) (hsub:subH hpb hp)
    (h:GB cf ops U [] σ hpb nh m (Array.replicate m false) Q σ env hp A nh) (hd:okRd cf.rd ops=true:=by rfl):CJ cf (.region id ops true) Q σ env hp A nh:=by
  subst hn
  refine ⟨fun hb a β w ha hw=>wpIn_region_any hm ?_⟩
  have hc:Closed ops (Array.replicate ops.size false):=⟨by simp,fun j oj _ hl=>by
    exfalso
    rcases Nat.lt_or_ge j ops.size with h | h
    · simp [h] at hl
    · simp [h] at hl⟩
  have hbb:Bd [] hpb nh:=⟨fun i x h=>(by cases h),fun i k cs hi=>hb.hp i k cs (hsub _ _ hi)⟩
  have hb0:StW cf σ hpb [] β w:=by
    have:=hw.dropA
    exact this.sub hsub
  exact wpAnyIn_of_C (okRd_mem hd) _ _ _ _ _ _ hw.drew (h.run hs hb hbb (Nat.le_refl _) (Snap.le_refl _) hsub a β ha ⟨_,hw⟩ ⟨_,hb0⟩ hc)
theorem gb_val {i d:Nat} {o:Oper} {T:List (Nat×TI)} (hT:TTok cf.P T) {x:SV} (hi:ops[i]?=some o) (hr:(Region.ready .any ops listed).contains i=true) (hf:Region.free .any ops listed i=true)
    (hk:(U.contains i&&isLoad o.op)=false) (hd:o.dst=some d) (hg:guardVal (slotOf ops o) env=some true) (hN:Nat.blt d cf.N=true) (h:stepOp T o.op env hpb nh=some (.val x))
    (k:GB cf ops U (bef++[i]) σb hpb nb n (listed.setIfInBounds i true) Q σ ((d,x)::env) hp A nh):GB cf ops U bef σb hpb nb (n+1) listed Q σ env hp A nh:=by
  refine ⟨fun hs hb hbb hnb hle hsub a β ha hex hex0 hc=>?_⟩
  obtain ⟨w0,hw0⟩:=id hex0
  have hN':d<cf.N:=by simpa [Nat.blt_eq] using hN
  have hb':Bd env hpb nh:=hb.sub (fun i x h=>h) hsub
  have hx:x.lt nh:=(step_ok (o:=o) hT ha hb' h).1
  have hr':i∈Region.ready .any ops listed:=by simpa using hr
  have hw:Region.wanted o (yielded ops a.tmps)=true:=by rw [<-wantedS_slotOf];exact guardVal_ok ha hg
  have hrest:=k.run hs (hb.put hx d) hbb hnb hle hsub _ β (ha.put hN' x) hex hex0 (hc.set hr')
  refine wpAnyC_first hi (Region.noSelect_spec hs) n listed a _ _ hc (fun y hy=>hw0.base hle hsub hy) (Region.free_spec hi hf) hr' ⟨.inl ⟨hw,fun w hE0=>.inl ?_⟩,fun hu=>.inl ⟨hw,fun w _=>.inl ?_⟩⟩ (by rw [hd];exact hrest)
  · exact (step_ok (o:=o) hT ha hb' h).2 w fun _=>⟨σb,[],hE0⟩
  · refine (step_ok (o:=o) hT ha hb' h).2 w fun hl=>?_
    rw [hl,Bool.and_true] at hk
    rw [List.contains_iff_mem.2 hu] at hk
    cases hk
theorem gb_fork (js:List Nat) (hr:(Region.ready .any ops listed == js)=true) (hne:js.isEmpty=false) (k:∀ j,j∈js->GBK cf ops U bef σb hpb nb n listed j Q σ env hp A nh):GB cf ops U bef σb hpb nb (n+1) listed Q σ env hp A nh:=by
  refine ⟨fun hs hb hbb hnb hle hsub a β ha hex hex0 hc=>?_⟩
  have hr':=eq_of_beq hr
  refine ⟨fun h0=>?_,fun j hj=>(k j (by rw [<-hr'];exact hj)).run hs hb hbb hnb hle hsub a β ha hex hex0 hc hj⟩
  rw [hr'] at h0
  subst h0
  cases hne
theorem gb_one {i:Nat} (hr:(Region.ready .any ops listed == [i])=true) (k:GBK cf ops U bef σb hpb nb n listed i Q σ env hp A nh):GB cf ops U bef σb hpb nb (n+1) listed Q σ env hp A nh :=
  gb_fork [i] hr rfl fun j hj=>by rw [List.mem_singleton] at hj;subst hj;exact k
theorem gb_two {i j:Nat} (hr:(Region.ready .any ops listed == [i,j])=true) (ki:GBK cf ops U bef σb hpb nb n listed i Q σ env hp A nh) (kj:GBK cf ops U bef σb hpb nb n listed j Q σ env hp A nh):GB cf ops U bef σb hpb nb (n+1) listed Q σ env hp A nh :=
  gb_fork [i,j] hr rfl fun m hm=>by
    simp only [List.mem_cons,List.not_mem_nil,or_false] at hm
    rcases hm with rfl | rfl
    · exact ki
    · exact kj
theorem gb_three {i j l:Nat} (hr:(Region.ready .any ops listed == [i,j,l])=true) (ki:GBK cf ops U bef σb hpb nb n listed i Q σ env hp A nh) (kj:GBK cf ops U bef σb hpb nb n listed j Q σ env hp A nh) (kl:GBK cf ops U bef σb hpb nb n listed l Q σ env hp A nh) :
    GB cf ops U bef σb hpb nb (n+1) listed Q σ env hp A nh :=
  gb_fork [i,j,l] hr rfl fun m hm=>by
    simp only [List.mem_cons,List.not_mem_nil,or_false] at hm
    rcases hm with rfl | rfl | rfl
    · exact ki
    · exact kj
    · exact kl
theorem gb_callF {j d:Nat} {o:Oper} {f:FuncId} {ys:List SV} {Φ:Value->Snap->List AE->Prop} (is:List Nat) {A0 Ar:List AE} (hA:reA is A=A0++Ar) (hn:nodupB is=true)
    (hj:ops[j]?=some o) (hc:callee env o.op=some (f,ys)) (hd:o.dst=some d) (hg:guardVal (slotOf ops o) env=some true)
    (hN:Nat.blt d cf.N=true) (hcall:∀ args w,(callFunc f args).run cf.P w=.ok (.enter f args) w) (hlt:LtAll ys) (hC:FnS cf.P f ys σ A0 Φ)
    (k:∀ v σ' A',σ.le σ'->Φ v σ' A'->∃ y:SV,y.lt 0/\y.den β0=v/\GB cf ops U (bef++[j]) σb hpb nb n (listed.setIfInBounds j true) Q σ' ((d,y)::env) hp (A'++Ar) nh):GBK cf ops U bef σb hpb nb n listed j Q σ env hp A nh:=by
  refine ⟨fun hs hb hbb hnb hle hsub a β ha hex hex0 hcl hr=>?_⟩
  obtain ⟨w0,hw0⟩:=id hex0
  have hN':d<cf.N:=by simpa [Nat.blt_eq] using hN
  have den0:∀ {y:SV},y.lt 0->y.den β=y.den β0:=fun hy=>SV.den_congr (n:=0) (fun i hi=>by omega) hy
  have hargs:(ys.map (SV.den β)).toArray=(ys.map (SV.den β0)).toArray:=by
    rw [List.map_congr_left fun y hy=>den0 (hlt.of y hy)]
  have hwant:Region.wanted o (yielded ops a.tmps)=true:=by rw [<-wantedS_slotOf];exact guardVal_ok ha hg
  unfold stepC
  simp only [hj]
  rw [if_pos hwant]
  intro w hw
  have hw2:StW cf σ hp (A0++Ar) β w:=by rw [<-hA];exact hw.reA hn
  unfold Oper.wq
  rw [callee_ok ha hc hcall]
  simp only [Oper.uponIn]
  rw [hargs]
  refine ⟨fun h=>(by cases h),CallsIn.mono (callsIn_FR.2 (hC w hw2.handIn)) fun e w' ⟨v,σ',he,h1,h2,h3,A',h4,h5⟩=>?_⟩
  subst he
  obtain ⟨y,hy,hyv,hk⟩:=k v σ' A' h2.le h4
  have hw':=hw2.through h5
  have hle':=Snap.le_trans hle h2.le
  refine ⟨_,_,hw',fun x hx=>hw0.base hle' hsub hx,.inl fun _ h=>h,?_⟩
  have:=hk.run hs (hb.put (SV.lt_mono (Nat.zero_le _) hy) d) hbb hnb hle' hsub (a.put (some d) (y.den β)) β (ha.put hN' y) ⟨_,hw'⟩ ⟨w0,hw0⟩ (hcl.set hr)
  rw [hd,<-hyv,<-den0 hy]
  exact this
theorem gb_new {j d:Nat} {o:Oper} {T:List (Nat×TI)} (hT:TTok cf.P T) {e:TypeId} {cs:List AT} {x:AT} (hj:ops[j]?=some o) (h:stepOp T o.op env hp nh=some (.new e cs x)) (hd:o.dst=some d) (hg:guardVal (slotOf ops o) env=some true)
    (hN:Nat.blt d cf.N=true) (k:GB cf ops U (bef++[j]) σb hpb nb n (listed.setIfInBounds j true) Q σ ((d,.a x)::env) ((nh,.loc e,cs)::hp) A (nh+1)):GBK cf ops U bef σb hpb nb n listed j Q σ env hp A nh:=by
  refine ⟨fun hs hb hbb hnb hle hsub a β ha hex hex0 hcl hr=>?_⟩
  obtain ⟨w0,hw0⟩:=id hex0
  have hN':d<cf.N:=by simpa [Nat.blt_eq] using hN
  have hwant:Region.wanted o (yielded ops a.tmps)=true:=by rw [<-wantedS_slotOf];exact guardVal_ok ha hg
  obtain ⟨hcs,hx,hrun⟩:=step_ok (o:=o) hT ha hb h
  have hxl:(SV.a x).lt (nh+1):=by
    rcases hx with rfl | ⟨n,rfl⟩<;>exact Nat.lt_succ_self nh
  unfold stepC
  simp only [hj]
  rw [if_pos hwant]
  intro w hw
  unfold Oper.wq
  rw [hrun w]
  have hw':=hw.alloc (e:=e) hb hcs
  have hβ:=upd_old β nh w
  have hβb:∀ i,i<nb->upd β nh w i=β i:=fun i hi=>hβ i (by omega)
  have hβb':∀ i,i<nb->β i=upd β nh w i:=fun i hi=>(hβb i hi).symm
  have hsub':subH hpb ((nh,HK.loc e,cs)::hp):=by
    intro i y hy
    have hlt:=(hb.hp i y.1 y.2 (hsub i y hy)).1
    rw [HP.get_cons,if_neg (by omega)]
    exact hsub i y hy
  have hw0':=hw0.reβ hbb hβb
  refine ⟨_,_,hw',fun x hx=>hw0'.base hle hsub' hx,.inl fun _ h=>h.reβ hbb hβb',?_⟩
  rw [hd]
  exact k.run hs ((hb.mono (Nat.le_succ nh)).row (Nat.lt_succ_self nh) (fun c hc=>AT.lt_mono (Nat.le_succ nh) (hcs c hc)) |>.put hxl d) hbb (by omega) hle hsub' _ (upd β nh w) ((ha.congr hb hβ).put hN' (.a x)) ⟨_,hw'⟩ ⟨_,hw0'⟩ (hcl.set hr)
theorem gb_order (l:List (Nat×Tag)) (hl:(l.all fun p=>decide (p.1<ops.size))=true) (hq:noQuiet (itemsOf ops l)=true) (ho:orderFrom ops U bef l listed=true) (h:OJ cf (itemsOf ops l) Q σ env hp A nh) :
    GB cf ops U bef σb hpb nb l.length listed Q σ env hp A nh:=by
  refine ⟨fun hs hb hbb hnb hle hsub a β ha hex hex0 hc=>?_⟩
  obtain ⟨w0,hw0⟩:=hex0
  have:=run_wider (fun x hx=>hw0.base hle hsub hx) _ _ a hq (h.run hb a β ha hex)
  exact run_order hs l bef listed a _ _ hc (fun x hx=>hw0.base hle hsub hx) (fun p hp=>by simpa using List.all_eq_true.1 hl p hp) ho this
theorem wpAnyC_by_world {P:Program}:∀ (n:Nat) (listed:Array Bool) (a:Act) (E S:World->Prop),(∃ w,S w)->(∀ w,S w->∃ S':World->Prop,S' w/\wpAnyC P ops U Q n listed a E S')->wpAnyC P ops U Q n listed a E S
  | 0,listed,a,E,S,⟨w0,h0⟩,h=>by
    obtain ⟨S0,h1,h2⟩:=h w0 h0
    refine ⟨h2.1,fun w hw=>?_⟩
    obtain ⟨S',h3,h4⟩:=h w hw
    exact h4.2 w h3
  | n+1,listed,a,E,S,hex,h=>by
    refine ⟨fun hr w hw=>?_,fun j hj=>?_⟩
    · obtain ⟨S',h3,h4⟩:=h w hw
      exact h4.1 hr w h3
    · unfold stepC
      cases hop:ops[j]? with
      | none =>
        refine wpAnyC_by_world n _ a E S hex fun w hw=>?_
        obtain ⟨S',h3,h4⟩:=h w hw
        have:=h4.2 j hj
        unfold stepC at this
        rw [hop] at this
        exact ⟨S',h3,this⟩
      | some o =>
        dsimp only
        by_cases hwant:Region.wanted o (yielded ops a.tmps)=true
        · rw [if_pos hwant]
          intro w hw
          obtain ⟨S',h3,h4⟩:=h w hw
          have:=h4.2 j hj
          unfold stepC at this
          rw [hop] at this
          dsimp only at this
          rw [if_pos hwant] at this
          exact this w h3
        · rw [if_neg hwant]
          refine wpAnyC_by_world n _ _ E S hex fun w hw=>?_
          obtain ⟨S',h3,h4⟩:=h w hw
          have:=h4.2 j hj
          unfold stepC at this
          rw [hop] at this
          dsimp only at this
          rw [if_neg hwant] at this
          exact ⟨S',h3,this⟩
theorem gb_seal (i:Nat) {E:AE} {A':List AE} (hi:A[i]?=some E) (hA:A.eraseIdx i=A') (h:∀ σ',σ.le σ'->ArrSealed σ' E->GB cf ops U bef σb hpb nb n listed Q σ' env hp A' nh):GB cf ops U bef σb hpb nb n listed Q σ env hp A nh:=by
  refine ⟨fun hs hb hbb hnb hle hsub a β ha hex hex0 hc=>wpAnyC_by_world _ _ _ _ _ hex fun w hw=>?_⟩
  obtain ⟨σ',h1,h2,h3⟩:=hw.sealArr hi
  rw [hA] at h3
  exact ⟨_,h3,(h σ' h1 h2).run hs hb hbb hnb (Snap.le_trans hle h1) hsub a β ha ⟨_,h3⟩ hex0 hc⟩
theorem gb_own (h:Nat) {e:TypeId} {cs:List AT} (n' sz:Nat) (hrow:hp.get h=some (.loc e,cs)) (hcs:∀ c∈cs,c.lt 0) (hlen:cs.length=n'*sz) (hn:n'<=9223372036854775807) (hsb:hpb.get h=none)
    (k:∀ g,GB cf ops U bef σb hpb nb n listed Q σ (concE h g env) (HP.del h hp) (A++[⟨some ⟨g,0,none⟩,n',n',e,sz,cs.map AT.val⟩]) nh):GB cf ops U bef σb hpb nb n listed Q σ env hp A nh:=by
  refine ⟨fun hs hb hbb hnb hle hsub a β ha hex hex0 hc=>?_⟩
  obtain ⟨w,hw⟩:=hex
  obtain ⟨g,hg⟩:∃ g,β h=⟨g,0,none⟩:=by
    obtain ⟨q1,-,-,-⟩:=hw.loc h e cs hrow
    exact ⟨_,q1⟩
  have hsub':subH hpb (HP.del h hp):=by
    intro i y hy
    rw [HP.del_get]
    split
    · rename_i he
      subst he
      rw [hsb] at hy
      cases hy
    · exact hsub i y hy
  have e1:(fun w=>StW cf σ hp A β w)=fun w=>StW cf σ (HP.del h hp) (A++[⟨some ⟨g,0,none⟩,n',n',e,sz,cs.map AT.val⟩]) β w:=by
    funext w
    exact propext (StW.own hrow hcs hg hlen hn)
  have:=(k g).run hs hb.conc hbb hnb hle hsub' a β (ha.conc hg) ⟨w,(StW.own hrow hcs hg hlen hn).1 hw⟩ hex0 hc
  rw [e1]
  exact this
end
end Go.Sy
/- Bytes as a text, and a text's bytes appended. No program in sight. -/
namespace Go.Sy
theorem tk_slice {P:Program} {t e:TypeId} {ti:TI} (h:tiOf P t=some ti) (hk:ti.kind=.slice e):P.underlying t=some (.slice e):=by
  obtain ⟨i1,d1,z1,hs1⟩:=tiOf_spec h
  have h1:=hs1.kind
  rw [hk] at h1
  have h2:=hs1.und
  cases d1<;>first
    | (simp only [kindD,TK.slice.injEq] at h1;subst h1;exact h2)
    | (simp only [kindD] at h1;cases h1)
theorem tk_u8 {P:Program} {t:TypeId} {ti:TI} (h:tiOf P t=some ti) (hk:ti.kind=.int .u8):P.underlying t=some (.int .u8):=by
  obtain ⟨i1,d1,z1,hs1⟩:=tiOf_spec h
  have h1:=hs1.kind
  rw [hk] at h1
  have h2:=hs1.und
  cases d1<;>first
    | (simp only [kindD,TK.int.injEq] at h1;subst h1;exact h2)
    | (simp only [kindD] at h1;cases h1)
theorem tk_str {P:Program} {t:TypeId} {ti:TI} (h:tiOf P t=some ti) (hk:ti.kind=.str):P.underlying t=some .string:=by
  obtain ⟨i1,d1,z1,hs1⟩:=tiOf_spec h
  have h1:=hs1.kind
  rw [hk] at h1
  have h2:=hs1.und
  cases d1<;>first
    | exact h2
    | (simp only [kindD] at h1;cases h1)
def u8Rows (l:List UInt8):List (List AT):=l.map fun u=>[.v (.int .u8 u.toNat)]
def u8Xs (l:List UInt8):List Value:=l.map fun u=>.int .u8 u.toNat
def u8E (ao:Option Addr) (cap:Nat) (l:List UInt8):AE:=⟨ao,l.length,cap,5,1,u8Xs l⟩
theorem byteRows_u8 (s:ByteArray):byteRows s=u8Rows s.data.toList:=rfl
theorem u8Rows_len (l:List UInt8):(u8Rows l).length=l.length:=by simp [u8Rows]
theorem u8Xs_rows (l:List UInt8):u8Xs l=(u8Rows l).flatten.map AT.val:=by
  induction l with
  | nil=>rfl
  | cons u l ih =>
    show _::u8Xs l=_
    rw [ih]
    rfl
theorem u8Xs_append (a b:List UInt8):u8Xs (a++b)=u8Xs a++u8Xs b:=by simp [u8Xs]
theorem u8Rows_all (l:List UInt8):∀ r∈u8Rows l,r.length=1/\(∀ c∈r,c.lt 0)/\r.all AT.one=true:=by
  intro r hr
  obtain ⟨u,_,rfl⟩:=List.mem_map.1 hr
  exact ⟨rfl,fun c hc=>by rw [List.mem_singleton] at hc;subst hc;trivial,rfl⟩
theorem u8Rows_get {l:List UInt8} {i:Nat} {u:UInt8} (h:l[i]?=some u):(u8Rows l)[i]?=some [.v (.int .u8 u.toNat)]:=by unfold u8Rows;rw [List.getElem?_map,h];rfl
theorem u8_sealed {σ:Snap} {ao:Option Addr} {cap:Nat} {l:List UInt8} (hS:ArrSealed σ (u8E ao cap l)) (hc:l.length<=cap):SlAt σ ao l.length cap 1 (u8Rows l) :=
  hS.sl (u8Xs_rows l) (fun r hr=>⟨(u8Rows_all l r hr).1,(u8Rows_all l r hr).2.1⟩) (u8Rows_len l) rfl hc
section
variable {cf:Cf} {Q:Exit->Act->World->Prop} {σ:Snap} {env:Env} {hp:HP} {A:List AE} {nh:Nat} {it:Item} {rest:List Item}
theorem oj_strOf {d n cap:Nat} {x:Operand} {s t e:TypeId} {T:List (Nat×TI)} (hT:TTok cf.P T) {ts ti te:TI} {ao:Option Addr} {l:List UInt8} (hop:it.o.op=.convert s t x) (hd:it.o.dst=some d) (hg:guardVal it.guard env=some true)
    (hN:Nat.blt d cf.N=true) (htag:(match it.tag with | .pure=>false | _=>true)=true) (hx:evalO env x=some (.a (.v (.slice ao n cap)))) (hs:tget T s=some ts) (hks:ts.kind=.slice e) (hte:tget T e=some te) (hke:te.kind=.int .u8) (ht:tget T t=some ti) (hkt:ti.kind=.str)
    (H:SlAt σ ao n cap 1 (u8Rows l)) (k:OJ cf rest Q σ ((d,.a (.v (.string ⟨l.toArray⟩)))::env) hp A nh):OJ cf (it::rest) Q σ env hp A nh:=by
  refine oj_valW (.a (.v (.string ⟨l.toArray⟩))) hd hg hN trivial htag (fun _ a β ha w hw=>?_) k
  have us:=tk_slice (hT _ _ hs) hks
  have ue:=tk_u8 (hT _ _ hte) hke
  have ut:=tk_str (hT _ _ ht) hkt
  have hx':a.eval x=.slice ao n cap:=evalO_eval ha hx
  have hn:l.length=n:=by rw [<-H.len,u8Rows_len]
  have hrun:(convert s t (.slice ao n cap)).run cf.P w=.ok (.string ⟨l.toArray⟩) w:=by
    subst hn
    cases ao with
    | none =>
      have h0:l.length=0:=by
        rcases H.at_ with h | ⟨ad,h,_⟩
        · exact h
        · cases h
      have:l=[]:=List.eq_nil_of_length_eq_zero h0
      subst this
      exact Lib.run_convert_nil_bytes w s t e cap us ue ut
    | some ad =>
      refine run_convert_bytes_back w s t e ad cap l us ue ut fun j hj=>?_
      rcases H.at_ with h | ⟨ad',h,h2⟩
      · omega
      · injection h with h
        subst h
        have h3:=Snap.cell_sealed hw (h2 j _ 0 _ (u8Rows_get (List.getElem?_eq_getElem hj)) rfl)
        rw [Nat.mul_one,Nat.add_zero] at h3
        exact h3
  simp only [execOp,hop,hx',hrun,Sem.run_bind,Result.andThen_ok,Sem.run_pure]
  rfl
theorem oj_append_str {d:Nat} {s x:Operand} {t u e:Nat} {T:List (Nat×TI)} (hT:TTok cf.P T) {ti tu te:TI} (i:Nat) {E:AE} {ao:Option Addr} {n cap:Nat} {y:ByteArray}
    (hop:appendOf it.o.op=some (s,x,t,u)) (hd:it.o.dst=some d) (hg:guardVal it.guard env=some true) (hN:Nat.blt d cf.N=true) (htg:canSink it.tag=true)
    (hs:evalO env s=some (.a (.v (.slice ao n cap)))) (hx:evalO env x=some (.a (.v (.string y)))) (hA:A[i]?=some E) (hE:(E.ao,E.n,E.cap,E.e)=(ao,n,cap,e))
    (ht:tget T t=some ti) (hkt:ti.kind=.slice e) (hu:tget T u=some tu) (hku:slOrStr tu.kind=true) (hte:tget T e=some te) (hsz:E.sz=te.size) (hs1:te.size=1) (hzl:te.zero.length=te.size)
    (hmax:n+y.size<=9223372036854775807) (hby:(n+y.size)*te.bytes<=140737488355328)
    (hk:∀ ao' cap',n+y.size<=cap'->OJ cf rest Q σ ((d,.a (.v (.slice ao' (n+y.size) cap')))::env) hp (A.set i ⟨ao',n+y.size,cap',E.e,E.sz,E.xs++u8Xs y.data.toList⟩) nh):OJ cf (it::rest) Q σ env hp A nh:=by
  simp only [Prod.mk.injEq] at hE
  obtain ⟨rfl,rfl,rfl,rfl⟩:=hE
  refine oj_step hd hg hN htg fun hb a β ha w hw=>?_
  have hut:=tk_slice (hT _ _ ht) hkt
  obtain ⟨i2,d2,z2,hs2⟩:=tiOf_spec (hT _ _ hu)
  obtain ⟨i3,d3,z3,hs3⟩:=tiOf_spec (hT _ _ hte)
  have hz3:z3.cells.size=E.sz:=by
    have:=zero_den hs3 β
    rw [<-this,hsz]
    simp [hzl]
  have hxe:a.eval x=.string y:=evalO_eval ha hx
  have hse:a.eval s=.slice E.ao E.n E.cap:=evalO_eval ha hs
  have hnl:(u8Xs y.data.toList).length=y.size*E.sz:=by
    rw [hsz,hs1,Nat.mul_one]
    simp only [u8Xs,List.length_map,Array.length_toList]
    rfl
  obtain ⟨ao',cap',w',hrun,hw',hc'⟩:=hw.append hA (t:=t) (u:=u) (ty:=it.o.type) (x:=.string y) (m:=y.size) (news:=u8Xs y.data.toList) hut hs2.und (slOrStr_ok (by rw [hs2.kind];exact hku)) hs3.info hs3.zero
    (by rw [hs3.size,hsz]) hz3 (fun _=>rfl) (fun w'' _=>by
      have e1:(y.extract 0 y.size)=y:=ByteArray.extract_zero_size
      simp only [Builtin.firstCells,Sem.run_pure,e1]
      congr 1
      apply Array.ext'
      simp [u8Xs]) hnl
    (fun v hv=>by obtain ⟨c,_,rfl⟩:=List.mem_map.1 hv;rfl) (by simp only [maxLen];exact hmax) (by rw [hs3.bytes];exact hby)
  refine ⟨.a (.v (.slice ao' (E.n+y.size) cap')),σ,hp,_,nh,w',β,?_,ha,hb.put (x:=.a (.v (.slice ao' (E.n+y.size) cap'))) trivial d,hw',hk ao' cap' hc'⟩
  exact appendOf_run hop (by rw [hse,hxe];exact hrun)
end
theorem run_compl8 (c:UInt8) (w:World) (P:Program):(Op.unary .xor (.int .u8 (c.toNat:Int))).run P w=.ok (.int .u8 ((255 - c).toNat:Int)) w:=by
  have h:∀ n:Fin 256,IntKind.u8.wrap ((BitVec.ofInt 8 255 ^^^ BitVec.ofInt 8 (n.val:Int)).toNat:Int)=((255 - UInt8.ofNat n.val).toNat:Int):=by decide +kernel
  have h2:=h ⟨c.toNat,c.toNat_lt⟩
  have e:UInt8.ofNat c.toNat=c:=by simp
  rw [e] at h2
  show (Op.intBits .xor .u8 255 (c.toNat:Int)).run P w=_
  have h3:(Op.intBits .xor .u8 255 (c.toNat:Int)).run P w=.ok (.int .u8 (IntKind.u8.wrap ((BitVec.ofInt 8 255 ^^^ BitVec.ofInt 8 (c.toNat:Int)).toNat:Int))) w:=rfl
  rw [h3,h2]
section
variable {cf:Cf} {Q:Exit->Act->World->Prop} {σ:Snap} {env:Env} {hp:HP} {A:List AE} {nh:Nat} {it:Item} {rest:List Item}
theorem oj_compl8 {d:Nat} {x:Operand} {t:TypeId} {c:UInt8} (hop:it.o.op=.unOp .xor t x) (hd:it.o.dst=some d) (hg:guardVal it.guard env=some true) (hN:Nat.blt d cf.N=true)
    (hx:evalO env x=some (.a (.v (.int .u8 (c.toNat:Int))))) (hk:OJ cf rest Q σ ((d,.a (.v (.int .u8 ((255 - c).toNat:Int))))::env) hp A nh):OJ cf (it::rest) Q σ env hp A nh:=by
  refine oj_val (.a (.v (.int .u8 ((255 - c).toNat:Int)))) hd hg hN trivial (fun _ a β ha w=>?_) hk
  have h1:a.eval x=.int .u8 (c.toNat:Int):=evalO_eval ha hx
  simp only [execOp,hop,h1,run_compl8,Sem.run_bind,Sem.run_pure,Result.andThen_ok]
  rfl
end
section
variable {cf:Cf} {Q:Exit->Act->World->Prop} {σ σb:Snap} {env:Env} {hp hpb:HP} {A:List AE} {nh nb cnt:Nat} {ops:Array Oper} {U bef:List Nat} {listed:Array Bool}
theorem gb_step {j d:Nat} {o:Oper} (hj:ops[j]?=some o) (hd:o.dst=some d) (hg:guardVal (slotOf ops o) env=some true) (hN:Nat.blt d cf.N=true)
    (h:Bd env hp nh->∀ a β,StA cf env β a->∀ w,StW cf σ hp A β w->∃ (y:SV) (A':List AE) (w':World),(execOp a.eval o).run cf.P w=.ok (.value (y.den β)) w'/\y.lt 0/\StW cf σ hp A' β w'/\GB cf ops U (bef++[j]) σb hpb nb cnt (listed.setIfInBounds j true) Q σ ((d,y)::env) hp A' nh) :
    GBK cf ops U bef σb hpb nb cnt listed j Q σ env hp A nh:=by
  refine ⟨fun hs hb hbb hnb hle hsub a β ha hex hex0 hcl hr=>?_⟩
  obtain ⟨w0,hw0⟩:=id hex0
  have hN':d<cf.N:=by simpa [Nat.blt_eq] using hN
  have hwant:Region.wanted o (yielded ops a.tmps)=true:=by rw [<-wantedS_slotOf];exact guardVal_ok ha hg
  unfold stepC
  simp only [hj]
  rw [if_pos hwant]
  intro w hw
  obtain ⟨y,A',w',hrun,hy,hw',hk⟩:=h hb a β ha w hw
  unfold Oper.wq
  rw [hrun]
  refine ⟨_,_,hw',fun x hx=>hw0.base hle hsub hx,.inl fun _ h=>h,?_⟩
  rw [hd]
  exact hk.run hs (hb.put (SV.lt_mono (Nat.zero_le _) hy) d) hbb hnb hle hsub (a.put (some d) (y.den β)) β (ha.put hN' y) ⟨_,hw'⟩ ⟨w0,hw0⟩ (hcl.set hr)
theorem gb_append_lit {q d:Nat} {o:Oper} {s x:Operand} {t u e:Nat} {T:List (Nat×TI)} (hT:TTok cf.P T) {ti tu te:TI} (i:Nat) {E:AE} {ao:Option Addr} {n cap j m:Nat} {k:HK} {cs:List AT}
    (hj:ops[q]?=some o) (hop:appendOf o.op=some (s,x,t,u)) (hd:o.dst=some d) (hg:guardVal (slotOf ops o) env=some true) (hN:Nat.blt d cf.N=true)
    (hs:evalO env s=some (.a (.v (.slice ao n cap)))) (hx:evalO env x=some (.a (.sl j m))) (hrow:hp.get j=some (k,cs)) (hA:A[i]?=some E) (hE:(E.ao,E.n,E.cap,E.e)=(ao,n,cap,e))
    (ht:tget T t=some ti) (hkt:ti.kind=.slice e) (hu:tget T u=some tu) (hku:slOrStr tu.kind=true) (hte:tget T e=some te) (hsz:E.sz=te.size) (hzl:te.zero.length=te.size) (hcs:cs.length=m*te.size)
    (hclo:∀ c∈cs,c.lt 0) (hone:cs.all AT.one=true) (hmax:n+m<=9223372036854775807) (hby:(n+m)*te.bytes<=140737488355328)
    (hk:∀ ao' cap',n+m<=cap'->GB cf ops U (bef++[q]) σb hpb nb cnt (listed.setIfInBounds q true) Q σ ((d,.a (.v (.slice ao' (n+m) cap')))::env) hp (A.set i ⟨ao',n+m,cap',E.e,E.sz,E.xs++cs.map AT.val⟩) nh):GBK cf ops U bef σb hpb nb cnt listed q Q σ env hp A nh:=by
  simp only [Prod.mk.injEq] at hE
  obtain ⟨rfl,rfl,rfl,rfl⟩:=hE
  refine gb_step hj hd hg hN fun hb a β ha w hw=>?_
  obtain ⟨i1,d1,z1,hs1⟩:=tiOf_spec (hT _ _ ht)
  obtain ⟨i2,d2,z2,hs2⟩:=tiOf_spec (hT _ _ hu)
  obtain ⟨i3,d3,z3,hs3⟩:=tiOf_spec (hT _ _ hte)
  have hut:cf.P.underlying t=some (.slice E.e):=by
    have h1:=hs1.kind
    rw [hkt] at h1
    have h2:=hs1.und
    cases d1<;>first
      | (simp only [kindD,TK.slice.injEq] at h1;subst h1;exact h2)
      | (simp only [kindD] at h1;cases h1)
  have hz3:z3.cells.size=E.sz:=by
    have:=zero_den hs3 β
    rw [<-this,hsz]
    simp [hzl]
  have hcells:∀ j' v,(cs.map AT.val)[j']?=some v->w.cell? ((β j).add j')=some v:=by
    intro j' v hv
    rw [List.getElem?_map] at hv
    obtain ⟨c,hc,rfl⟩:=map_some hv
    rw [<-AT.den_val (hclo c (List.mem_of_getElem? hc)) β]
    exact hw.cell hrow hc
  have hnl:(cs.map AT.val).length=m*E.sz:=by rw [List.length_map,hcs,hsz]
  have hxe:a.eval x=.slice (some (β j)) m m:=evalO_eval ha hx
  have hse:a.eval s=.slice E.ao E.n E.cap:=evalO_eval ha hs
  obtain ⟨ao',cap',w',hrun,hw',hc'⟩:=hw.append hA (t:=t) (u:=u) (ty:=o.type) (x:=.slice (some (β j)) m m) (m:=m) (news:=cs.map AT.val) hut hs2.und (slOrStr_ok (by rw [hs2.kind];exact hku)) hs3.info hs3.zero
    (by rw [hs3.size,hsz]) hz3 (fun _=>rfl) (fun w'' hh=>run_firstCells_some (P:=cf.P) w'' E.sz m (β j) m m _ hnl fun j' v hv=>by
      have:=hcells j' v hv
      rw [World.cell?,hh];exact this) hnl
    (fun v hv=>by obtain ⟨c,hc,rfl⟩:=List.mem_map.1 hv;exact AT.one_den β0 (List.all_eq_true.1 hone c hc)) (by simp only [maxLen];exact hmax) (by rw [hs3.bytes];exact hby)
  refine ⟨.a (.v (.slice ao' (E.n+m) cap')),_,w',?_,trivial,hw',hk ao' cap' hc'⟩
  exact appendOf_run hop (by rw [hse,hxe];exact hrun)
end
end Go.Sy
namespace Go.Sy
open Go.Proofs
def paCells (p:GPart):List AT:=[.v (.int .i64 p.kd),.b p.b,.b p.n.neg,.v (.string p.n.dg),.v (.int .i64 p.n.ex),.v (.string p.s),.v (.int .i64 p.i)]
theorem paCells_lt (n:Nat) (p:GPart):∀ c∈paCells p,c.lt n:=by simp [paCells,AT.lt]
def paRows (l:List GPart):List (List AT):=l.map paCells
theorem paRows_get {l:List GPart} {i:Nat} {x:GPart} (h:l[i]?=some x):(paRows l)[i]?=some (paCells x):=by unfold paRows;rw [List.getElem?_map,h];rfl
theorem paRows_all (l:List GPart):∀ r∈paRows l,r.length=7/\(∀ c∈r,c.lt 0)/\r.all AT.one=true:=by
  intro r hr
  obtain ⟨x,_,rfl⟩:=List.mem_map.1 hr
  exact ⟨rfl,paCells_lt 0 x,rfl⟩
def paXs (l:List GPart):List Value:=(paRows l).flatten.map AT.val
def paVals (p:GPart):Array Value:=#[.int .i64 p.kd,.bool p.b,.bool p.n.neg,.string p.n.dg,.int .i64 p.n.ex,.string p.s,.int .i64 p.i]
theorem run_partB {P:Program} {w:World} {t:TypeId} {xs:Array Value} {o n:Nat} {d:TypeDesc} (hu:P.underlying t=some d) (hd:aggD d=true) (hn:P.cellsOf t=n):(part t xs o).run P w=.ok (.agg (xs.extract o (o+n))) w:=by
  simp only [part,Sem.run_bind,run_isAgg hu,hd,Result.andThen_ok,if_true,run_sizeB hn hu,Sem.run_pure]
structure PartT (t:Nat):Prop where
  und:Tryz.prog.underlying t=some (.struct (Tryz.prog.fieldsOf t))
  held:Tryz.prog.stoodInHeld t=false
  grd:Tryz.prog.eqGuardType Tryz.prog.depth t=false
  fs:fieldsAre (Tryz.prog.fieldsOf t).toList [(3,0),(4,1),(24,2),(9,5),(3,6)]=true
theorem und23c:Tryz.prog.cellsOf 24=3:=by kernel_rfl
theorem eqPart_ok {t:Nat} (ht:PartT t) (m:Nat) (a b:GPart) (w:World):(Op.equalIn (m+1+1+1) t (.agg (paVals a)) (.agg (paVals b))).run Tryz.prog w=.ok (decide (a=b)) w:=by
  rw [run_equalIn_agg w (m+1+1) t _ _ ht.und ht.held]
  have h:=ht.fs
  generalize (Tryz.prog.fieldsOf t).toList=fl at h
  obtain ⟨f0,fl,rfl,n0,t0,o0,h⟩:=fieldsAre_cons h
  obtain ⟨f1,fl,rfl,n1,t1,o1,h⟩:=fieldsAre_cons h
  obtain ⟨f2,fl,rfl,n2,t2,o2,h⟩:=fieldsAre_cons h
  obtain ⟨f3,fl,rfl,n3,t3,o3,h⟩:=fieldsAre_cons h
  obtain ⟨f4,fl,rfl,n4,t4,o4,h⟩:=fieldsAre_cons h
  cases fl with
  | cons _ _=>cases h
  | nil =>
    have ii:∀ (f:Field) (o:Nat) (r:GPart) (x:Int),f.type=3->f.offset=o->(paVals r)[o]?=some (.int .i64 x)->(part f.type (paVals r) f.offset).run Tryz.prog w=.ok (.int .i64 x) w:=fun f o r x ht ho hx=>run_part1 (by rw [ht];exact und3) rfl (by rw [ho];exact hx)
    have bb:∀ (f:Field) (o:Nat) (r:GPart) (x:Bool),f.type=4->f.offset=o->(paVals r)[o]?=some (.bool x)->(part f.type (paVals r) f.offset).run Tryz.prog w=.ok (.bool x) w:=fun f o r x ht ho hx=>run_part1 (by rw [ht];exact und4) rfl (by rw [ho];exact hx)
    have ss:∀ (f:Field) (o:Nat) (r:GPart) (x:ByteArray),f.type=9->f.offset=o->(paVals r)[o]?=some (.string x)->(part f.type (paVals r) f.offset).run Tryz.prog w=.ok (.string x) w:=fun f o r x ht ho hx=>run_part1 (by rw [ht];exact und9) rfl (by rw [ho];exact hx)
    have dd:∀ (r:GPart),(part f2.type (paVals r) f2.offset).run Tryz.prog w=.ok (.agg #[.bool r.n.neg,.string r.n.dg,.int .i64 r.n.ex]) w:=fun r=>by
      rw [run_partB (n:=3) (by rw [t2];exact und23) rfl (by rw [t2];exact und23c),o2]
      rfl
    rw [eqFields_cons (r:=a.kd == b.kd) n0 (ii f0 0 a _ t0 o0 rfl) (ii f0 0 b _ t0 o0 rfl) (run_equalIn_int w (m+1) f0.type .i64 .i64 a.kd b.kd (by rw [t0];exact und3))]
    rw [eqFields_cons (r:=a.b == b.b) n1 (bb f1 1 a _ t1 o1 rfl) (bb f1 1 b _ t1 o1 rfl) (run_equalIn_bool' w (m+1) f1.type a.b b.b (by rw [t1];exact und4))]
    rw [eqFields_cons (r:=decide (a.n=b.n)) n2 (dd a) (dd b) (by rw [t2];exact eqDec_ok m a.n b.n w)]
    rw [eqFields_cons (r:=decide (a.s=b.s)) n3 (ss f3 5 a _ t3 o3 rfl) (ss f3 5 b _ t3 o3 rfl) (run_eqStr (m+1) f3.type a.s b.s (by rw [t3];exact und9))]
    rw [eqFields_cons (r:=a.i == b.i) n4 (ii f4 6 a _ t4 o4 rfl) (ii f4 6 b _ t4 o4 rfl) (run_equalIn_int w (m+1) f4.type .i64 .i64 a.i b.i (by rw [t4];exact und3))]
    simp only [Op.eqFields,Sem.run_pure]
    have:(decide (a=b))=(a.kd == b.kd&&(a.b == b.b&&(decide (a.n=b.n)&&(decide (a.s=b.s)&&a.i == b.i)))):=by
      rw [Bool.eq_iff_iff]
      cases a;cases b
      simp
    rw [this]
    cases (a.kd == b.kd)<;>cases (a.b == b.b)<;>cases decide (a.n=b.n)<;>cases decide (a.s=b.s)<;>cases (a.i == b.i)<;>rfl
section
variable {cf:Cf} {Q:Exit->Act->World->Prop} {σ:Snap} {env:Env} {hp:HP} {A:List AE} {nh:Nat} {it:Item} {rest:List Item}
theorem oj_eqPart {t:Nat} (ht:PartT t) {d:Nat} {x y:Operand} {yt:TypeId} {ca cb:List AT} (a b:GPart) (hP:cf.P=Tryz.prog)
    (hop:it.o.op=.binOp .eql t x y yt) (hd:it.o.dst=some d) (hg:guardVal it.guard env=some true) (hN:Nat.blt d cf.N=true) (hx:evalO env x=some (.agg ca)) (hy:evalO env y=some (.agg cb))
    (hca:∀ β,ca.map (AT.den β)=(paCells a).map (AT.den β)) (hcb:∀ β,cb.map (AT.den β)=(paCells b).map (AT.den β))
    (hk:OJ cf rest Q σ ((d,.a (.b (decide (a=b))))::env) hp A nh):OJ cf (it::rest) Q σ env hp A nh:=by
  refine oj_val (.a (.b (decide (a=b)))) hd hg hN trivial (fun _ ac β ha w=>?_) hk
  have h1:ac.eval x=.agg (paVals a):=(evalO_eval ha hx).trans (by simp only [SV.den,hca];rfl)
  have h2:ac.eval y=.agg (paVals b):=(evalO_eval ha hy).trans (by simp only [SV.den,hcb];rfl)
  rw [hP]
  have hG:(eqGuard .eql t x y (.agg (paVals a)) (.agg (paVals b))).run Tryz.prog w=.ok () w:=run_eqGuard_agg w _ _ _ _ _ _ ht.grd
  have hE:(Op.equalIn 10000 t (.agg (paVals a)) (.agg (paVals b))).run Tryz.prog w=.ok (decide (a=b)) w:=eqPart_ok ht 9997 a b w
  have hB:(binOp .eql t (.agg (paVals a)) (.agg (paVals b))).run Tryz.prog w=.ok (.bool (decide (a=b))) w:=by
    rw [run_eql_struct,hE]
    rfl
  simp only [execOp,hop,h1,h2,Sem.run_bind,hG,hB,Result.andThen_ok,Sem.run_pure]
  rfl
end
theorem partT49:PartT 99:=⟨by kernel_rfl,by kernel_rfl,by kernel_rfl,by kernel_rfl⟩
set_option maxRecDepth 100000 in
set_option maxHeartbeats 2000000 in
theorem right_c (σ:Snap) (p:GPart) (hd:p.n.dg.size<=mostLen):PlainS Tryz.prog 218 [.agg (paCells p)] σ (fun v=>v=.bool (rightG p)):=by
  obtain ⟨kd,b,n,s,i⟩:=p
  refine enter_p Tryz.func218 rfl rfl ⟨paCells_lt 0 _,trivial⟩ fun w=>?_
  (repeat (first | refine cj_seq ?_ | refine cjr TT rfl ?_ | refine oj_then ?_ | refine cj_block ?_))
  refine cj_if rfl (fun h=>?_) (fun h0=>?_)
  · have h:=of_decide_eq_true (show decide (kd=0)=true from h)
    (repeat (first | refine cj_seq ?_ | refine cjr TT rfl ?_ | refine cj_skip ?_ | refine nj_then ?_ | refine nj_block ?_))
    refine oj_eqPart partT49 ⟨0,b,n,s,i⟩ part0 rfl rfl rfl rfl rfl rfl rfl (fun _=>rfl) (fun _=>rfl) (oj_run TT rfl ?_)
    (repeat (first | refine oj_then ?_ | refine cj_ret ?_))
    refine nj_ret TT rfl fun β w' _ _=>?_
    subst h
    rfl
  have h0:=of_decide_eq_false (show decide (kd=0)=false from h0)
  (repeat (first | refine cj_seq ?_ | refine cjr TT rfl ?_ | refine oj_then ?_))
  refine cj_if rfl (fun h=>?_) (fun h1=>?_)
  · have h:=of_decide_eq_true (show decide (kd=1)=true from h)
    (repeat (first | refine cj_seq ?_ | refine cjr TT rfl ?_ | refine oj_nil ?_ | refine nj_then ?_ | refine nj_block ?_))
    refine oj_eqPart partT49 ⟨0,false,n,s,i⟩ part0 rfl rfl rfl rfl rfl rfl rfl (fun _=>rfl) (fun _=>rfl) (oj_run TT rfl ?_)
    (repeat (first | refine oj_then ?_ | refine cj_ret ?_))
    refine nj_ret TT rfl fun β w' _ _=>?_
    subst h
    rfl
  have h1:=of_decide_eq_false (show decide (kd=1)=false from h1)
  (repeat (first | refine cj_seq ?_ | refine cjr TT rfl ?_ | refine oj_then ?_))
  refine cj_if rfl (fun h=>?_) (fun h2=>?_)
  · have h:=of_decide_eq_true (show decide (kd=2)=true from h)
    (repeat (first | refine cj_seq ?_ | refine cjr TT rfl ?_ | refine oj_then ?_))
    refine oj_eqPart partT49 ⟨0,b,dec0,s,i⟩ part0 rfl rfl rfl rfl rfl rfl rfl (fun _=>rfl) (fun _=>rfl) (oj_run TT rfl ?_)
    refine oj_split 20 rfl (fun hq=>?_) (fun hq=>?_)
    · have hq:decide ((⟨0,b,dec0,s,i⟩:GPart)=part0)=true:=hq
      refine oj_run TT rfl ?_
      refine oj_callP rfl rfl rfl rfl rfl Tryz.call228 (by (repeat' (first | exact trivial | exact decCells_lt _ _ | constructor))) (decSane_c σ n hd) fun v hv=>⟨.a (.b (decSane n)),trivial,hv.symm,?_⟩
      refine oj_run TT rfl ?_
      (repeat (first | refine oj_then ?_ | refine cj_ret ?_ | refine nj_then_ret ?_ | refine nj_block_ret ?_))
      refine nj_ret TT rfl fun β w' _ _=>?_
      subst h
      show Value.bool (decSane n)=.bool (decide ((⟨0,b,dec0,s,i⟩:GPart)=part0)&&decSane n)
      rw [hq,Bool.true_and]
    · have hq:decide ((⟨0,b,dec0,s,i⟩:GPart)=part0)=false:=hq
      refine oj_run TT rfl ?_
      (repeat (first | refine oj_then ?_ | refine cj_ret ?_ | refine nj_then_ret ?_ | refine nj_block_ret ?_))
      refine nj_ret TT rfl fun β w' _ _=>?_
      subst h
      show Value.bool false=.bool (decide ((⟨0,b,dec0,s,i⟩:GPart)=part0)&&decSane n)
      rw [hq,Bool.false_and]
  have h2:=of_decide_eq_false (show decide (kd=2)=false from h2)
  (repeat (first | refine cj_seq ?_ | refine cjr TT rfl ?_ | refine oj_then ?_))
  refine cj_if rfl (fun h=>?_) (fun h3=>?_)
  · have h:=of_decide_eq_true (show decide (kd=3)=true from h)
    (repeat (first | refine cj_seq ?_ | refine cjr TT rfl ?_ | refine oj_nil ?_ | refine nj_then ?_ | refine nj_block ?_))
    refine oj_eqPart partT49 ⟨0,b,n,emptyB,i⟩ part0 rfl rfl rfl rfl rfl rfl rfl (fun _=>rfl) (fun _=>rfl) (oj_run TT rfl ?_)
    (repeat (first | refine oj_then ?_ | refine cj_ret ?_))
    refine nj_ret TT rfl fun β w' _ _=>?_
    subst h
    rfl
  have h3:=of_decide_eq_false (show decide (kd=3)=false from h3)
  (repeat (first | refine cj_seq ?_ | refine cjr TT rfl ?_ | refine oj_then ?_))
  refine cj_if rfl (fun h=>?_) (fun h9=>?_)
  · have h:=of_decide_eq_true (show decide (kd=9)=true from h)
    (repeat (first | refine cj_seq ?_ | refine cjr TT rfl ?_ | refine oj_then ?_))
    refine oj_eqPart partT49 ⟨0,b,n,s,0⟩ part0 rfl rfl rfl rfl rfl rfl rfl (fun _=>rfl) (fun _=>rfl) (oj_run TT rfl ?_)
    refine oj_split 34 rfl (fun hq=>?_) (fun hq=>?_)
    · have hq:decide ((⟨0,b,n,s,0⟩:GPart)=part0)=true:=hq
      refine oj_run TT rfl ?_
      refine oj_split 39 rfl (fun hi=>?_) (fun hi=>?_)
      · have hi:decide (0<=i)=true:=hi
        refine oj_run TT rfl ?_
        (repeat (first | refine oj_then ?_ | refine cj_ret ?_ | refine nj_then_ret ?_ | refine nj_block_ret ?_))
        refine nj_ret TT rfl fun β w' _ _=>?_
        subst h
        show Value.bool (decide (i<=4294967295))=.bool (decide ((⟨0,b,n,s,0⟩:GPart)=part0)&&decide (0<=i)&&decide (i<=4294967295))
        rw [hq,hi,Bool.true_and,Bool.true_and]
      · have hi:decide (0<=i)=false:=hi
        refine oj_run TT rfl ?_
        (repeat (first | refine oj_then ?_ | refine cj_ret ?_ | refine nj_then_ret ?_ | refine nj_block_ret ?_))
        refine nj_ret TT rfl fun β w' _ _=>?_
        subst h
        show Value.bool false=.bool (decide ((⟨0,b,n,s,0⟩:GPart)=part0)&&decide (0<=i)&&decide (i<=4294967295))
        rw [hi,Bool.and_false,Bool.false_and]
    · have hq:decide ((⟨0,b,n,s,0⟩:GPart)=part0)=false:=hq
      refine oj_run TT rfl ?_
      (repeat (first | refine oj_then ?_ | refine cj_ret ?_ | refine nj_then_ret ?_ | refine nj_block_ret ?_))
      refine nj_ret TT rfl fun β w' _ _=>?_
      subst h
      show Value.bool false=.bool (decide ((⟨0,b,n,s,0⟩:GPart)=part0)&&decide (0<=i)&&decide (i<=4294967295))
      rw [hq,Bool.false_and,Bool.false_and]
  have h9:=of_decide_eq_false (show decide (kd=9)=false from h9)
  (repeat (first | refine cj_seq ?_ | refine cjr TT rfl ?_ | refine oj_then ?_ | refine cj_ret ?_ | refine nj_then_ret ?_ | refine nj_block_ret ?_))
  refine nj_ret TT rfl fun β w' _ _=>?_
  unfold rightG
  dsimp only
  rw [if_neg h0,if_neg h1,if_neg h2,if_neg h3,if_neg h9]
  rfl
end Go.Sy
namespace Go.Sy
open Go.Proofs
def fillK (l:List UInt8) (k:Nat):List UInt8:=l.take k++List.replicate (l.length - k) 0
theorem fillK_all (l:List UInt8):fillK l l.length=l:=by unfold fillK;simp
theorem fillK_set {l:List UInt8} {k:Nat} {x:UInt8} (h:l[k]?=some x):(fillK l k).set k x=fillK l (k+1):=by
  obtain ⟨hk,he⟩:=List.getElem?_eq_some_iff.1 h
  unfold fillK
  have hl:(l.take k).length=k:=by rw [List.length_take];omega
  rw [List.take_succ_eq_append_getElem hk,he,show l.length - k=(l.length - (k+1))+1 by omega,List.replicate_succ,List.set_append_right _ _ (by omega),hl,Nat.sub_self,List.set_cons_zero,List.append_assoc]
  rfl
theorem u8Xs_set (l:List UInt8) (k:Nat) (x:UInt8):(u8Xs l).set k (.int .u8 (x.toNat:Int))=u8Xs (l.set k x):=by
  unfold u8Xs
  rw [List.map_set]
theorem u8Xs_zeros (n:Nat):(List.replicate n ([.int .u8 0]:List Value)).flatten=u8Xs (List.replicate n 0):=by
  induction n with
  | zero=>rfl
  | succ n ih =>
    rw [List.replicate_succ,List.replicate_succ,List.flatten_cons,ih]
    rfl
theorem turnG_get {l:List UInt8} {k:Nat} {x:UInt8} (h:l[k]?=some x):(turnG l)[k]?=some (255 - x):=by unfold turnG;rw [List.getElem?_map,h];rfl
theorem turnG_len (l:List UInt8):(turnG l).length=l.length:=by simp [turnG]
set_option maxRecDepth 100000 in
set_option maxHeartbeats 2000000 in
theorem turned_c (σ:Snap) (l:List UInt8) (hl:l.length<=1000000) (ao:Option Addr) (cap:Nat) (H:SlAt σ ao l.length cap 1 (u8Rows l)) :
    PureS Tryz.prog 237 [.a (.v (.slice ao l.length cap))] σ (fun v σ'=>∃ bo bc,v=.slice bo l.length bc/\SlAt σ' bo l.length bc 1 (u8Rows (turnG l))):=by
  refine enter_s Tryz.func237 rfl rfl (by (repeat' (first | exact trivial | constructor))) fun w=>?_
  (repeat (first | refine cj_seq ?_ | refine cjr TT rfl ?_ | refine oj_then ?_))
  refine oj_makeSliceN (n:=l.length) TT _ rfl rfl rfl rfl rfl rfl rfl rfl rfl rfl (by show l.length*1<=_;omega) (by omega) (madeCells_rep [.int .u8 0] l.length) fun g=>?_
  rw [u8Xs_zeros]
  refine oj_run TT rfl ?_
  (repeat (first | refine cj_seq ?_ | refine cjr TT rfl ?_ | refine oj_then ?_ | refine cj_block ?_))
  refine cj_loop (fun (_:Nat)=>σ) (fun k=>[(3,.a (.v (.slice (some ⟨g,0,none⟩) l.length l.length))),(9,.a (.v (.slice ao l.length cap))),(10,.a (.v (.int .i64 l.length))),(11,.a (.v (.int .i64 (k:Nat))))]) (fun _=>[]) (fun k=>[⟨some ⟨g,0,none⟩,l.length,l.length,5,1,u8Xs (fillK (turnG l) k)⟩]) 0
    (fun k=>k<=l.length) (fun k=>l.length - k) 0 (Nat.zero_le _) rfl (by (repeat first | exact trivial | refine ⟨rfl,?_⟩)) (by (repeat first | exact trivial | refine ⟨rfl,?_⟩)) (by unfold fillK;rw [turnG_len];rfl) (by (repeat' (first | exact trivial | constructor))) (by (repeat' exact trivial)) fun k hk=>?_
  (repeat (first | refine cj_seq ?_ | refine cjr TT rfl ?_ | refine oj_then ?_))
  refine cj_if rfl (fun h=>?_) (fun h=>?_)
  rotate_left
  · have hk0:k=l.length:=by have:=of_decide_eq_false h;omega
    have e:fillK (turnG l) k=turnG l:=by rw [hk0,<-turnG_len l,fillK_all]
    rw [e]
    (repeat (first | refine cj_seq ?_ | refine cjr TT rfl ?_ | refine oj_then ?_ | refine cj_exit ?_ | refine cj_ret ?_ | refine nj_then ?_ | refine nj_then_exit ?_ | refine nj_block_out ?_))
    refine nj_seal 0 rfl rfl fun s1 hle1 hS=>?_
    refine nj_ret TT rfl fun β w' _ _=>?_
    have hS:ArrSealed s1 (u8E (some ⟨g,0,none⟩) l.length (turnG l)):=by unfold u8E;rw [turnG_len];exact hS
    have:=u8_sealed hS (by rw [turnG_len];exact Nat.le_refl _)
    rw [turnG_len] at this
    exact ⟨_,_,rfl,this⟩
  have hkl:k<l.length:=by have:=of_decide_eq_true h;omega
  have hx:=List.getElem?_eq_getElem hkl
  have hrow:=u8Rows_get hx
  have hset:=fillK_set (turnG_get hx)
  generalize l[k]=x at *
  (repeat (first | refine cj_seq ?_ | refine cjr TT rfl ?_ | refine cj_skip ?_ | refine cj_block ?_ | refine nj_then ?_))
  refine oj_idx TT rfl rfl rfl rfl rfl rfl rfl rfl rfl H (by omega) hrow (oj_run TT rfl ?_)
  (repeat (first | refine cjr TT rfl ?_ | refine oj_then ?_))
  refine oj_compl8 rfl rfl rfl rfl rfl (oj_run TT rfl ?_)
  refine oj_indexAddr TT rfl rfl rfl rfl rfl rfl rfl rfl rfl ⟨by omega,by omega⟩ (oj_run TT rfl ?_)
  refine oj_stA 0 (off:=k) (A':=[⟨some ⟨g,0,none⟩,l.length,l.length,5,1,u8Xs (fillK (turnG l) (k+1))⟩]) (c:=.v (.int .u8 ((255 - x).toNat:Int))) TT rfl rfl rfl rfl (by rw [add0];show some (SV.a (AT.v (.pointer (some ⟨g,((k:Nat):Int).toNat*1,none⟩))))=_;rw [Nat.mul_one];rfl) rfl rfl rfl rfl rfl (by show k<l.length*1;omega) trivial rfl (by rw [<-hset,<-u8Xs_set];rfl) (oj_run TT rfl ?_)
  (repeat (first | refine cjr TT rfl ?_ | refine oj_nil ?_ | refine nj_then ?_ | refine nj_block ?_ | (refine oj_add rfl rfl rfl rfl rfl rfl (by omega) ?_;refine oj_run TT rfl ?_)))
  refine nj_again (k+1) hkl (by omega) rfl (by (repeat first | exact trivial | refine ⟨rfl,?_⟩)) (by (repeat first | exact trivial | refine ⟨rfl,?_⟩)) rfl (by (repeat' (first | exact trivial | constructor))) (by (repeat' exact trivial))
theorem wrap8 (x:Int):IntKind.u8.wrap x=((byteOf x).toNat:Int):=by
  rw [byteOf_nat]
  rfl
theorem shr8 (h:Int):bShr .i64 h 8=h / 256:=by
  show h.fdiv 256=_
  rw [Int.fdiv_eq_ediv_of_nonneg _ (by decide)]
theorem wrap8_sub:∀ c:UInt8,IntKind.u8.wrap ((c.toNat:Int) - 48)=((c - 48).toNat:Int):=all8 (by decide +kernel)
theorem wrap8_inc:∀ c:UInt8,IntKind.u8.wrap ((c.toNat:Int)+1)=((c+1).toNat:Int):=all8 (by decide +kernel)
def szK (h:Int) (l:List UInt8) (k:Nat):List UInt8:=byteOf (h / 256)::byteOf h::(l.take k).map (fun c=>c - 48+1)
theorem szK_len (h:Int) (l:List UInt8) (k:Nat):(szK h l k).length<=2+l.length:=by
  unfold szK
  rw [List.length_cons,List.length_cons,List.length_map,List.length_take]
  omega
theorem szK_succ {h:Int} {l:List UInt8} {k:Nat} {c:UInt8} (hc:l[k]?=some c):szK h l (k+1)=szK h l k++[c - 48+1]:=by
  obtain ⟨hk,he⟩:=List.getElem?_eq_some_iff.1 hc
  unfold szK
  rw [List.take_succ_eq_append_getElem hk,he,List.map_append]
  rfl
structure SzS where
  k:Nat
  oo:Option Addr
  oc:Nat
set_option maxRecDepth 100000 in
set_option maxHeartbeats 2000000 in
theorem size_c (σ:Snap) (d:GDec) (hs:decSane d=true) (h0:d.dg.size≠0):PureS Tryz.prog 238 [.agg (decCells d)] σ (fun v σ'=>∃ ao cap,v=.slice ao (sizeG d).length cap/\SlAt σ' ao (sizeG d).length cap 1 (u8Rows (sizeG d))):=by
  obtain ⟨hdig,h1,h2⟩:=sane_size hs h0
  obtain ⟨ng,dg,ex⟩:=d
  obtain ⟨l,rfl⟩:=mkB_ex dg
  have hsz:=mkB_size l
  dsimp only at h0 h1 h2
  rw [hsz] at h0
  have hl40:l.length<=40:=by
    rw [decSane_mk _ _ _ h0] at hs
    simp only [Bool.and_eq_true,decide_eq_true_eq] at hs
    exact hs.1.1.1.1.1.1.1
  refine enter_s Tryz.func238 rfl rfl (by (repeat' (first | exact trivial | exact decCells_lt _ _ | constructor))) fun w=>?_
  (repeat (first | refine cj_seq ?_ | refine cjr TT rfl ?_ | refine oj_then ?_))
  refine oj_add rfl rfl rfl rfl rfl rfl (by dsimp only;omega) (oj_run TT rfl ?_)
  refine oj_add rfl rfl rfl rfl rfl rfl (by dsimp only;omega) (oj_run TT rfl ?_)
  dsimp only
  have hH1:0<=((mkB l).size:Int)+ex+1000:=by omega
  have hH2:((mkB l).size:Int)+ex+1000<=1400:=by omega
  have hsz0:sizeG ⟨ng,mkB l,ex⟩=byteOf ((((mkB l).size:Int)+ex+1000) / 256)::byteOf (((mkB l).size:Int)+ex+1000)::(l.map (fun c=>c - 48+1)++[0]):=by
    unfold sizeG
    dsimp only
    rw [mkB_list]
  generalize ((mkB l).size:Int)+ex+1000=h at *
  (repeat (first | refine cj_seq ?_ | refine cjr TT rfl ?_ | refine oj_then ?_ | (refine oj_conv TT _ rfl rfl rfl rfl rfl rfl rfl rfl rfl ?_;refine oj_run TT rfl ?_) | (refine oj_bshr rfl rfl rfl rfl rfl rfl (by decide) ?_;refine oj_run TT rfl ?_)))
  have e1:IntKind.u8.wrap (bShr .i64 h 8)=((byteOf (h / 256)).toNat:Int):=by rw [wrap8,shr8]
  have e2:IntKind.u8.wrap h=((byteOf h).toNat:Int):=wrap8 h
  rw [e1,e2]
  refine oj_own 1 2 1 rfl (by (repeat' (first | exact trivial | refine AllLt.of ?_ | constructor))) rfl (by decide) fun g=>?_
  refine oj_bytes (y:=mkB l) TT rfl rfl rfl rfl rfl rfl rfl rfl rfl rfl rfl fun ao cap s1 hle1 HB=>?_
  rw [byteRows_u8,mkB_list,hsz] at HB
  refine oj_set 22 (.a (.v (.slice ao l.length cap))) rfl trivial (fun β=>by rw [hsz]) (oj_run TT rfl ?_)
  (repeat (first | refine oj_then ?_ | refine cj_block ?_))
  refine cj_loop (fun (_:SzS)=>s1) (fun t=>[(4,.a (.v (.slice t.oo (szK h l t.k).length t.oc))),(22,.a (.v (.slice ao l.length cap))),(23,.a (.v (.int .i64 l.length))),(24,.a (.v (.int .i64 (t.k:Nat))))]) (fun _=>[]) (fun t=>[u8E t.oo t.oc (szK h l t.k)]) 0
    (fun t=>t.k<=l.length/\(szK h l t.k).length<=t.oc) (fun t=>l.length - t.k) ⟨0,some ⟨g,0,none⟩,2⟩ ⟨Nat.zero_le _,Nat.le_refl _⟩ rfl (by (repeat first | exact trivial | refine ⟨rfl,?_⟩)) (by (repeat first | exact trivial | refine ⟨rfl,?_⟩)) rfl (by (repeat' (first | exact trivial | constructor))) (by (repeat' exact trivial)) fun ⟨k,oo,oc⟩ ⟨hk,hoc⟩=>?_
  dsimp only at hk hoc ⊢
  have hlen:=szK_len h l k
  (repeat (first | refine cj_seq ?_ | refine cjr TT rfl ?_ | refine oj_then ?_))
  refine cj_if rfl (fun hc=>?_) (fun hc=>?_)
  rotate_left
  · have hk0:k=l.length:=by have:=of_decide_eq_false hc;omega
    have e:szK h l k++[0]=sizeG ⟨ng,mkB l,ex⟩:=by
      rw [hsz0,hk0]
      unfold szK
      rw [List.take_length]
      rfl
    (repeat (first | refine cj_seq ?_ | refine cjr TT rfl ?_ | refine cj_exit ?_ | refine nj_then ?_ | refine nj_then_exit ?_ | refine nj_block_out ?_))
    refine oj_append_lit TT 0 rfl rfl rfl rfl rfl rfl rfl rfl rfl rfl rfl rfl rfl rfl rfl rfl rfl rfl (by (repeat' (first | exact trivial | refine AllLt.of ?_ | constructor))) rfl (by omega) (by show ((szK h l k).length+1)*1<=_;omega) fun oo' oc' hoc'=>oj_run TT rfl ?_
    (repeat (first | refine oj_then ?_ | refine cj_ret ?_))
    refine nj_seal 0 rfl rfl fun s2 hle2 hS=>?_
    refine nj_ret TT rfl fun β w' _ _=>?_
    have hl1:(szK h l k++[0]).length=(szK h l k).length+1:=by simp
    have hS:ArrSealed s2 (u8E oo' oc' (szK h l k++[0])):=by unfold u8E;rw [hl1,u8Xs_append];exact hS
    have:=u8_sealed hS (by rw [hl1];exact hoc')
    rw [<-e]
    exact ⟨oo',oc',by rw [hl1];rfl,this⟩
  have hkl:k<l.length:=by have:=of_decide_eq_true hc;omega
  have hx:=List.getElem?_eq_getElem hkl
  have hrow:=u8Rows_get hx
  have hs1:=szK_succ (h:=h) hx
  generalize l[k]=c at *
  (repeat (first | refine cj_seq ?_ | refine cjr TT rfl ?_ | refine cj_skip ?_ | refine cj_block ?_ | refine nj_then ?_))
  refine oj_idx TT rfl rfl rfl rfl rfl rfl rfl rfl rfl HB (by omega) hrow (oj_run TT rfl ?_)
  (repeat (first | refine cjr TT rfl ?_ | refine oj_then ?_))
  refine oj_arith ((c - 48).toNat:Int) rfl rfl rfl rfl rfl rfl (run_sub (wrap8_sub c)) (oj_run TT rfl ?_)
  refine oj_arith ((c - 48+1).toNat:Int) rfl rfl rfl rfl rfl rfl (run_add (wrap8_inc (c - 48))) (oj_run TT rfl ?_)
  refine oj_append_lit TT 0 rfl rfl rfl rfl rfl rfl rfl rfl rfl rfl rfl rfl rfl rfl rfl rfl rfl rfl (by (repeat' (first | exact trivial | refine AllLt.of ?_ | constructor))) rfl (by omega) (by show ((szK h l k).length+1)*1<=_;omega) fun oo' oc' hoc'=>oj_run TT rfl ?_
  (repeat (first | refine cjr TT rfl ?_ | refine oj_nil ?_ | refine nj_then ?_ | refine nj_block ?_ | (refine oj_add rfl rfl rfl rfl rfl rfl (by omega) ?_;refine oj_run TT rfl ?_)))
  have hl1:(szK h l (k+1)).length=(szK h l k).length+1:=by rw [hs1];simp
  refine nj_again (⟨k+1,oo',oc'⟩:SzS) ⟨hkl,by dsimp only;omega⟩ (by dsimp only;omega) rfl ?_ (by (repeat first | exact trivial | refine ⟨rfl,?_⟩)) ?_ (by (repeat' (first | exact trivial | constructor))) (by (repeat' exact trivial))
  · dsimp only
    rw [hl1]
    (repeat first | exact trivial | refine ⟨rfl,?_⟩)
  · show [_]=[_]
    dsimp only
    unfold u8E
    rw [hl1,hs1,u8Xs_append]
    rfl
end Go.Sy
/- The library's strings.ReplaceAll at this program: the shelf's contract, laid by its program. -/
namespace Go.Proofs
open Go.Shelf
def Tryz.lays155_ren:Go.Shelf.Ren:=⟨fun | 155=>239 | 154=>248 | 138=>258 | 165=>259 | 143=>260 | 166=>261 | 197=>262 | 169=>263 | 195=>267 | 218=>268 | 240=>269 | 241=>270 | 219=>271 | 260=>272 | 276=>275 | 277=>276 | 217=>277 | 225=>278 | 224=>279 | 267=>280 | 266=>283 | 314=>284 | n=>n,fun | 9=>9 | 3=>3 | 4=>4 | 72=>362 | 0=>0 | 76=>365 | 105=>249 | 21=>21 | 5=>5 | 70=>360 | 20=>20 | 37=>149 | 75=>364 | 127=>372 | 164=>374 | 46=>318 | 119=>376 | 139=>379 | 138=>378 | 146=>381 | 51=>380 | 80=>368 | n=>n,fun | 1=>0 | 3=>1 | 4=>2 | n=>n⟩
set_option maxRecDepth 100000 in
theorem Tryz.lays155:Go.Proofs.Lays.n155 Tryz.prog Tryz.lays155_ren:={
  mixed:=by kernel_rfl
  f138:=Tryz.func258.trans (congrArg some (by kernel_rfl))
  f143:=Tryz.func260.trans (congrArg some (by kernel_rfl))
  f154:=Tryz.func248.trans (congrArg some (by kernel_rfl))
  f155:=Tryz.func239.trans (congrArg some (by kernel_rfl))
  f165:=Tryz.func259.trans (congrArg some (by kernel_rfl))
  f166:=Tryz.func261.trans (congrArg some (by kernel_rfl))
  f169:=Tryz.func263.trans (congrArg some (by kernel_rfl))
  f195:=Tryz.func267.trans (congrArg some (by kernel_rfl))
  f197:=Tryz.func262.trans (congrArg some (by kernel_rfl))
  f217:=Tryz.func277.trans (congrArg some (by kernel_rfl))
  f218:=Tryz.func268.trans (congrArg some (by kernel_rfl))
  f219:=Tryz.func271.trans (congrArg some (by kernel_rfl))
  f224:=Tryz.func279.trans (congrArg some (by kernel_rfl))
  f225:=Tryz.func278.trans (congrArg some (by kernel_rfl))
  f240:=Tryz.func269.trans (congrArg some (by kernel_rfl))
  f241:=Tryz.func270.trans (congrArg some (by kernel_rfl))
  f260:=Tryz.func272.trans (congrArg some (by kernel_rfl))
  f266:=Tryz.func283.trans (congrArg some (by kernel_rfl))
  f267:=Tryz.func280.trans (congrArg some (by kernel_rfl))
  f276:=Tryz.func275.trans (congrArg some (by kernel_rfl))
  f277:=Tryz.func276.trans (congrArg some (by kernel_rfl))
  f314:=Tryz.func284.trans (congrArg some (by kernel_rfl))
  t0:=Tryz.underlying0
  a0:=Tryz.isAgg0
  z0:=Tryz.sizeOf0
  v0:=Tryz.zeroValue0
  t3:=Tryz.underlying3
  a3:=Tryz.isAgg3
  z3:=Tryz.sizeOf3
  v3:=Tryz.zeroValue3
  t4:=Tryz.underlying4
  a4:=Tryz.isAgg4
  z4:=Tryz.sizeOf4
  v4:=Tryz.zeroValue4
  t5:=Tryz.underlying5
  a5:=Tryz.isAgg5
  z5:=Tryz.sizeOf5
  v5:=Tryz.zeroValue5
  t9:=Tryz.underlying9
  a9:=Tryz.isAgg9
  z9:=Tryz.sizeOf9
  v9:=Tryz.zeroValue9
  t20:=Tryz.underlying20
  a20:=Tryz.isAgg20
  z20:=Tryz.sizeOf20
  v20:=Tryz.zeroValue20
  t21:=Tryz.underlying21
  a21:=Tryz.isAgg21
  z21:=Tryz.sizeOf21
  v21:=Tryz.zeroValue21
  t37:=Tryz.underlying149
  a37:=Tryz.isAgg149
  z37:=Tryz.sizeOf149
  v37:=Tryz.zeroValue149
  t46:=Tryz.underlying318
  a46:=Tryz.isAgg318
  z46:=Tryz.sizeOf318
  v46:=Tryz.zeroValue318
  t51:=Tryz.underlying380
  a51:=Tryz.isAgg380
  z51:=Tryz.sizeOf380
  v51:=Tryz.zeroValue380
  t70:=Tryz.underlying360
  a70:=Tryz.isAgg360
  z70:=Tryz.sizeOf360
  v70:=Tryz.zeroValue360
  t72:=Tryz.underlying362
  a72:=Tryz.isAgg362
  z72:=Tryz.sizeOf362
  v72:=Tryz.zeroValue362
  t75:=Tryz.underlying364
  a75:=Tryz.isAgg364
  z75:=Tryz.sizeOf364
  v75:=Tryz.zeroValue364
  t76:=Tryz.underlying365
  a76:=Tryz.isAgg365
  z76:=Tryz.sizeOf365
  v76:=Tryz.zeroValue365
  t105:=Tryz.underlying249
  a105:=Tryz.isAgg249
  z105:=Tryz.sizeOf249
  v105:=Tryz.zeroValue249
  t119:=Tryz.underlying376
  a119:=Tryz.isAgg376
  z119:=Tryz.sizeOf376
  t127:=Tryz.underlying372
  a127:=Tryz.isAgg372
  z127:=Tryz.sizeOf372
  v127:=Tryz.zeroValue372
  t138:=Tryz.underlying378
  a138:=Tryz.isAgg378
  z138:=Tryz.sizeOf378
  v138:=Tryz.zeroValue378
  t139:=Tryz.underlying379
  a139:=Tryz.isAgg379
  z139:=Tryz.sizeOf379
  v139:=Tryz.zeroValue379
  t146:=Tryz.underlying381
  a146:=Tryz.isAgg381
  z146:=Tryz.sizeOf381
  v146:=Tryz.zeroValue381
  t164:=Tryz.underlying374
  a164:=Tryz.isAgg374
  z164:=Tryz.sizeOf374
  v164:=Tryz.zeroValue374
  g1:=by kernel_rfl
  g3:=by kernel_rfl
  g4:=by kernel_rfl }
set_option maxRecDepth 100000 in
theorem Tryz.Builder_Extra_155:Builder.Extra Tryz.prog Tryz.lays155_ren:={
  sizeBuilder:=by kernel_rfl
  liesBuilder:=by kernel_rfl
  t5:=Tryz.underlying5
  a5:=Tryz.isAgg5
  z5:=Tryz.sizeOf5
  v5:=Tryz.zeroValue5
  infoByte:=by kernel_rfl
  cellsByte:=by kernel_rfl
  sizeByte:=by kernel_rfl
  neB5:=by decide }
open Go.RowKit Go.Lib in
set_option maxRecDepth 100000 in
theorem Tryz.strings_ReplaceAll (s old new:ByteArray) (m:Int) (w:World) (hs:s.size<4294967281) (hm:w.cell? ⟨0,0,none⟩=some (.int .i64 m)) (h1:1<=old.size) (hlen:s.size+Lib.countB s old*new.size<=140737488355328) :
    Calls Tryz.prog 239 #[.string s,.string old,.string new] w fun e w' =>
      e=.returned (.string ⟨(Lib.replaceAll s.data.toList old.data.toList new.data.toList).toArray⟩)/\Below w.heap.size w w':=Any.strings_ReplaceAll Tryz.lays155 Tryz.Builder_Extra_155 s old new m w hs hm h1 hlen
end Go.Proofs
namespace Go.Sy
open Go.Proofs
theorem esc_none:∀ {s:List UInt8},(∀ c∈s,c≠0)->escG s=s
  | [],_=>rfl
  | c::s,h=>by
    rw [escG,if_neg (h c List.mem_cons_self),esc_none fun x hx=>h x (List.mem_cons_of_mem c hx)]
theorem esc_hit:∀ (a r:List UInt8),(∀ c∈a,c≠0)->escG (a++0::r)=a++[0,255]++escG r
  | [],r,_=>by rw [List.nil_append,escG,if_pos rfl];rfl
  | c::a,r,h=>by
    rw [List.cons_append,escG,if_neg (h c List.mem_cons_self),esc_hit a r fun x hx=>h x (List.mem_cons_of_mem c hx)]
    rfl
theorem idx_split (s:List UInt8):(Lib.index s [0] = -1/\∀ c∈s,c≠0)\/∃ a r,s=a++0::r/\(∀ c∈a,c≠0)/\Lib.index s [0]=(a.length:Nat):=by
  rw [Lib.index_one]
  have hge:=Lib.indexByte_ge s 0
  by_cases h:Lib.indexByte s 0 = -1
  · refine .inl ⟨h,fun c hc h0=>?_⟩
    obtain ⟨k,hk,rfl⟩:=List.mem_iff_getElem.1 hc
    exact Lib.indexByte_none h k (by rw [List.getElem?_eq_getElem hk,h0])
  · obtain ⟨o,ho⟩:∃ o:Nat,Lib.indexByte s 0=o:=⟨(Lib.indexByte s 0).toNat,by omega⟩
    obtain ⟨h1,h2⟩:=Lib.indexByte_some ho
    obtain ⟨hl,he⟩:=List.getElem?_eq_some_iff.1 h1
    refine .inr ⟨s.take o,s.drop (o+1),?_,fun c hc h0=>?_,by rw [ho,List.length_take,Nat.min_eq_left (by omega)]⟩
    · rw [<-he,<-List.drop_eq_getElem_cons hl,List.take_append_drop]
    · obtain ⟨k,hk,hk3⟩:=List.mem_iff_getElem.1 hc
      have hk2:=List.getElem?_eq_getElem hk
      rw [hk3] at hk2
      rw [List.length_take] at hk
      rw [List.getElem?_take,if_pos (by omega),h0] at hk2
      exact h2 k (by omega) hk2
theorem replaceK_esc:∀ (fuel:Nat) (s:List UInt8),s.length<fuel->Lib.replaceK [0] [0,255] (Lib.countFrom [0] fuel s) s=escG s
  | 0,s,h=>by omega
  | fuel+1,s,h=>by
    rcases idx_split s with ⟨h1,h2⟩ | ⟨a,r,rfl,h2,h3⟩
    · rw [Lib.countFrom,h1]
      exact (esc_none h2).symm
    · have hne:¬ (Lib.index (a++0::r) [0] == -1)=true:=by rw [h3];intro e;have:=beq_iff_eq.1 e;omega
      have hd:(a++0::r).drop (a.length+1)=r:=by
        rw [List.drop_append,List.drop_of_length_le (by omega)]
        simp
      have ih:=replaceK_esc fuel r (by simp at h;omega)
      rw [Lib.countFrom,if_neg hne,Nat.add_comm,Lib.replaceK_hit _ _ _ _ _ h3,h3]
      show (a++0::r).take a.length++[0,255]++Lib.replaceK [0] [0,255] (Lib.countFrom [0] fuel ((a++0::r).drop (a.length+1))) ((a++0::r).drop (a.length+1))=_
      rw [hd,ih,esc_hit a r h2,List.take_left]
theorem replaceAll_esc (s:List UInt8):Lib.replaceAll s [0] [0,255]=escG s:=replaceK_esc (s.length+1) s (Nat.lt_succ_self _)
theorem plain_of_below {P:Program} {f:FuncId} {svs:List SV} {σ:Snap} {Φ:Value->Prop} (h:∀ w,Sealed σ w->Calls P f (svs.map (SV.den β0)).toArray w fun e w'=>∃ v,e=.returned v/\Φ v/\Go.RowKit.Below w.heap.size w w'):PlainS P f svs σ Φ:=by
  intro w hw
  refine Calls.mono (h w hw) fun e w' ⟨v,he,hv,hb⟩=>⟨v,σ,he,⟨hb.os,hb.tape,hb.output,hb.size,fun b hb' _=>hb.block b hb'⟩,⟨Snap.le_refl _,fun b hb'=>.inl hb'⟩,fun b o ho=>?_,hv⟩
  have h1:=hw b o ho
  rw [hb.block b (Array.getElem?_eq_some_iff.1 h1).1]
  exact h1
theorem ReplaceAll_c (σ:Snap) (m:Int) (hm:σ.cell ⟨0,0,none⟩=some (.int .i64 m)) (s:ByteArray) (hs:s.size<=1000000) :
    PlainS Tryz.prog 239 [.a (.v (.string s)),.a (.v (.string ⟨#[0]⟩)),.a (.v (.string ⟨#[0,255]⟩))] σ (fun v=>v=.string (mkB (escG s.data.toList))):=by
  refine plain_of_below fun w hw=>?_
  have hc:=Lib.countB_mul_le ⟨#[0]⟩ (by decide) s.size s (Nat.le_refl _)
  have hz:(⟨#[0]⟩:ByteArray).size=1:=rfl
  have hz2:(⟨#[0,255]⟩:ByteArray).size=2:=rfl
  rw [hz,Nat.mul_one] at hc
  refine Calls.mono (Tryz.strings_ReplaceAll s ⟨#[0]⟩ ⟨#[0,255]⟩ m w (by omega) (sealed_cell hw hm) (by decide) (by rw [hz2];omega)) fun e w' ⟨he,hb⟩=>⟨_,he,?_,hb⟩
  show Value.string ⟨(Lib.replaceAll s.data.toList [0] [0,255]).toArray⟩=_
  rw [replaceAll_esc]
  rfl
end Go.Sy
