/- Parts of the proof of CStreamsPlay: SyL, SyM, Va, SyN, SyO, SyP, Tab, SyQ, SyT, SyW, SyR. No conditions. -/
import Derived.Test.YtlonlnagmfdlbaaGreatDoorM2
import Derived.MapKept
import Derived.RangeFuncRecord
import Derived.Test.YtlonlnagmfdlbaaGreatDoorProg
import Derived.KernelRfl
import Derived.Laws.MakeOwn
set_option maxRecDepth 100000
set_option maxHeartbeats 16000000
namespace Go.Sy
def lU (k:IntKind) (x y:Int):Int:=k.wrap ((BitVec.ofInt k.bits x &&& BitVec.ofInt k.bits y).toNat:Nat)
def bOr (k:IntKind) (x y:Int):Int:=k.wrap ((BitVec.ofInt k.bits x ||| BitVec.ofInt k.bits y).toNat:Nat)
def mH (k:IntKind) (x y:Int):Int:=k.wrap ((BitVec.ofInt k.bits x &&& ~~~BitVec.ofInt k.bits y).toNat:Nat)
def Mn (k:IntKind) (x y:Int):Int:=k.wrap (x*2 ^ (min y.toNat k.bits))
def tQ (k:IntKind) (x y:Int):Int:=x.fdiv (2 ^ (min y.toNat k.bits))
def qT (s:ByteArray):List (List AT):=s.data.toList.map fun u=>[.v (.int .u8 u.toNat)]
section
variable {cf:Cf} {Q:Exit->Act->World->Prop} {σ:al} {env:Env} {hp:HP} {A:List AE} {nh:Nat} {it:Item} {rest:List Item}
theorem I2{d:Nat}{Φ:Value->al->Prop}(hd:it.o.dst=some d)(hg:bt it.guard env=some true)(hN:Nat.blt d cf.N=true)(hq:qD it.tag=true)(hC:∀ a β,nc cf env β a->∀ w,tU σ w->∃ v w' bD,(execOp a.eval it.o).run cf.P w=.ok (.value v) w'/\Fr (fun _=>False) w w'/\wx (fun _=>False) σ w bD/\tU bD w'/\Φ v bD)(k:∀ v bD,σ.le bD->Φ v bD->∃ y:SV,y.lt 0/\y.den fy=v/\OJ cf rest Q bD ((d,y)::env) hp A nh): OJ cf (it::rest) Q σ env hp A nh:=by
 refine⟨fun hb a β ha hex=>?_⟩
 have sx:d<cf.N:=by simpa[fD] using hN
 have pQ:∀ {y:SV},y.lt 0->y.den β=y.den fy:=fun hy=>SV.dM (n:=0) (fun i hi=>by omega) hy
 have ed:∀ w,dy cf σ hp A β w->∀(K:Act->World->Prop) (Q':Exit->Act->World->Prop),
   (∀ v w' bD,σ.le bD->Φ v bD->dy cf bD hp A β w'->(∀ x,dy cf bD hp A β x->dy cf σ hp A β x)->K (a.put it.o.dst v) w')->it.o.wq cf.P a w K Q':=by
  intro w hw K Q' hK
  obtain⟨v,w',bD,he,h1,h2,h3,h4⟩:=hC a β ha w hw.cQ
  unfold Oper.wq
  rw[he]
  simp only[Oper.uponIn]
  refine hK v w' bD h2.le h4 (hw.after h1 h2 h3) fun x hx=>?_
  have qY:∀ {b},bD b=none->σ b=none:=fun hb=>al.l7 h2.le hb
  refine⟨hx.os,hx.tape,hx.output,hx.size,hx.fr,fun b o hb=>hx.cQ b o (h2.le b o hb),hw.le,hw.grow,fun i e cs hi=>?_,hw.ro,hx.inj,fun i E hE=>?_,hx.iR,hx.iL⟩
  ·obtain⟨q1,q2,q3,q4⟩:=hx.loc i e cs hi
   exact⟨q1,q2,qY q3,q4⟩
  ·obtain⟨q1,q2⟩:=hx.arr i E hE
   refine⟨q1,q2.imp id ?_⟩
   rintro⟨g,cur,h3,h4,h5,h6,h7,h8,h9,uS⟩
   exact⟨g,cur,h3,h4,h5,h6,h7,h8,qY h9,uS⟩
 have cont:∀ v bD,σ.le bD->Φ v bD->(∃ w,dy cf bD hp A β w)->RunT cf.P Q rest (fun w=>dy cf bD hp A β w) (fun w=>dy cf bD hp A β w) (a.put it.o.dst v):=by
  intro v bD hle LJ YH
  obtain⟨y,hy,Jx,hk⟩:=k v bD hle LJ
  have:=hk.run (hb.put (SV.eT (ay _) hy) d) (a.put (some d) (y.den β)) β (ha.put sx y) YH
  rw[hd,<-Jx,<-pQ hy]
  exact this
 simp only[RunT]
 rw[au (da ha hg)]
 cases ec:it.tag with
 | pure=>rw[ec] at hq;cases hq
 | quiet=>rw[ec] at hq;cases hq
 | dP=>exact fun w hw=>ed w hw _ _ fun v w' bD hle LJ gQ gR=>⟨_,_,gQ,fun _ h=>h,gR,cont v bD hle LJ ⟨_,gQ⟩⟩
 | sink=>exact fun w hw=>ed w hw _ _ fun v w' bD hle LJ gQ _=>⟨_,_,gQ,fun _ h=>h,cont v bD hle LJ ⟨_,gQ⟩⟩
 | free=>exact fun w hw=>ed w hw _ _ fun v w' bD hle LJ gQ _=>⟨_,_,gQ,fun _ h=>h,cont v bD hle LJ ⟨_,gQ⟩⟩
theorem run_mark{P:Program}{w:World}{b:Nat}{e:TypeId}{n:Nat}(h:w.shape? b=some (e,n)): (markStringish ⟨b,0,none⟩).run P w=.ok () (w.freeze ⟨b,n,none⟩ 1):=by
 simp only[markStringish,Sem.run_bind,run_shape,Result.andThen_ok,h,run_freeze]
theorem Iy{P:Program}{w:World}{e:TypeId}{y:ByteArray}{cap:Nat}(hc:grownCap w y.size 0 e=cap){row:Array Value}(hr:row=y.data.map (fun b=>Value.int .u8 b.toNat)++Array.replicate (cap - y.size) (.int .u8 0))(hs:row.size=cap):
  (Conv.stringToBytes e y).run P w=.ok (.slice (some ⟨w.heap.size,0,none⟩) y.size cap) ((w.drew.alloc (.cells row e)).freeze ⟨w.heap.size,cap,none⟩ 1):=by
 have DY:(choose (.appendCap y.size 0 e)).run P w=.ok cap w.drew:=by
  simp only[run_choose,Question.forced,dI,if_false]
  rw[<-hc];rfl
 have WS:(w.drew.alloc (.cells row e)).shape? w.heap.size=some (e,cap):=by
  show(match (w.heap.push _)[w.heap.size]? with | some (.cells c elem _)=>some (elem,c.size) | _=>none)=_
  rw[jq,au rfl]
  simp only[hs]
 have hn:(newRow e (y.data.map (fun b=>Value.int .u8 b.toNat)++Array.replicate (cap - y.size) (.int .u8 0))).run P w.drew=.ok ⟨w.heap.size,0,none⟩ (w.drew.alloc (.cells row e)):=by
  rw[<-hr]
  simp only[newRow,Sem.run_bind,run_newObj,Result.andThen_ok,Sem.run_pure]
  rfl
 simp only[Conv.stringToBytes,Sem.run_bind,DY,Result.andThen_ok,hn,run_mark WS,Sem.run_pure]
theorem uD{d:Nat}{x:Operand}{s t e:TypeId}{T:List (Nat×TI)}(hT:cu cf.P T){ts ti te:TI}{y:ByteArray}(fL:it.o.op=.convert s t x)(hd:it.o.dst=some d)(hg:bt it.guard env=some true)(hN:Nat.blt d cf.N=true)(hq:qD it.tag=true)(hx:bP env x=some (.a (.v (.string y))))(hs:eX T s=some ts)(ht:eX T t=some ti)(xi:ti.kind=.slice e)(qf:eX T e=some te)(W4:te.kind=.int .u8)(k:∀ ao cap bD,σ.le bD->bu bD ao y.size cap 1 (qT y)->OJ cf rest Q bD ((d,.a (.v (.slice ao y.size cap)))::env) hp A nh): OJ cf (it::rest) Q σ env hp A nh:=by
 obtain⟨i1,d1,z1,m1⟩:=bK (hT _ _ hs)
 obtain⟨i2,d2,z2,mR⟩:=bK (hT _ _ ht)
 obtain⟨i3,d3,z3,lh⟩:=bK (hT _ _ qf)
 have tZ:cf.P.underlying t=some (.slice e):=by
  have h1:=mR.kind
  rw[xi] at h1
  have h2:=mR.qx
  cases d2<;>first
   | (simp only[fx,TK.slice.injEq] at h1;subst h1;exact h2)
   | (simp only[fx] at h1;cases h1)
 have T7:cf.P.underlying e=some (.int .u8):=by
  have h1:=lh.kind
  rw[W4] at h1
  have h2:=lh.qx
  cases d3<;>first
   | (simp only[fx,TK.int.injEq] at h1;subst h1;exact h2)
   | (simp only[fx] at h1;cases h1)
 refine I2 (Φ:=fun v bD=>∃ ao cap,v=.slice ao y.size cap/\bu bD ao y.size cap 1 (qT y)) hd hg hN hq (fun a β ha w pv=>?_) (fun v bD hle ⟨ao,cap,hv,hS⟩=>⟨.a (.v (.slice ao y.size cap)),trivial,hv.symm,k ao cap bD hle hS⟩)
 have Eo:a.eval x=.string y:=aD ha hx
 have Pc:=grownCap_ge w y.size 0 e
 generalize mC:grownCap w y.size 0 e=cap at Pc
 let elems:Array Value:=y.data.map fun b=>.int .u8 b.toNat
 let row:Array Value:=elems++Array.replicate (cap - y.size) (.int .u8 0)
 have bU:row.size=cap:=by
  have:y.data.size=y.size:=rfl
  simp[row,elems];omega
 let ob:Obj:=.cells row e (cap,cap+1)
 let w1:=w.drew.alloc (.cells row e)
 let w':=w1.freeze ⟨w.heap.size,cap,none⟩ 1
 let bD:al:=fun b=>if b=w.heap.size then some ob else σ b
 have KD:∀ b,b≠w.heap.size->w'.heap[b]?=w.heap[b]?:=by
  intro b hb
  show(if 1=0 then w1 else { w1 with heap:=_ }:World).heap[b]?=_
  rw[ai Zo]
  simp only[Array.getElem?_modify]
  rw[ai (fun h=>hb h.symm)]
  show(w.heap.push _)[b]?=_
  rw[jq,ai hb]
 have rP:w'.heap[w.heap.size]?=some ob:=by
  show(if 1=0 then w1 else { w1 with heap:=_ }:World).heap[w.heap.size]?=_
  rw[ai Zo]
  simp only[Array.getElem?_modify,if_true]
  have:w1.heap[w.heap.size]?=some (.cells row e (0,0)):=by
   show(w.heap.push _)[w.heap.size]?=_
   rw[jq,au rfl]
  rw[this]
  rfl
 have ed:(execOp a.eval it.o).run cf.P w=.ok (.value (.slice (some ⟨w.heap.size,0,none⟩) y.size cap)) w':=by
  simp only[execOp,fL,Eo,convert,Sem.run_bind,run_underlying m1.qx,run_underlying tZ,Result.andThen_ok]
  cases d1<;>simp only[run_underlying T7,Result.andThen_ok,Iy mC (row:=row) rfl bU,Sem.run_pure]<;>rfl
 refine⟨_,w',bD,ed,⟨rfl,rfl,rfl,?_,fun b hb _=>KD b Zo⟩,⟨fun b o hb=>?_,fun b hb=>?_⟩,fun b o hb=>?_,some ⟨w.heap.size,0,none⟩,cap,rfl,?_⟩
 ·have:w'.heap.size=w.heap.size+1:=by
   show(if 1=0 then w1 else { w1 with heap:=_ }:World).heap.size=_
   rw[ai Zo]
   simp only[Array.size_modify]
   show(w.heap.push _).size=_
   rw[Array.size_push]
  omega
 ·have:=(bH.1 (pv b o hb)).1
  simp only[bD]
  rw[ai Zo];exact hb
 ·simp only[bD] at hb
  by_cases h:b=w.heap.size
  ·exact .inr (.inl Zo)
  ·rw[ai h] at hb;exact .inl hb
 ·simp only[bD] at hb
  by_cases h:b=w.heap.size
  ·rw[au h] at hb;injection hb with hb;subst hb;rw[h];exact rP
  ·rw[ai h] at hb;rw[KD b h];exact pv b o hb
 ·refine⟨by simp[qT],Pc,fun r hr=>?_,.inr ⟨_,rfl,fun i r j c hi hj=>?_⟩⟩
  ·simp only[qT,bL] at hr
   obtain⟨u,_,rfl⟩:=hr
   exact⟨rfl,fun c hc=>by simp at hc;subst hc;trivial⟩
  ·simp only[qT,aO] at hi
   obtain⟨u,hu,rfl⟩:=map_some hi
   cases j with
   | succ j=>simp at hj
   | zero =>
    simp at hj
    subst hj
    rw[jM]
    simp only[al.cell,bD,if_true,ob,row,elems]
    have dj:=(ah.1 hu).1
    simp only[kS,eM,Option.isSome_none,dI,if_false]
    rw[Array.getElem?_append_left (by simpa using dj)]
    simp only[Array.getElem?_map,AT.den]
    have:y.data[i]?=some u:=by simpa using hu
    rw[this]
    rfl
theorem Ca{op:BinOp}{xt:TypeId}{k:IntKind}{m n r:Int}(h:∀ P w,(Op.intBits op k m n).run P w=.ok (.int k r) w)(fL:op=.and\/op=.or\/op=.andNot)(w:World)(P:Program): (binOp op xt (.int k m) (.int k n)).run P w=.ok (.int k r) w:=by
 rcases fL with rfl | rfl | rfl<;>simp only[binOp,ne_eq,not_true,if_false,h]
theorem M3{d:Nat}{x y:Operand}{xt yt:TypeId}{k:IntKind}{m n:Int}(fL:it.o.op=.binOp .and xt x y yt)(hd:it.o.dst=some d)(hg:bt it.guard env=some true)(hN:Nat.blt d cf.N=true)(hx:bP env x=some (.a (.v (.int k m))))(hy:bP env y=some (.a (.v (.int k n))))(hk:OJ cf rest Q σ ((d,.a (.v (.int k (lU k m n))))::env) hp A nh): OJ cf (it::rest) Q σ env hp A nh :=
 kI _ fL hd hg hN hx hy (fun w P=>Ca (fun _ _=>rfl) (.inl rfl) w P) hk
theorem RB{d:Nat}{x y:Operand}{xt yt:TypeId}{k:IntKind}{m n:Int}(fL:it.o.op=.binOp .or xt x y yt)(hd:it.o.dst=some d)(hg:bt it.guard env=some true)(hN:Nat.blt d cf.N=true)(hx:bP env x=some (.a (.v (.int k m))))(hy:bP env y=some (.a (.v (.int k n))))(hk:OJ cf rest Q σ ((d,.a (.v (.int k (bOr k m n))))::env) hp A nh): OJ cf (it::rest) Q σ env hp A nh :=
 kI _ fL hd hg hN hx hy (fun w P=>Ca (fun _ _=>rfl) (.inr (.inl rfl)) w P) hk
theorem CF{d:Nat}{x y:Operand}{xt yt:TypeId}{k:IntKind}{m n:Int}(fL:it.o.op=.binOp .andNot xt x y yt)(hd:it.o.dst=some d)(hg:bt it.guard env=some true)(hN:Nat.blt d cf.N=true)(hx:bP env x=some (.a (.v (.int k m))))(hy:bP env y=some (.a (.v (.int k n))))(hk:OJ cf rest Q σ ((d,.a (.v (.int k (mH k m n))))::env) hp A nh): OJ cf (it::rest) Q σ env hp A nh :=
 kI _ fL hd hg hN hx hy (fun w P=>Ca (fun _ _=>rfl) (.inr (.inr rfl)) w P) hk
theorem M0{d:Nat}{x y:Operand}{xt yt:TypeId}{k k':IntKind}{m n:Int}(fL:it.o.op=.binOp .shl xt x y yt)(hd:it.o.dst=some d)(hg:bt it.guard env=some true)(hN:Nat.blt d cf.N=true)(hx:bP env x=some (.a (.v (.int k m))))(hy:bP env y=some (.a (.v (.int k' n))))(h0:0<=n)(hk:OJ cf rest Q σ ((d,.a (.v (.int k (Mn k m n))))::env) hp A nh): OJ cf (it::rest) Q σ env hp A nh:=by
 refine jB (.a (.v (.int k (Mn k m n)))) hd hg hN trivial (fun _ a β ha w=>?_) hk
 have h1:a.eval x=.int k m:=aD ha hx
 have h2:a.eval y=.int k' n:=aD ha hy
 simp only[execOp,fL,h1,h2,eqGuard,Sem.run_bind,binOp,Op.shift,ai (Int.not_lt.2 h0),Sem.run_pure]
 rfl
theorem MZ{d:Nat}{x y:Operand}{xt yt:TypeId}{k k':IntKind}{m n:Int}(fL:it.o.op=.binOp .shr xt x y yt)(hd:it.o.dst=some d)(hg:bt it.guard env=some true)(hN:Nat.blt d cf.N=true)(hx:bP env x=some (.a (.v (.int k m))))(hy:bP env y=some (.a (.v (.int k' n))))(h0:0<=n)(hk:OJ cf rest Q σ ((d,.a (.v (.int k (tQ k m n))))::env) hp A nh): OJ cf (it::rest) Q σ env hp A nh:=by
 refine jB (.a (.v (.int k (tQ k m n)))) hd hg hN trivial (fun _ a β ha w=>?_) hk
 have h1:a.eval x=.int k m:=aD ha hx
 have h2:a.eval y=.int k' n:=aD ha hy
 simp only[execOp,fL,h1,h2,eqGuard,Sem.run_bind,binOp,Op.shift,ai (Int.not_lt.2 h0),Sem.run_pure]
 rfl
theorem ER{P:Program}{t e:TypeId}(Bn:P.underlying t=some (.slice e))(m:Nat)(ao:Option Addr)(n c n' c':Nat)(w:World): (Op.equalIn (m+1) t (.slice ao n c) (.slice none n' c')).run P w=.ok ao.isNone w:=by
 cases ao<;>simp only[Op.equalIn,Sem.run_bind,run_underlying Bn,Result.andThen_ok,Sem.run_pure]<;>rfl
theorem IZ{d:Nat}{x y:Operand}{t yt e:TypeId}{T:List (Nat×TI)}(hT:cu cf.P T){ti:TI}{ao:Option Addr}{n c n' c':Nat}(fL:it.o.op=.binOp .eql t x y yt)(hd:it.o.dst=some d)(hg:bt it.guard env=some true)(hN:Nat.blt d cf.N=true)(hx:bP env x=some (.a (.v (.slice ao n c))))(hy:bP env y=some (.a (.v (.slice none n' c'))))(ht:eX T t=some ti)(xi:ti.kind=.slice e)(hk:OJ cf rest Q σ ((d,.a (.b ao.isNone))::env) hp A nh): OJ cf (it::rest) Q σ env hp A nh:=by
 refine jB (.a (.b ao.isNone)) hd hg hN trivial (fun _ a β ha w=>?_) hk
 obtain⟨i2,d2,z2,mR⟩:=bK (hT _ _ ht)
 have Bn:cf.P.underlying t=some (.slice e):=by
  have h1:=mR.kind
  rw[xi] at h1
  have h2:=mR.qx
  cases d2<;>first
   | (simp only[fx,TK.slice.injEq] at h1;subst h1;exact h2)
   | (simp only[fx] at h1;cases h1)
 have h1:a.eval x=.slice ao n c:=aD ha hx
 have h2:a.eval y=.slice none n' c':=aD ha hy
 have hE:(Op.equal t (.slice ao n c) (.slice none n' c')).run cf.P w=.ok ao.isNone w:=ER Bn 9999 ao n c n' c' w
 have hG:(eqGuard .eql t x y (.slice ao n c) (.slice none n' c')).run cf.P w=.ok () w:=rfl
 have hB:(binOp .eql t (.slice ao n c) (.slice none n' c')).run cf.P w=.ok (.bool ao.isNone) w:=by
  simp only[binOp,Sem.run_bind,hE,Result.andThen_ok,Sem.run_pure]
 simp only[execOp,fL,h1,h2,Sem.run_bind,hG,hB,Result.andThen_ok,Sem.run_pure]
 rfl
theorem Gt{d:Nat}{x i:Operand}{t:TypeId}{cs:List AT}{k:IntKind}{m:Int}(l:List AT)(e len:Nat)(de:TypeDesc)(tZ:cf.P.underlying t=some (.array len e))(T7:cf.P.underlying e=some de)(yz:AY de=true)(fL:it.o.op=.index t x i)(hd:it.o.dst=some d)(hg:bt it.guard env=some true)(hN:Nat.blt d cf.N=true)(hx:bP env x=some (.agg cs))(hi:bP env i=some (.a (.v (.int k m))))(h0:0<=m)(hm:m.toNat<len)(hl:m3 cs (m.toNat*cf.P.cellsOf e) (cf.P.cellsOf e)=some l)(hk:OJ cf rest Q σ ((d,.agg l)::env) hp A nh): OJ cf (it::rest) Q σ env hp A nh:=by
 obtain⟨lJ,Hw⟩:=nn cs _ _ l hl
 have key:Bd env hp nh->(SV.agg l).lt nh:=fun hb c hc=>yD hl (ja hb hx) c hc
 refine⟨fun hb=>(jB (.agg l) hd hg hN (key hb) (fun _ a β ha w=>?_) hk).run hb⟩
 have h2:a.eval x=.agg (cs.map (AT.den β)).toArray:=aD ha hx
 have h3:a.eval i=.int k m:=aD ha hi
 have dj:m<len:=by omega
 simp only[execOp,fL,h2,h3,Instr.index,asIntOf,Sem.run_bind,Sem.run_pure,Result.andThen_ok,run_underlying tZ,h0,dj,and_self,if_true,part,jK T7,yz,oO rfl T7]
 rw[lJ]
 simp[SV.den,List.extract_eq_take_drop,dG,dR]
end
end Go.Sy
namespace Go.Sy
section
variable {cf:Cf} {Q:Exit->Act->World->Prop} {σ:al} {env:Env} {hp:HP} {A:List AE} {nh:Nat} {it:Item} {rest:List Item}
theorem U9{T:List (Nat×TI)}(hT:cu cf.P T){i:Nat}{e:TypeId}{cs:List AT}(h:ev T it.o.op env hp nh=some (.put i e cs))(hd:it.o.dst=none)(hg:bt it.guard env=some true)(ec:iV it.tag=true)(k:OJ cf rest Q σ env ((i,.loc e,cs)::hp) A nh): OJ cf (it::rest) Q σ env hp A nh:=by
 refine⟨fun hb a β ha hex=>?_⟩
 obtain⟨dj,⟨Uj,h0⟩,ed⟩:=k9 (cf:=cf) hT ha hb h (β:=β)
 have uR:Bd env ((i,.loc e,cs)::hp) nh:=hb.row (hb.hp i _ _ h0).1 dj
 have key:∀ w,dy cf σ hp A β w->∀ Q',it.o.wq cf.P a w (fun a' w'=>∃ E' S':World->Prop,S' w'/\(∀ x,S' x->E' x)/\RunT cf.P Q rest E' S' a') Q':=by
  intro w hw Q'
  unfold Oper.wq
  rw[ed σ A w hw]
  have gQ:=hw.store h0 (cs:=cs)
  refine⟨_,_,gQ,fun _ h=>h,?_⟩
  rw[hd]
  exact k.run uR a β ha ⟨_,gQ⟩
 simp only[RunT]
 rw[au (da ha hg)]
 cases kL:it.tag with
 | pure=>rw[kL] at ec;cases ec
 | quiet=>rw[kL] at ec;cases ec
 | dP=>rw[kL] at ec;cases ec
 | sink=>exact fun w hw=>key w hw _
 | free=>exact fun w hw=>key w hw _
theorem Lh{d:Nat}{x i:Operand}{t:TypeId}(e len:Nat)(tZ:cf.P.underlying t=some (.array len e)){de:TypeDesc}(T7:cf.P.underlying e=some de){h off:Nat}{k:IntKind}{m:Int}(fL:it.o.op=.indexAddr t x i)(hd:it.o.dst=some d)(hg:bt it.guard env=some true)(hN:Nat.blt d cf.N=true)(hx:bP env x=some (.a (.p h off)))(hi:bP env i=some (.a (.v (.int k m))))(h0:0<=m)(hm:m<len)(o:Nat)(ho:off+m.toNat*cf.P.cellsOf e=o)(hk:OJ cf rest Q σ ((d,.a (.p h o))::env) hp A nh): OJ cf (it::rest) Q σ env hp A nh:=by
 subst ho
 refine⟨fun hb=>(jB (.a (.p h (off+m.toNat*cf.P.cellsOf e))) hd hg hN (show h<nh from (ja hb hx:SV.lt nh (.a (.p h off)))) (fun _ a β ha w=>?_) hk).run hb⟩
 have h2:a.eval x=.pointer (some ((β h).add off)):=aD ha hx
 have h3:a.eval i=.int k m:=aD ha hi
 simp only[execOp,fL,h2,h3,Instr.indexAt,asIntOf,Instr.sureAddr,Sem.run_bind,Sem.run_pure,Result.andThen_ok,run_underlying tZ,h0,hm,and_self,if_true,oO rfl T7]
 simp only[SV.den,AT.den,Addr.add_add]
theorem Lj{d:Nat}{x i:Operand}{t:TypeId}(e len:Nat)(tZ:cf.P.underlying t=some (.array len e)){de:TypeDesc}(T7:cf.P.underlying e=some de){ad:Addr}{k:IntKind}{m:Int}(fL:it.o.op=.indexAddr t x i)(hd:it.o.dst=some d)(hg:bt it.guard env=some true)(hN:Nat.blt d cf.N=true)(hx:bP env x=some (.a (.v (.pointer (some ad)))))(hi:bP env i=some (.a (.v (.int k m))))(h0:0<=m)(hm:m<len)(ad':Addr)(ho:ad.add (m.toNat*cf.P.cellsOf e)=ad')(hk:OJ cf rest Q σ ((d,.a (.v (.pointer (some ad'))))::env) hp A nh): OJ cf (it::rest) Q σ env hp A nh:=by
 subst ho
 refine jB (.a (.v (.pointer (some (ad.add (m.toNat*cf.P.cellsOf e)))))) hd hg hN trivial (fun _ a β ha w=>?_) hk
 have h2:a.eval x=.pointer (some ad):=aD ha hx
 have h3:a.eval i=.int k m:=aD ha hi
 simp only[execOp,fL,h2,h3,Instr.indexAt,asIntOf,Instr.sureAddr,Sem.run_bind,Sem.run_pure,Result.andThen_ok,run_underlying tZ,h0,hm,and_self,if_true,oO rfl T7]
 rfl
theorem oR{d t:Nat}{x:Operand}{T:List (Nat×TI)}(hT:cu cf.P T){ti:TI}{ad:Addr}{c:AT}(fL:it.o.op=.load t x)(hd:it.o.dst=some d)(hg:bt it.guard env=some true)(hN:Nat.blt d cf.N=true)(ec:(match it.tag with | .pure=>false | _=>true)=true)(hx:bP env x=some (.a (.v (.pointer (some ad)))))(ht:eX T t=some ti)(yz:ti.agg=false)(hv:σ.cell ad=some c.val)(hc:c.lt 0)(k:OJ cf rest Q σ ((d,.a c)::env) hp A nh): OJ cf (it::rest) Q σ env hp A nh:=by
 refine tk (.a c) hd hg hN (AT.eT (ay _) hc) ec (fun _ a β ha w hw=>?_) k
 obtain⟨inf,d',z,hs⟩:=bK (hT _ _ ht)
 have mV:=al.mb hw hv
 have Eo:a.eval x=.pointer (some ad):=aD ha hx
 have C4:(load ad).run cf.P w=.ok c.val w:=by rw[run_load,mV]
 simp only[execOp,fL,Instr.loadAt,Eo,Instr.sureAddr,loadVar,Sem.run_bind,Sem.run_pure,Result.andThen_ok,jK hs.qx,hs.agg,yz,dI,if_false,C4]
 simp only[SV.den,AT.qi hc β]
theorem dy.QW{β:Nat->Addr}{w:World}{i:Nat}{e:TypeId}{cs AU:List AT}(h0:hp.get i=some (.loc e,cs))(heq:cs.map (AT.den β)=AU.map (AT.den β))(h:dy cf σ hp A β w): dy cf σ ((i,.loc e,AU)::hp) A β w:=by
 have iG:∀ {j:Nat} {k:HK} {l:List AT},HP.get ((i,HK.loc e,AU)::hp) j=some (k,l)->(j=i/\k=.loc e/\l=AU)\/hp.get j=some (k,l):=by
  intro j k l hj
  rw[HP.ee] at hj
  by_cases iP:i=j
  ·rw[au iP] at hj
   injection hj with hj
   simp only[cC] at hj
   exact .inl ⟨iP.symm,hj.1.symm,hj.2.symm⟩
  ·rw[ai iP] at hj;exact .inr hj
 refine⟨h.os,h.tape,h.output,h.size,h.fr,h.cQ,h.le,h.grow,fun j e' l hj=>?_,fun j l hj=>?_,fun j k e1 e2 l1 l2 hj hk=>?_,h.arr,h.iR,fun j k E e' l hE hk=>?_⟩
 ·rcases iG hj with⟨rfl,hk,rfl⟩ | tC
  ·injection hk with hk
   subst hk
   rw[<-heq]
   exact h.loc _ _ _ h0
  ·exact h.loc j e' l tC
 ·rcases iG hj with⟨_,hk,_⟩ | tC
  ·cases hk
  ·exact h.ro j l tC
 ·rcases iG hj with⟨rfl,ZM,rfl⟩ | tC<;>rcases iG hk with⟨rfl,zm,rfl⟩ | Hx
  ·intro _;rfl
  ·exact h.inj _ _ _ _ _ _ h0 Hx
  ·exact h.inj _ _ _ _ _ _ tC h0
  ·exact h.inj _ _ _ _ _ _ tC Hx
 ·rcases iG hk with⟨rfl,_,rfl⟩ | Hx
  ·exact h.iL j _ E e cs hE h0
  ·exact h.iL j k E e' l hE Hx
theorem qq{ex:Exit}(i:Nat)(AU:List AT){e:TypeId}{cs:List AT}(h0:hp.get i=some (.loc e,cs))(heq:∀ β,cs.map (AT.den β)=AU.map (AT.den β))(dj:∀ c∈AU,c.lt nh)(k:NJ cf ex Q σ env ((i,.loc e,AU)::hp) A nh): NJ cf ex Q σ env hp A nh :=
 ⟨fun hb a β w ha hw=>k.run (hb.row (hb.hp i _ _ h0).1 dj) a β w ha (hw.QW h0 (heq β))⟩
theorem PG{c:Code}(i:Nat)(AU:List AT){e:TypeId}{cs:List AT}(h0:hp.get i=some (.loc e,cs))(heq:∀ β,cs.map (AT.den β)=AU.map (AT.den β))(dj:∀ c∈AU,c.lt nh)(k:CJ cf c Q σ env ((i,.loc e,AU)::hp) A nh): CJ cf c Q σ env hp A nh :=
 ⟨fun hb a β w ha hw=>k.run (hb.row (hb.hp i _ _ h0).1 dj) a β w ha (hw.QW h0 (heq β))⟩
end
theorem M9: ∀(cs:List AT) (off:Nat) (c:AT),off<cs.length->lay cs off [c]=some (cs.set off c)
 | [],off,c,h=>by simp at h
 | x::cs,0,c,h=>by cases cs<;>simp[lay]
 | x::cs,off+1,c,h=>by
  simp only[lay,M9 cs off c (by simpa using h),Option.map_some,nf]
section
variable {cf:Cf} {Q:Exit->Act->World->Prop} {σ:al} {env:Env} {hp:HP} {A:List AE} {nh:Nat} {it:Item} {rest:List Item}
theorem OI{T:List (Nat×TI)}(hT:cu cf.P T){t:TypeId}{x y:Operand}{ti:TI}{h off:Nat}{e:TypeId}{cs:List AT}{c:AT}(fL:it.o.op=.store t x y)(hd:it.o.dst=none)(hg:bt it.guard env=some true)(ec:iV it.tag=true)(hx:bP env x=some (.a (.p h off)))(hy:bP env y=some (.a c))(mU:c.one=true)(ht:eX T t=some ti)(jZ:Nat.beq 1 ti.size=true)(bU:hp.get h=some (.loc e,cs))(GH:off<cs.length)(k:OJ cf rest Q σ env ((h,.loc e,cs.set off c)::hp) A nh): OJ cf (it::rest) Q σ env hp A nh:=by
 refine U9 hT (i:=h) (e:=e) (cs:=cs.set off c) ?_ hd hg ec k
 rw[fL]
 simp only[ev,hx,ht,hy,Option.bind_some,SV.cells,mU,cond_true,bU,b8,jZ,List.all_cons,List.all_nil,mh,M9 cs off c GH,Option.map_some]
end
section
variable {cf:Cf} {Q:Exit->Act->World->Prop} {σ:al} {env:Env} {hp:HP} {A:List AE} {nh:Nat} {it:Item} {rest:List Item}
theorem I5{T:List (Nat×TI)}(hT:cu cf.P T){d:Nat}{t e len:Nat}{parts:Array (Nat×Operand)}{ti te:TI}{l:List AT}(tZ:cf.P.underlying t=some (.array len e))(fL:it.o.op=.build t parts)(hd:it.o.dst=some d)(hg:bt it.guard env=some true)(hN:Nat.blt d cf.N=true)(ht:eX T t=some ti)(qf:eX T e=some te)(hl:FE env te.size 0 parts.toList=some l)(hlen:Nat.beq ti.zero.length (parts.toList.length*te.size)=true)(k:OJ cf rest Q σ ((d,.agg l)::env) hp A nh): OJ cf (it::rest) Q σ env hp A nh:=by
 refine⟨fun hb a β ha hex=>?_⟩
 obtain⟨h1,h2,h3⟩:=x6 (β:=β) ha hb te.size parts.toList 0 l hl
 refine(jB (cf:=cf) (.agg l) hd hg hN h2 (fun hb a β ha w=>?_) k).run hb a β ha hex
 obtain⟨inf,d',z,hs⟩:=bK (hT _ _ ht)
 obtain⟨ie,de,ze,Ep⟩:=bK (hT _ _ qf)
 obtain⟨h1,h2,h3⟩:=x6 (β:=β) ha hb te.size parts.toList 0 l hl
 have C1:(Array.map (fun x=>match x with | (i,x)=>(i,a.eval x)) parts).toList=parts.toList.map fun p=>(p.1,a.eval p.2):=by simp
 have hz:z.cells.size=(0+parts.toList.length)*te.size:=by
  have:=zero_den hs β
  rw[<-this,cG,<-dX hlen]
  simp
 have hf:=h3 z.cells hz
 simp only[Nat.zero_mul,fv,cF] at hf
 simp only[execOp,fL,Instr.build,Sem.run_bind,pg hs.info hs.zero,run_underlying tZ,Result.andThen_ok,gO Ep.info,Ep.size,C1,hf,Sem.run_pure]
 rfl
end
end Go.Sy
namespace Go.Sy
def ju (l:List UInt8):ByteArray:=⟨l.toArray⟩
theorem oS(s:ByteArray): ∃ l,s=ju l:=⟨s.data.toList,rfl⟩
@[simp] theorem gB (l:List UInt8):(ju l).size=l.length:=by simp[ju,ByteArray.size]
@[simp] theorem jr (l:List UInt8):(ju l).data.toList=l:=rfl
theorem Ac(l:List UInt8)(a b:Nat): (ju l).extract a b=ju ((l.take b).drop a):=by
 apply ByteArray.ext
 rw[ByteArray.data_extract]
 apply Array.ext'
 simp[ju,List.extract_eq_take_drop,List.drop_take]
theorem Bk{a b:List UInt8}(h:ju a=ju b): a=b:=by
 have:=aN (fun s:ByteArray=>s.data.toList) h
 simpa using this
def kz (n:Nat):List AT->Prop
 | []=>True
 | c::l=>c.lt n/\kz n l
theorem kz.of{n:Nat}: ∀ {l:List AT},kz n l->∀ c∈l,c.lt n
 | [],_,_,h=>by cases h
 | y::l,h,z,hz=>by
  cases hz with
  | head=>exact h.1
  | tail _ hz=>exact kz.of h.2 z hz
structure oh where
 neg:Bool
 dg:ByteArray
 ex:Int
deriving DecidableEq
inductive aJ where
 | mk (kind:Int) (b:Bool) (n:oh) (s:ByteArray) (l:List aJ) (ks:List ByteArray) (vs:List aJ)
namespace aJ
def kind:aJ->Int | mk k _ _ _ _ _ _=>k
def b:aJ->Bool | mk _ b _ _ _ _ _=>b
def n:aJ->oh | mk _ _ n _ _ _ _=>n
def s:aJ->ByteArray | mk _ _ _ s _ _ _=>s
def l:aJ->List aJ | mk _ _ _ _ l _ _=>l
def ks:aJ->List ByteArray | mk _ _ _ _ _ ks _=>ks
def vs:aJ->List aJ | mk _ _ _ _ _ _ vs=>vs
end aJ
def lC (d:oh):List AT:=[.b d.neg,.v (.string d.dg),.v (.int .i64 d.ex)]
theorem dw(n:Nat)(d:oh): ∀ c∈lC d,c.lt n:=by simp[lC,AT.lt]
def qJ (k:ByteArray) (r:List AT):List AT:=.v (.string k)::r
def ig:List ByteArray->List (List AT)->List (List AT)
 | k::ks,r::rs=>qJ k r::ig ks rs
 | _,_=>[]
def bJ:Nat:=140737488351232
mutual
def eQ (σ:al):aJ->List AT->Prop
 | .mk k b n s l ks vs,r=>∃ la lc fG ma mc ft,
   r=[.v (.int .i64 k),.b b,.b n.neg,.v (.string n.dg),.v (.int .i64 n.ex),.v (.string s),.v (.slice la l.length lc),.v (.slice ma ks.length mc)] /\
   bu σ la l.length lc 8 fG/\fJ σ l fG/\ks.length=vs.length/\bu σ ma ks.length mc 9 (ig ks ft)/\fJ σ vs ft /\
   n.dg.size<=bJ/\s.size<=bJ/\l.length<=bJ/\ks.length<=bJ/\(∀ k∈ks,k.size<=bJ)
def fJ (σ:al):List aJ->List (List AT)->Prop
 | [],rs=>rs=[]
 | g::gs,rs=>∃ r IB,rs=r::IB/\eQ σ g r/\fJ σ gs IB
end
mutual
theorem eQ.mono{σ bD:al}(h:σ.le bD): ∀ {g:aJ} {r:List AT},eQ σ g r->eQ bD g r
 | .mk k b n s l ks vs,r,hr=>by
  simp only[eQ] at hr ⊢
  obtain⟨la,lc,fG,ma,mc,ft,h1,h2,h3,h4,h5,h6,h7⟩:=hr
  exact⟨la,lc,fG,ma,mc,ft,h1,h2.mono h,fJ.mono h h3,h4,h5.mono h,fJ.mono h h6,h7⟩
theorem fJ.mono{σ bD:al}(h:σ.le bD): ∀ {gs:List aJ} {rs:List (List AT)},fJ σ gs rs->fJ bD gs rs
 | [],_,hr=>by simp only[fJ] at hr ⊢;exact hr
 | g::gs,rs,hr=>by
  simp only[fJ] at hr ⊢
  obtain⟨r,IB,h1,h2,h3⟩:=hr
  exact⟨r,IB,h1,eQ.mono h h2,fJ.mono h h3⟩
end
theorem fJ.len{σ:al}: ∀ {gs:List aJ} {rs:List (List AT)},fJ σ gs rs->rs.length=gs.length
 | [],_,h=>by simp only[fJ] at h;subst h;rfl
 | g::gs,rs,h=>by
  simp only[fJ] at h
  obtain⟨r,IB,rfl,_,h3⟩:=h
  simp[fJ.len h3]
theorem fJ.get{σ:al}: ∀ {gs:List aJ} {rs:List (List AT)} {i:Nat} {g:aJ},fJ σ gs rs->gs[i]?=some g->∃ r,rs[i]?=some r/\eQ σ g r
 | [],_,_,_,_,hi=>by simp at hi
 | g::gs,rs,0,g',h,hi=>by
  simp only[fJ] at h
  obtain⟨r,IB,rfl,h2,_⟩:=h
  simp at hi
  subst hi
  exact⟨r,rfl,h2⟩
 | g::gs,rs,i+1,g',h,hi=>by
  simp only[fJ] at h
  obtain⟨r,IB,rfl,_,h3⟩:=h
  obtain⟨r',h4,h5⟩:=fJ.get h3 (i:=i) (by simpa using hi)
  exact⟨r',by simpa using h4,h5⟩
theorem fJ.append{σ:al}: ∀ {gs hs:List aJ} {rs qs:List (List AT)},fJ σ gs rs->fJ σ hs qs->fJ σ (gs++hs) (rs++qs)
 | [],hs,rs,qs,h,h'=>by simp only[fJ] at h;subst h;simpa using h'
 | g::gs,hs,rs,qs,h,h'=>by
  simp only[fJ] at h
  obtain⟨r,IB,rfl,h2,h3⟩:=h
  simp only[aZ,fJ]
  exact⟨r,IB++qs,rfl,h2,fJ.append h3 h'⟩
theorem pt: ∀ {ks:List ByteArray} {rs:List (List AT)},ks.length=rs.length->(ig ks rs).length=ks.length
 | [],rs,h=>by simp[ig]
 | k::ks,[],h=>by simp at h
 | k::ks,r::rs,h=>by simp[ig,pt (ks:=ks) (rs:=rs) (by simpa using h)]
theorem ia: ∀ {ks:List ByteArray} {rs:List (List AT)} {i:Nat} {k:ByteArray} {r:List AT},ks[i]?=some k->rs[i]?=some r->(ig ks rs)[i]?=some (qJ k r)
 | [],_,_,_,_,h,_=>by simp at h
 | _::_,[],_,_,_,_,h=>by simp at h
 | k::ks,r::rs,0,k',r',h,h'=>by simp at h h';subst h;subst h';rfl
 | k::ks,r::rs,i+1,k',r',h,h'=>by
  simp only[ig,bg]
  exact ia (by simpa using h) (by simpa using h')
theorem eQ.len{σ:al}{g:aJ}{r:List AT}(h:eQ σ g r): r.length=8:=by
 cases g
 simp only[eQ] at h
 obtain⟨_,_,_,_,_,_,rfl,_⟩:=h
 rfl
theorem eQ.qv{σ:al}{g:aJ}{r:List AT}(h:eQ σ g r): ∀ c∈r,c.lt 0:=by
 cases g
 simp only[eQ] at h
 obtain⟨_,_,_,_,_,_,rfl,_⟩:=h
 simp[AT.lt]
theorem eQ.one{σ:al}{g:aJ}{r:List AT}(h:eQ σ g r): r.all AT.one=true:=by
 cases g
 simp only[eQ] at h
 obtain⟨_,_,_,_,_,_,rfl,_⟩:=h
 rfl
structure PQ (σ:al) (g:aJ) (la:Option Addr) (lc:Nat) (fG:List (List AT)) (ma:Option Addr) (mc:Nat) (ft:List (List AT)):Prop where
 L:bu σ la g.l.length lc 8 fG
 l:fJ σ g.l fG
 kv:g.ks.length=g.vs.length
 M:bu σ ma g.ks.length mc 9 (ig g.ks ft)
 v:fJ σ g.vs ft
 dg:g.n.dg.size<=bJ
 s:g.s.size<=bJ
 ll:g.l.length<=bJ
 kl:g.ks.length<=bJ
 kk:∀ k∈g.ks,k.size<=bJ
def dN (g:aJ) (la:Option Addr) (lc:Nat) (ma:Option Addr) (mc:Nat):List AT :=
 [.v (.int .i64 g.kind),.b g.b,.b g.n.neg,.v (.string g.n.dg),.v (.int .i64 g.n.ex),.v (.string g.s),.v (.slice la g.l.length lc),.v (.slice ma g.ks.length mc)]
theorem dF(n:Nat)(g:aJ)(la:Option Addr)(lc:Nat)(ma:Option Addr)(mc:Nat): ∀ c∈dN g la lc ma mc,c.lt n:=by simp[dN,AT.lt]
theorem eQ.open{σ:al}{g:aJ}{r:List AT}(h:eQ σ g r): ∃ la lc fG ma mc ft,r=dN g la lc ma mc/\PQ σ g la lc fG ma mc ft:=by
 cases g
 simp only[eQ] at h
 obtain⟨la,lc,fG,ma,mc,ft,rfl,h2,h3,h4,h5,h6,h7,h8,h9,uS,ZS⟩:=h
 exact⟨la,lc,fG,ma,mc,ft,rfl,h2,h3,h4,h5,h6,h7,h8,h9,uS,ZS⟩
theorem PQ.rep{σ:al}{g:aJ}{la:Option Addr}{lc:Nat}{fG:List (List AT)}{ma:Option Addr}{mc:Nat}{ft:List (List AT)}(h:PQ σ g la lc fG ma mc ft): eQ σ g (dN g la lc ma mc):=by
 cases g
 simp only[eQ]
 exact⟨la,lc,fG,ma,mc,ft,rfl,h.L,h.l,h.kv,h.M,h.v,h.dg,h.s,h.ll,h.kl,h.kk⟩
theorem PQ.ah8{σ:al}{g:aJ}{la:Option Addr}{lc:Nat}{fG:List (List AT)}{ma:Option Addr}{mc:Nat}{ft:List (List AT)}(h:PQ σ g la lc fG ma mc ft): ft.length=g.ks.length:=by
 rw[h.v.len,h.kv]
def mQ:List ByteArray->Nat
 | []=>0
 | k::ks=>k.size+mQ ks
mutual
def aJ.weight:aJ->Nat
 | .mk _ _ n s l ks vs=>1+s.size+n.dg.size+aJ.weights l+mQ ks+aJ.weights vs
def aJ.weights:List aJ->Nat
 | []=>0
 | g::gs=>g.weight+aJ.weights gs
end
theorem uq: ∀(a b:List aJ),aJ.weights (a++b)=aJ.weights a+aJ.weights b
 | [],b=>by simp[aJ.weights]
 | g::a,b=>by simp only[aZ,aJ.weights,uq a b];omega
theorem xy: ∀(a b:List ByteArray),mQ (a++b)=mQ a+mQ b
 | [],b=>by simp[mQ]
 | g::a,b=>by simp only[aZ,mQ,xy a b];omega
theorem xm{l:List aJ}{i:Nat}{g:aJ}(h:l[i]?=some g): aJ.weights (l.take (i+1))=aJ.weights (l.take i)+g.weight:=by
 have dj:=(ah.1 h).1
 rw[ak dj,uq]
 simp only[aJ.weights,eM]
 rw[(ah.1 h).2]
theorem KV{l:List ByteArray}{i:Nat}{k:ByteArray}(h:l[i]?=some k): mQ (l.take (i+1))=mQ (l.take i)+k.size:=by
 have dj:=(ah.1 h).1
 rw[ak dj,xy]
 simp only[mQ,eM]
 rw[(ah.1 h).2]
theorem aJ.mq(g:aJ): g.weight=1+g.s.size+g.n.dg.size+aJ.weights g.l+mQ g.ks+aJ.weights g.vs:=by
 cases g;simp only[aJ.weight,aJ.s,aJ.n,aJ.l,aJ.ks,aJ.vs]
theorem BG(g:aJ): 0<g.weight:=by rw[aJ.mq];omega
theorem BH{l:List aJ}{g:aJ}(h:g∈l): g.weight<=aJ.weights l:=by
 induction l with
 | nil=>cases h
 | cons x l ih =>
  simp only[aJ.weights]
  cases h with
  | head=>omega
  | tail _ h=>have:=ih h;omega
theorem nj(l:List aJ): l.length<=aJ.weights l:=by
 induction l with
 | nil=>simp
 | cons x l ih=>simp only[aJ.weights,List.length_cons];have:=BG x;omega
theorem QI{l:List ByteArray}{k:ByteArray}(h:k∈l): k.size<=mQ l:=by
 induction l with
 | nil=>cases h
 | cons x l ih =>
  simp only[mQ]
  cases h with
  | head=>omega
  | tail _ h=>have:=ih h;omega
theorem aJ.sL{p:aJ->Prop}(h:∀ g,(∀ g',g'.weight<g.weight->p g')->p g)(g:aJ): p g:=by
 have key:∀ n,∀ g:aJ,g.weight<=n->p g:=by
  intro n
  induction n with
  | zero=>intro g hg;have:=BG g;omega
  | succ n ih=>intro g hg;exact h g fun g' hg'=>ih g' Zo
 exact key g.weight g (aq _)
theorem xp{g x:aJ}(h:x∈g.l): x.weight<g.weight:=by
 have:=BH h;rw[g.mq];omega
theorem xn{g x:aJ}(h:x∈g.vs): x.weight<g.weight:=by
 have:=BH h;rw[g.mq];omega
end Go.Sy
namespace Go.Sy
open Go.MapKept
def al.Bw (σ bD:al):Prop:=∀ a v,σ.cell a=some v->bD.cell a=some v
theorem al.le.Bw{σ bD:al}(h:σ.le bD): σ.Bw bD:=fun _ _ hv=>h.cell hv
theorem al.Tn(σ:al): σ.Bw σ:=fun _ _ h=>h
theorem al.FO{a b c:al}(h:a.Bw b)(h':b.Bw c): a.Bw c:=fun x v hx=>h' x v (h x v hx)
theorem bu.k6{σ bD:al}{ao:Option Addr}{n cap sz:Nat}{rows:List (List AT)}(h:bu σ ao n cap sz rows)(hle:σ.Bw bD): bu bD ao n cap sz rows:=by
 refine⟨h.len,h.pn,h.qv,?_⟩
 rcases h.at_ with h0 | ⟨ad,h1,h2⟩
 ·exact .inl h0
 ·exact .inr ⟨ad,h1,fun i r j c hr hc=>hle _ _ (h2 i r j c hr hc)⟩
mutual
theorem eQ.k6{σ bD:al}(h:σ.Bw bD): ∀ {g:aJ} {r:List AT},eQ σ g r->eQ bD g r
 | .mk k b n s l ks vs,r,hr=>by
  simp only[eQ] at hr ⊢
  obtain⟨la,lc,fG,ma,mc,ft,h1,h2,h3,h4,h5,h6,h7⟩:=hr
  exact⟨la,lc,fG,ma,mc,ft,h1,h2.k6 h,fJ.k6 h h3,h4,h5.k6 h,fJ.k6 h h6,h7⟩
theorem fJ.k6{σ bD:al}(h:σ.Bw bD): ∀ {gs:List aJ} {rs:List (List AT)},fJ σ gs rs->fJ bD gs rs
 | [],_,hr=>by simp only[fJ] at hr ⊢;exact hr
 | g::gs,rs,hr=>by
  simp only[fJ] at hr ⊢
  obtain⟨r,IB,h1,h2,h3⟩:=hr
  exact⟨r,IB,h1,eQ.k6 h h2,fJ.k6 h h3⟩
end
def qE:Obj->Bool
 | .cells _ _ _=>false
 | _=>true
def al.set (σ:al) (b:Nat) (o:Option Obj):al:=fun i=>if i=b then o else σ i
theorem al.hY(σ:al)(b:Nat)(o:Option Obj): σ.set b o b=o:=by simp[al.set]
theorem al.im{σ:al}{b i:Nat}{o:Option Obj}(h:i≠b): σ.set b o i=σ i:=by simp[al.set,h]
theorem al.mW{σ:al}{b:Nat}{o':Option Obj}(h:∀ o,σ b=some o->qE o=true)(h':∀ o,o'=some o->qE o=true)(a:Addr): (σ.set b o').cell a=σ.cell a:=by
 unfold al.cell
 by_cases YQ:a.block=b
 ·rw[YQ,al.hY]
  have h1:∀ x:Option Obj,(∀ o,x=some o->qE o=true)->(match x with | some (.cells c _ _)=>(if a.spot.isSome then none else c[a.off]?) | _=>none)=none:=by
   intro x hx
   cases x with
   | none=>rfl
   | some o =>
    have:=hx o rfl
    cases o<;>first | rfl | cases this
  exact(h1 _ h').trans (h1 _ h).symm
 ·rw[al.im YQ]
section
variable {cf:Cf} {σ:al} {hp:HP} {A:List AE} {β:Nat->Addr} {w w':World}
theorem dy.yZ{b:Nat}{o:Obj}(h:dy cf σ hp A β w)(hb:w.heap[b]?=some o)(ho:qE o=true): ∀ o1,σ b=some o1->qE o1=true:=by
 intro o1 h1
 have:=h.cQ _ _ h1
 rw[hb] at this
 injection this with this
 subst this
 exact ho
theorem dy.swap{b:Nat}{o:Obj}(s:Option Obj)(h:dy cf σ hp A β w)(hb:w.heap[b]?=some o)(ho:qE o=true)(h0:cf.kC b=none)(tw:PV cf b)(h1:w'.os=w.os)(h2:w'.tape=w.tape)(h3:w'.output=w.output)(jZ:w'.heap.size=w.heap.size)(tz:∀ c,c≠b->w'.heap[c]?=w.heap[c]?)(hs:∀ o',s=some o'->w'.heap[b]?=some o'/\qE o'=true): dy cf (σ.set b s) hp A β w':=by
 have pO:∀ {c:Nat} {cs:Array Value} {e:TypeId} {f:Nat×Nat},w.heap[c]?=some (.cells cs e f)->c≠b:=fun hc e=>by subst e;rw[hb] at hc;injection hc with hc;subst hc;cases ho
 have mV:∀ a,(σ.set b s).cell a=σ.cell a:=al.mW (h.yZ hb ho) fun o' e=>(hs o' e).2
 refine⟨h1.trans h.os,h2.trans h.tape,h3.trans h.output,by rw[jZ];exact h.size,fun c hc hm=>?_,fun c o' hc=>?_,fun c o' hc=>?_,fun c hc=>?_,fun i e cs hi=>?_,fun i cs hi j c hc=>?_,h.inj,fun i E hE=>?_,h.iR,h.iL⟩
 ·have jv:c≠b:=fun e=>by
   subst e
   rcases tw with ho | ho
   ·omega
   ·exact hm ho
  rw[tz c jv];exact h.fr c hc hm
 ·by_cases DX:c=b
  ·subst DX
   rw[al.hY] at hc
   exact(hs o' hc).1
  ·rw[al.im DX] at hc
   rw[tz c DX];exact h.cQ c o' hc
 ·have DX:c≠b:=fun e=>by subst e;rw[h0] at hc;cases hc
  rw[al.im DX]
  exact h.le c o' hc
 ·by_cases DX:c=b
  ·subst DX;exact .inr tw
  ·rw[al.im DX] at hc;exact h.grow c hc
 ·obtain⟨h1,h2,h3,h4⟩:=h.loc i e cs hi
  have jv:=pO h2
  exact⟨h1,by rw[tz _ jv];exact h2,by rw[al.im jv];exact h3,h4⟩
 ·rw[mV];exact h.ro i cs hi j c hc
 ·obtain⟨h1,h2⟩:=h.arr i E hE
  refine⟨h1,h2.imp id ?_⟩
  rintro⟨g,cur,h3,h4,h5,h6,h7,h8,h9,uS⟩
  have jv:=pO h4
  exact⟨g,cur,h3,by rw[tz _ jv];exact h4,h5,h6,h7,h8,by rw[al.im jv];exact h9,uS⟩
theorem dy.Gj{b:Nat}{o:Obj}(h:dy cf σ hp A β w)(hb:σ b=some o)(h0:cf.kC b=none): PV cf b:=(h.grow b (by rw[hb];simp)).resolve_left fun hc=>hc h0
theorem KX{w:World}{b:Nat}{o o':Obj}(hb:w.heap[b]?=some o): (w.heap.setIfInBounds b o')[b]?=some o':=(heap_set (o':=o') hb).1
theorem Ir{w:World}{b c:Nat}{o o':Obj}(hb:w.heap[b]?=some o)(h:c≠b): (w.heap.setIfInBounds b o')[c]?=w.heap[c]?:=(heap_set (o':=o') hb).2 c h
theorem dy.Uw{b:Nat}{o o':Obj}(h:dy cf σ hp A β w)(hb:σ b=some o)(ho:qE o=true)(ho':qE o'=true)(h0:cf.kC b=none): dy cf (σ.set b (some o')) hp A β { w with heap:=w.heap.setIfInBounds b o' } :=
 h.swap (some o') (h.cQ _ _ hb) ho h0 (h.Gj hb h0) Z Z Z (by simp) (fun c hc=>Ir (h.cQ _ _ hb) hc) fun o1 e=>by
  injection e with e
  subst e
  exact⟨KX (h.cQ _ _ hb),ho'⟩
theorem dy.lay{o:Obj}(h:dy cf σ hp A β w)(ho:qE o=true): σ w.heap.size=none/\dy cf (σ.set w.heap.size (some o)) hp A β (w.alloc o):=by
 have hold:∀ b,b<w.heap.size->(w.alloc o).heap[b]?=w.heap[b]?:=fun b hb=>by show(w.heap.push _)[b]?=_;rw[jq,ai (Nat.ne_of_lt hb)]
 have qY:σ w.heap.size=none:=by
  cases hs:σ w.heap.size with
  | none=>rfl
  | some ob =>
   have:=h.cQ _ _ hs
   have:=(bH.1 this).1
   omega
 have mV:∀ a,(σ.set w.heap.size (some o)).cell a=σ.cell a:=al.mW (fun o1 h1=>by rw[qY] at h1;cases h1) fun o' e=>by injection e with e;subst e;exact ho
 refine⟨qY,h.os,h.tape,h.output,by have:=h.size;simp only[World.alloc,Array.size_push];omega,fun b hb hm=>?_,fun b ob hs=>?_,fun b ob hs=>?_,fun b hb=>?_,fun i e cs hi=>?_,fun i cs hi j c hc=>?_,h.inj,fun i E hE=>?_,h.iR,h.iL⟩
 ·rw[hold b (fC hb h.size)];exact h.fr b hb hm
 ·by_cases SF:b=w.heap.size
  ·subst SF
   rw[al.hY] at hs
   injection hs with hs
   subst hs
   exact Go.heap_alloc_new w _
  ·rw[al.im SF] at hs
   have:=h.cQ b ob hs
   rw[hold b (bH.1 this).1];exact this
 ·have h1:=h.le b ob hs
  have jv:b≠w.heap.size:=fun e=>by rw[e,qY] at h1;cases h1
  rw[al.im jv];exact h1
 ·by_cases SF:b=w.heap.size
  ·subst SF;exact .inr (.inl h.size)
  ·rw[al.im SF] at hb;exact h.grow b hb
 ·obtain⟨h1,h2,h3,h4⟩:=h.loc i e cs hi
  have dj:=(bH.1 h2).1
  exact⟨h1,by rw[hold _ dj];exact h2,by rw[al.im (Nat.ne_of_lt dj)];exact h3,h4⟩
 ·rw[mV];exact h.ro i cs hi j c hc
 ·obtain⟨h1,h2⟩:=h.arr i E hE
  refine⟨h1,h2.imp id ?_⟩
  rintro⟨g,cur,h3,h4,h5,h6,h7,h8,h9,uS⟩
  have dj:=(bH.1 h4).1
  exact⟨g,cur,h3,by rw[hold _ dj];exact h4,h5,h6,h7,h8,by rw[al.im (Nat.ne_of_lt dj)];exact h9,uS⟩
end
section
variable {κ:Type} [DecidableEq κ]
def mix:List (κ×Value)->κ->Nat->Option (Nat×Value)
 | [],_,_=>none
 | p::l,k,i=>if p.1=k then some (i,p.2) else mix l k (i+1)
def rp (l:List (κ×Value)) (k:κ):Option Value:=(mix l k 0).map (·.2)
def xO:List (κ×Value)->κ->Value->List (κ×Value)
 | [],k,v=>[(k,v)]
 | p::l,k,v=>if p.1=k then (k,v)::l else p::xO l k v
theorem RN: ∀(l:List (κ×Value)) (k:κ) (i m:Nat) (v:Value),mix l k i=some (m,v)->i<=m
 | [],_,_,_,_,h=>by cases h
 | p::l,k,i,m,v,h=>by
  simp only[mix] at h
  split at h
  ·simp only[bf,cC] at h;omega
  ·have:=RN l k (i+1) m v h;omega
theorem Jh: ∀(l:List (κ×Value)) (k:κ) (i:Nat),mix l k i=none↔∀ p∈l,p.1≠k
 | [],_,_=>by simp[mix]
 | p::l,k,i=>by
  simp only[mix]
  split
  ·rename_i h;simp[h]
  ·rename_i h;rw[Jh l k (i+1)];simp[h]
theorem CK: ∀ {l:List (κ×Value)} {k:κ} {v:Value},(∀ p∈l,p.1≠k)->xO l k v=l++[(k,v)]
 | [],_,_,_=>rfl
 | p::l,k,v,h=>by
  simp only[xO,ai (h p (a8 ..)),aZ,CK fun q hq=>h q (ba _ hq)]
variable (mk:κ->Value)
def vX (es:List MapEntry):List (Value×Value):=es.map fun e=>(e.key,e.val)
def pT (l:List (κ×Value)):List (Value×Value):=l.map fun p=>(mk p.1,p.2)
def rH (σ:al) (b:Nat) (l:List (κ×Value)):Prop:=∃ es clock,σ b=some (.map es clock)/\vX es.toList=pT mk l
omit [DecidableEq κ] in
theorem rH.mono{σ bD:al}{b:Nat}{l:List (κ×Value)}(h:rH mk σ b l)(hle:σ.le bD): rH mk bD b l:=by
 obtain⟨es,c,h1,h2⟩:=h
 exact⟨es,c,hle _ _ h1,h2⟩
structure Kt (d:TypeDesc):Prop where
 is:∀ x,IsKey d (mk x)
 inj:∀ x y,mk x=mk y->x=y
variable {mk} {d:TypeDesc} (K:Kt mk d)
include K
theorem zw(k:κ): ∀(es:List MapEntry) (l:List (κ×Value)) (i:Nat),vX es=pT mk l->Instr.findNow d (mk k) es i=some (mix l k i)
 | [],[],i,_=>rfl
 | [],_::_,i,h=>by simp[vX,pT] at h
 | _::_,[],i,h=>by simp[vX,pT] at h
 | e::es,p::l,i,h=>by
  simp only[vX,pT,bx,List.cons.injEq,cC] at h
  obtain⟨⟨h1,h2⟩,h3⟩:=h
  obtain⟨r,hr,Pa⟩:=sameNow_of_keys (K.is k) (K.is p.1)
  simp only[Instr.findNow,h1,hr,mix]
  cases r with
  | true =>
   have:=K.inj _ _ (Pa.1 rfl)
   rw[au this.symm,h2]
  | false =>
   have jv:¬ p.1=k:=fun e=>by have:=Pa.2 (by rw[e]);cases this
   rw[ai jv]
   exact zw k es l (i+1) h3
omit K in
theorem Jf(k:κ)(v:Value): ∀(es:List MapEntry) (l:List (κ×Value)) (i m:Nat) (u:Value),vX es=pT mk l->mix l k i=some (m,u) ->
  vX (es.modify (m - i) fun e=>{ e with key:=mk k,val:=v })=pT mk (xO l k v)/\∃ e,es[m - i]?=some e/\e.key=mk k
 | [],[],i,m,u,_,hm=>by cases hm
 | [],_::_,i,m,u,h,_=>by simp[vX,pT] at h
 | _::_,[],i,m,u,h,_=>by simp[vX,pT] at h
 | e::es,p::l,i,m,u,h,hm=>by
  simp only[vX,pT,bx,List.cons.injEq,cC] at h
  obtain⟨⟨h1,h2⟩,h3⟩:=h
  simp only[mix] at hm
  split at hm
  ·rename_i hp
   simp only[bf,cC] at hm
   obtain⟨rfl,rfl⟩:=hm
   simp only[fM,List.modify_zero_cons,xO,au hp,vX,pT,bx,h3,true_and]
   exact⟨e,rfl,by rw[h1,hp]⟩
  ·rename_i hp
   have Pc:=RN l k (i+1) m u hm
   obtain⟨h4,e',h5,h6⟩:=Jf k v es l (i+1) m u h3 hm
   have hx:m - i=(m - (i+1))+1:=by omega
   rw[hx]
   simp only[List.modify_succ_cons,xO,ai hp]
   refine⟨?_,e',by simpa using h5,h6⟩
   simp only[vX,pT,bx,List.cons.injEq,cC] at h4 ⊢
   exact⟨⟨h1,h2⟩,h4⟩
variable {P:Program} {w:World} {t kt et:TypeId} {b:Nat} {es:Array MapEntry} {clock:Nat} {l:List (κ×Value)}
theorem IA(hm:P.underlying t=some (.map kt et))(hd:P.underlying kt=some d)(hb:w.heap[b]?=some (.map es clock))(hl:vX es.toList=pT mk l){z:Value}(hz:(zeroValue et).run P w=.ok z w)(k:κ)(ok:Bool):
  (Instr.lookup t (.map (some b)) (mk k) ok).run P w=.ok (if ok then .tuple #[(rp l k).getD z,.bool (rp l k).isSome] else (rp l k).getD z) w:=by
 have hf:=run_findKey (P:=P) (w:=w) hd (zw K k es.toList l 0 hl)
 have hc:=run_checkKey (P:=P) (w:=w) hd (K.is k) es.isEmpty 9999
 unfold Instr.lookup rp
 simp only[Sem.run_bind,run_underlying hm,Go.MapKept.run_getObj_map hb,Result.andThen_ok,Sem.run_pure,hc,hf]
 cases hx:mix l k 0 with
 | none=>simp[hz,Result.andThen_ok]
 | some q=>obtain⟨i,v⟩:=q;simp
theorem Iz(hm:P.underlying t=some (.map kt et))(hd:P.underlying kt=some d)(hb:w.heap[b]?=some (.map es clock))(hl:vX es.toList=pT mk l)(k:κ)(v:Value):
  ∃ ZT Dy,vX ZT.toList=pT mk (xO l k v)/\(Instr.mapUpdate t (.map (some b)) (mk k) v).run P w=.ok () { w with heap:=w.heap.setIfInBounds b (.map ZT Dy) }:=by
 have hf:=run_findKey (P:=P) (w:=w) hd (zw K k es.toList l 0 hl)
 have hc:=run_checkKey (P:=P) (w:=w) hd (K.is k) false 9999
 cases hx:mix l k 0 with
 | none =>
  rw[hx] at hf
  refine⟨es.push { key:=mk k,val:=v,born:=clock },clock+1,?_,?_⟩
  ·rw[CK ((Jh l k 0).1 hx)]
   simp only[vX,pT,Array.toList_push,aF,bx,gi] at hl ⊢
   rw[hl]
  ·unfold Instr.mapUpdate
   simp only[Sem.run_bind,run_underlying hm,Go.MapKept.run_getObj_map hb,Result.andThen_ok,hc,hf,Go.MapKept.run_setObj_map _ hb]
 | some q =>
  obtain⟨i,u⟩:=q
  rw[hx] at hf
  obtain⟨h1,e,h2,h3⟩:=Jf k v es.toList l 0 i u hl hx
  simp only[Nat.sub_zero] at h1 h2
  refine⟨es.modify i fun e=>{ e with key:=mk k,val:=v },clock,by rw[Array.toList_modify];exact h1,?_⟩
  have hj:es[i]?=some e:=by simpa using h2
  unfold Instr.mapUpdate
  simp only[Sem.run_bind,run_underlying hm,Go.MapKept.run_getObj_map hb,Result.andThen_ok,hc,hf,hj,Option.map_some,Option.getD_some,h3,run_keyThatStays (K.is k),Go.MapKept.run_setObj_map _ hb]
end
theorem BR{d:TypeDesc}(h:d=.string): Kt Value.string d:=by
 subst h
 exact⟨fun _=>by simp[IsKey],fun _ _ h=>by injection h⟩
theorem Ng{d:TypeDesc}(k:IntKind)(h:d=.int k): Kt (Value.int k) d:=by
 subst h
 exact⟨fun _=>by simp[IsKey],fun _ _ h=>by injection h⟩
section
variable {cf:Cf} {Q:Exit->Act->World->Prop} {σ:al} {env:Env} {hp:HP} {A:List AE} {nh:Nat} {it:Item} {rest:List Item}
theorem CE{κ:Type}(mk:κ->Value){d:Nat}{t:TypeId}(fL:it.o.op=.makeMap t none)(hd:it.o.dst=some d)(hg:bt it.guard env=some true)(hN:Nat.blt d cf.N=true)(hq:qD it.tag=true)(k:∀ b bD,σ b=none->σ.le bD->rH mk bD b []->OJ cf rest Q bD ((d,.a (.v (.map (some b))))::env) hp A nh): OJ cf (it::rest) Q σ env hp A nh:=by
 refine I2 (Φ:=fun v bD=>∃ b,v=.map (some b)/\σ b=none/\rH mk bD b []) hd hg hN hq (fun a β ha w hs=>?_) fun v bD hle ⟨b,hv,h0,hm⟩=>⟨.a (.v (.map (some b))),trivial,hv.symm,k b bD h0 hle hm⟩
 have WW:σ w.heap.size=none:=by
  cases Vt:σ w.heap.size with
  | none=>rfl
  | some o =>
   have:=(bH.1 (hs _ _ Vt)).1
   omega
 have hold:∀ b,b<w.heap.size->(w.alloc (.map #[] 0)).heap[b]?=w.heap[b]?:=fun b hb=>by show(w.heap.push _)[b]?=_;rw[jq,ai (Nat.ne_of_lt hb)]
 refine⟨.map (some w.heap.size),w.alloc (.map #[] 0),fun i=>if i=w.heap.size then some (.map #[] 0) else σ i,?_,⟨rfl,rfl,rfl,by show _<=(w.heap.push _).size;rw[Array.size_push];omega,fun b hb _=>hold b hb⟩,⟨fun b o hb=>?_,fun b hb=>?_⟩,fun b o hb=>?_,_,rfl,WW,?_⟩
 ·simp only[execOp,fL,Option.map_none]
  rfl
 ·show(if b=w.heap.size then some (Obj.map #[] 0) else σ b)=some o
  rw[ai (fun e=>by rw[e,WW] at hb;cases hb)];exact hb
 ·by_cases SF:b=w.heap.size
  ·exact .inr (.inl Zo)
  ·left
   simp only[ai SF] at hb
   exact hb
 ·by_cases SF:b=w.heap.size
  ·simp only[au SF] at hb
   injection hb with hb
   subst hb;subst SF
   exact Go.heap_alloc_new w _
  ·simp only[ai SF] at hb
   have:=hs b o hb
   rw[hold b (bH.1 this).1];exact this
 ·exact⟨#[],0,by simp,rfl⟩
theorem Fa{κ:Type}[DecidableEq κ]{mk:κ->Value}{dd:TypeDesc}(K:Kt mk dd){d:Nat}{t kt et:TypeId}{m x:Operand}{ok:Bool}{b:Nat}{l:List (κ×Value)}{kk:κ}{y:SV}{z:Value}(hm:cf.P.underlying t=some (.map kt et))(vU:cf.P.underlying kt=some dd)(hz:∀ w,(zeroValue et).run cf.P w=.ok z w)(fL:it.o.op=.lookup t m x ok)(hd:it.o.dst=some d)(hg:bt it.guard env=some true)(hN:Nat.blt d cf.N=true)(ht:(match it.tag with | .pure=>false | _=>true)=true)(hmv:bP env m=some (.a (.v (.map (some b)))))(hxv:∃ s,bP env x=some s/\∀ β,s.den β=mk kk)(hM:rH mk σ b l)(dj:y.lt 0)(hy:y.den fy=if ok then .tuple #[(rp l kk).getD z,.bool (rp l kk).isSome] else (rp l kk).getD z)(k:OJ cf rest Q σ ((d,y)::env) hp A nh): OJ cf (it::rest) Q σ env hp A nh:=by
 obtain⟨es,clock,h1,h2⟩:=hM
 obtain⟨s,hs,WT⟩:=hxv
 refine tk y hd hg hN (SV.eT (ay _) dj) ht (fun hb a β ha w hw=>?_) k
 have e1:a.eval m=.map (some b):=aD ha hmv
 have e2:a.eval x=mk kk:=(aD ha hs).trans (WT β)
 have Pf:y.den β=y.den fy:=SV.dM (n:=0) (fun i hi=>by omega) dj
 have hr:=IA K hm vU (hw.cQ _ _ h1) h2 (hz w) kk ok
 simp only[execOp,fL,e1,e2,Sem.run_bind]
 rw[hr,Pf,hy]
 rfl
def Wy:Op->Option (TypeId×Operand×Operand×Operand)
 | .mapUpdate t m x v=>some (t,m,x,v)
 | .insert t m x v=>some (t,m,x,v)
 | _=>none
theorem xL{κ:Type}[DecidableEq κ]{mk:κ->Value}{dd:TypeDesc}(K:Kt mk dd){t kt et:TypeId}{m x v:Operand}{b:Nat}{l:List (κ×Value)}{kk:κ}{vv:Value}(hm:cf.P.underlying t=some (.map kt et))(vU:cf.P.underlying kt=some dd)(fL:Wy it.o.op=some (t,m,x,v))(hd:it.o.dst=none)(hg:bt it.guard env=some true)(ht:iV it.tag=true)(hmv:bP env m=some (.a (.v (.map (some b)))))(hxv:∃ s,bP env x=some s/\∀ β,s.den β=mk kk)(hvv:∃ s,bP env v=some s/\∀ β,s.den β=vv)(hM:rH mk σ b l)(h0:cf.kC b=none)(k:∀ bD,σ.Bw bD->(∀ i,i≠b->bD i=σ i)->rH mk bD b (xO l kk vv)->OJ cf rest Q bD env hp A nh): OJ cf (it::rest) Q σ env hp A nh:=by
 obtain⟨es,clock,h1,h2⟩:=hM
 obtain⟨s,hs,WT⟩:=hxv
 obtain⟨u,hu,Yb⟩:=hvv
 refine⟨fun hb a β ha hex=>?_⟩
 have key:∀ w,dy cf σ hp A β w->∀ Q',it.o.wq cf.P a w (fun a' w'=>∃ E' S':World->Prop,S' w'/\(∀ x,S' x->E' x)/\RunT cf.P Q rest E' S' a') Q':=by
  intro w hw Q'
  have e1:a.eval m=.map (some b):=aD ha hmv
  have e2:a.eval x=mk kk:=(aD ha hs).trans (WT β)
  have e3:a.eval v=vv:=(aD ha hu).trans (Yb β)
  obtain⟨ZT,Dy,h3,h4⟩:=Iz (P:=cf.P) K hm vU (hw.cQ _ _ h1) h2 kk vv
  have ed:(execOp a.eval it.o).run cf.P w=.ok .skip { w with heap:=w.heap.setIfInBounds b (.map ZT Dy) }:=by
   unfold Wy at fL
   split at fL
   ·rename_i Yk
    simp only[bf,cC] at fL
    obtain⟨rfl,rfl,rfl,rfl⟩:=fL
    simp only[execOp,Yk,e1,e2,e3,Sem.run_bind,h4,Result.andThen_ok,Sem.run_pure]
   ·rename_i Yk
    simp only[bf,cC] at fL
    obtain⟨rfl,rfl,rfl,rfl⟩:=fL
    simp only[execOp,Yk,e1,e2,e3,Sem.run_bind,h4,Result.andThen_ok,Sem.run_pure]
   ·cases fL
  have gQ:=hw.Uw (o':=.map ZT Dy) h1 Z Z h0
  unfold Oper.wq
  rw[ed]
  refine⟨_,_,gQ,fun _ h=>h,?_⟩
  rw[hd]
  refine(k _ (fun ad c hc=>?_) (fun i hi=>al.im hi) ⟨ZT,Dy,al.hY ..,h3⟩).run hb a β ha ⟨_,gQ⟩
  rw[al.mW (hw.yZ (hw.cQ _ _ h1) rfl) (fun o e=>by injection e with e;subst e;rfl)];exact hc
 simp only[RunT]
 rw[au (da ha hg)]
 cases ec:it.tag with
 | pure=>rw[ec] at ht;cases ht
 | quiet=>rw[ec] at ht;cases ht
 | dP=>rw[ec] at ht;cases ht
 | sink=>exact fun w hw=>key w hw _
 | free=>exact fun w hw=>key w hw _
end
end Go.Sy
namespace Go.Sy
def al.WK (l:Nat) (σ bD:al):Prop:=(σ.set l none).le bD
theorem al.WK.Bw{l:Nat}{σ bD:al}{r:Loop}(h:σ.WK l bD)(hl:σ l=some (.loop r)): σ.Bw bD:=by
 intro a v hv
 refine al.le.cell h ?_
 rw[al.mW (fun o e=>by rw[hl] at e;injection e with e;subst e;rfl) (fun _ e=>by cases e)]
 exact hv
theorem al.WK.at_{l:Nat}{σ bD:al}(h:σ.WK l bD){b:Nat}{o:Obj}(hb:b≠l)(ho:σ b=some o): bD b=some o:=h b o (by rw[al.im hb];exact ho)
abbrev Kf (P:Program) (w:World) (σ:al) (A:List AE) (l:Nat) (N:Nat) (rd:Option Nat):Cf:=⟨P,w,σ.set l none,fun b=>lL A b\/b=l,N,[],rd⟩
def zZ (P:Program) (w:World) (σ:al) (A:List AE) (l:Nat) (Φ:Value->al->List AE->Prop):Ending->World->Prop :=
 fun e w'=>∃ v bD A',e=.returned v/\dy (Kf P w σ A l 0 none) bD [] A' fy w'/\Φ v bD A'
def Mw (P:Program) (l:Nat) (r:Loop) (args:Array Value) (σ:al) (A:List AE) (Φ:Value->al->List AE->Prop):Prop :=
 ∀ w,dy (Kf P w σ A l 0 none) σ [] A fy w->RoundIn (FR none) 0 P l r.fn ((r.params.zip args).foldl (fun tmps (t,a)=>tmps.setIfInBounds t a) r.tmps) r.assign r.body w (zZ P w σ A l Φ)
def DQ (P:Program) (f:FuncId) (args:Array Value) (l:Nat) (σ:al) (A:List AE) (Φ:Value->al->List AE->Prop):Prop :=
 ∀ w,dy (Kf P w σ A l 0 none) σ [] A fy w->Calls P f args w (zZ P w σ A l Φ)
section
variable {cf:Cf} {σ:al} {hp:HP} {A:List AE} {β:Nat->Addr} {w:World}
theorem dy.NV{P:Program}{w0 w:World}{kC σ:al}{M:Nat->Prop}{N:Nat}{ds:List Deferred}{rd:Option Nat}{hp:HP}{A:List AE}{β:Nat->Addr}(h:dy ⟨P,w0,kC,M,N,ds,rd⟩ σ hp A β w)(N':Nat)(ds':List Deferred)(rd':Option Nat)(nD:Nat->Addr):
  dy ⟨P,w0,kC,M,N',ds',rd'⟩ σ [] A nD w where
 os:=h.os
 tape:=h.tape
 output:=h.output
 size:=h.size
 fr:=h.fr
 cQ:=h.cQ
 le:=h.le
 grow:=h.grow
 loc:=fun _ _ _ h=>by cases h
 ro:=fun _ _ h=>by cases h
 inj:=fun _ _ _ _ _ _ h=>by cases h
 arr:=fun i E hE=>h.arr i E hE
 iR:=h.iR
 iL:=fun _ _ _ _ _ _ h=>by cases h
theorem dy.re{P:Program}{w0 w:World}{kC σ:al}{M:Nat->Prop}{N:Nat}{ds:List Deferred}{rd:Option Nat}{hp:HP}{A:List AE}{β:Nat->Addr}(h:dy ⟨P,w0,kC,M,N,ds,rd⟩ σ hp A β w)(N':Nat)(ds':List Deferred)(rd':Option Nat):
  dy ⟨P,w0,kC,M,N',ds',rd'⟩ σ hp A β w :=
 ⟨h.os,h.tape,h.output,h.size,h.fr,h.cQ,h.le,h.grow,h.loc,h.ro,h.inj,h.arr,h.iR,h.iL⟩
theorem dy.Nw{l:Nat}{A0 Ar:List AE}(h:dy cf σ hp (A0++Ar) β w): dy (Kf cf.P w σ A0 l 0 none) σ [] A0 fy w where
 os:=rfl
 tape:=rfl
 output:=rfl
 size:=aq _
 fr:=fun _ _ _=>rfl
 cQ:=h.cQ
 le:=fun b o (hb:σ.set l none b=some o)=>by
  by_cases Ud:b=l
  ·subst Ud;rw[al.hY] at hb;cases hb
  ·rw[al.im Ud] at hb;exact hb
 grow:=fun b hb=>by
  by_cases Ud:b=l
  ·exact .inr (.inr (.inr Ud))
  ·left;show σ.set l none b≠none;rw[al.im Ud];exact hb
 loc:=fun _ _ _ h=>by cases h
 ro:=fun _ _ h=>by cases h
 inj:=fun _ _ _ _ _ _ h=>by cases h
 arr:=fun i E hE=>by
  have dj:=(ah.1 hE).1
  obtain⟨h1,h2⟩:=h.arr i E (by rw[aV dj];exact hE)
  refine⟨h1,h2.imp id ?_⟩
  rintro⟨g,cur,h3,h4,h5,h6,h7,h8,h9,uS⟩
  exact⟨g,cur,h3,h4,h5,h6,h7,h8,h9,.inr (.inl ⟨E,aC hE,by simp[AE.rS,h3]⟩)⟩
 iR:=fun i j E F hE hF iP=>by
  have hi:=(ah.1 hE).1
  have hj:=(ah.1 hF).1
  exact h.iR i j E F (by rw[aV hi];exact hE) (by rw[aV hj];exact hF) iP
 iL:=fun _ _ _ _ _ _ h=>by cases h
theorem dy.H7{w':World}{bD:al}{l:Nat}{o:Obj}{A0 Ar A1:List AE}(h:dy cf σ hp (A0++Ar) β w)(hl:σ l=some o)(ho:qE o=true)(h0:cf.kC l=none)(h':dy (Kf cf.P w σ A0 l 0 none) bD [] A1 fy w'): dy cf bD hp (A1++Ar) β w':=by
 have ZH:=h.cQ _ _ hl
 have tA:=h.Gj hl h0
 have pO:∀ {c:Nat} {cs:Array Value} {e:TypeId} {f:Nat×Nat},w.heap[c]?=some (.cells cs e f)->c≠l:=fun hc e=>by subst e;rw[ZH] at hc;injection hc with hc;subst hc;cases ho
 have Yy:∀ {E},E∈A0->∃ i,(A0++Ar)[i]?=some E/\i<A0.length:=by
  intro E hE
  obtain⟨i,hi⟩:=List.getElem?_of_mem hE
  have dj:=(ah.1 hi).1
  exact⟨i,by rw[aV dj];exact hi,dj⟩
 have sw:∀ {b},lL A0 b->∃ i E,(A0++Ar)[i]?=some E/\E.rS=some b/\i<A0.length:=by
  rintro b ⟨E,hE,hb⟩
  obtain⟨i,hi,dj⟩:=Yy hE
  exact⟨i,E,hi,hb,dj⟩
 have tw:∀ {b},(lL A0 b\/b=l)->PV cf b:=by
  rintro b (hb | hb)
  ·obtain⟨i,E,hi,hE,_⟩:=sw hb
   exact((h.arr i E hi).lt hE).2.2
  ·subst hb;exact tA
 have hold:∀ b,b<w.heap.size->¬ (lL A0 b\/b=l)->w'.heap[b]?=w.heap[b]?:=h'.fr
 have qY:∀ b,b<w.heap.size->¬ (lL A0 b\/b=l)->σ b=none->bD b=none:=by
  intro b hb ov hn
  cases uR:bD b with
  | none=>rfl
  | some o =>
   rcases h'.grow b (by rw[uR];simp) with h1 | h1 | h1
   ·have h1:σ.set l none b≠none:=h1
    exact absurd hn (by rw[al.im (fun e=>ov (.inr e))] at h1;exact h1)
   ·have:w.heap.size<=b:=h1
    omega
   ·exact absurd h1 ov
 have JC:∀ {b},PV (Kf cf.P w σ A0 l 0 none) b->PV cf b:=by
  rintro b (h1 | h1)
  ·exact .inl (ep h.size h1)
  ·exact tw h1
 have iG:∀ {j:Nat} {E:AE},(A1++Ar)[j]?=some E->(j<A1.length/\A1[j]?=some E)\/(A1.length<=j/\(A0++Ar)[A0.length+(j - A1.length)]?=some E):=by
  intro j E hj
  by_cases dj:j<A1.length
  ·rw[aV dj] at hj;exact .inl ⟨dj,hj⟩
  ·rw[aW Zo] at hj
   refine .inr ⟨by omega,?_⟩
   rw[aW Zo,mP];exact hj
 have rP:∀ {E:AE} {j:Nat} {b:Nat},A1[j]?=some E->E.rS=some b->w.heap.size<=b\/(lL A0 b\/b=l):=by
  intro E j b hE hb
  rcases((h'.arr j E hE).lt hb).2.2 with h1 | h1
  ·exact .inl h1
  ·exact .inr h1
 have C8:∀ {F:AE} {k:Nat} {b:Nat},A0.length<=k->(A0++Ar)[k]?=some F->F.rS=some b->b<w.heap.size/\¬ (lL A0 b\/b=l):=by
  intro F k b hk hF hb
  refine⟨((h.arr k F hF).lt hb).1,?_⟩
  rintro(hc | hc)
  ·obtain⟨i,E,hi,hE,dj⟩:=sw hc
   exact h.iR i k E F hi hF Zo b hE hb
  ·subst hc
   obtain⟨_,h2⟩:=h.arr k F hF
   rcases h2 with⟨h3,_⟩ | ⟨g,cur,h3,h4,_⟩
   ·simp[AE.rS,h3] at hb
   ·simp only[AE.rS,h3,Option.map_some,bf] at hb
    subst hb
    exact pO h4 rfl
 have VN:σ.Bw bD:=by
  intro a v hv
  refine al.le.cell h'.le ?_
  rw[al.mW (h.yZ ZH ho) (fun _ e=>by cases e)]
  exact hv
 refine⟨h'.os.trans h.os,h'.tape.trans h.tape,h'.output.trans h.output,ep h.size h'.size,fun b hb hm=>?_,h'.cQ,fun b o hb=>h'.le b o ?_,fun b hb=>?_,fun i e cs hi=>?_,fun i cs hi j c hc=>VN _ _ (h.ro i cs hi j c hc),h.inj,fun i E hE=>?_,
  fun i j E F hE hF iP=>?_,fun i j E e cs hE hj=>?_⟩
 ·have ov:¬ (lL A0 b\/b=l):=fun hc=>by
   rcases tw hc with h1 | h1
   ·omega
   ·exact hm h1
  rw[hold b (fC hb h.size) ov];exact h.fr b hb hm
 ·have Ud:b≠l:=fun e=>by subst e;rw[h0] at hb;cases hb
  show(σ.set l none) b=some o
  rw[al.im Ud];exact h.le b o hb
 ·rcases h'.grow b hb with h1 | h1
  ·refine h.grow b fun hn=>h1 ?_
   show(σ.set l none) b=none
   by_cases Ud:b=l
   ·subst Ud;exact al.hY ..
   ·rw[al.im Ud];exact hn
  ·exact .inr (JC h1)
 ·obtain⟨h1,h2,h3,h4⟩:=h.loc i e cs hi
  have dj:=(bH.1 h2).1
  have ov:¬ (lL A0 (β i).block\/(β i).block=l):=by
   rintro(hc | hc)
   ·obtain⟨k,E,hk,hE,_⟩:=sw hc
    exact h.iL k i E e cs hk hi hE
   ·exact pO h2 hc
  exact⟨h1,by rw[hold _ dj ov];exact h2,qY _ dj ov h3,h4⟩
 ·rcases iG hE with⟨_,tG⟩ | ⟨hle,tG⟩
  ·obtain⟨h1,h2⟩:=h'.arr i E tG
   refine⟨h1,h2.imp id ?_⟩
   rintro⟨g,cur,h3,h4,h5,h6,h7,h8,h9,uS⟩
   exact⟨g,cur,h3,h4,h5,h6,h7,h8,h9,JC uS⟩
  ·obtain⟨h1,h2⟩:=h.arr _ E tG
   refine⟨h1,h2.imp id ?_⟩
   rintro⟨g,cur,h3,h4,h5,h6,h7,h8,h9,uS⟩
   obtain⟨dj,ov⟩:=C8 Zo tG (b:=g) (by simp[AE.rS,h3])
   exact⟨g,cur,h3,by rw[hold g dj ov];exact h4,h5,h6,h7,h8,qY g dj ov h9,uS⟩
 ·intro b VS VR
  rcases iG hE with⟨hi,tG⟩ | ⟨hi,tG⟩<;>rcases iG hF with⟨hj,Ao⟩ | ⟨hj,Ao⟩
  ·exact h'.iR i j E F tG Ao iP b VS VR
  ·obtain⟨dj,ov⟩:=C8 Zo Ao VR
   rcases rP tG VS with h1 | h1
   ·omega
   ·exact ov h1
  ·obtain⟨dj,ov⟩:=C8 Zo tG VS
   rcases rP Ao VR with h1 | h1
   ·omega
   ·exact ov h1
  ·exact h.iR _ _ E F tG Ao Zo b VS VR
 ·intro hb
  obtain⟨h1,h2,h3,h4⟩:=h.loc j e cs hj
  have dj:=(bH.1 h2).1
  rcases iG hE with⟨_,tG⟩ | ⟨_,tG⟩
  ·rcases rP tG hb with h5 | h5 | h5
   ·omega
   ·obtain⟨k,G,hk,hG,_⟩:=sw h5
    exact h.iL k j G e cs hk hj hG
   ·exact pO h2 h5
  ·exact h.iL _ j E e cs tG hj hb
end
theorem PB{P:Program}{f:FuncId}{fn:Func}{c:Code}{args:Array Value}{w:World}{M:Nat->Prop}{kC σ:al}{R:Ending->World->Prop}(hf:P.funcs[f]?=some fn)(hb:fn.body=some c)(lM:List SV)(A:List AE)(fi:args=(lM.map (SV.den fy)).toArray)(hN:Nat.ble lM.length fn.ntmps=true)(dj:jj lM)(hw:dy ⟨P,w,kC,M,fn.ntmps,[],none⟩ σ [] A fy w)(h:CJ ⟨P,w,kC,M,fn.ntmps,[],none⟩ c (bodyPost P fn R) σ (oZ 0 lM) [] A 0): Calls P f args w R:=by
 have hN:=bh hN
 have dj:=dj.of
 refine calls_of_wp hf hb (HN (h.run ⟨fun i x hx=>?_,fun _ _ _ h=>by cases h⟩ _ fy w ⟨?_,rfl,fun i x hx=>?_⟩ hw))
 ·obtain⟨_,h2⟩:=m9 lM 0 i x hx
  exact dj x (aC h2)
 ·subst fi
  simp only[Array.size_append,fw,aR,Array.size_replicate]
  omega
 ·obtain⟨_,h2⟩:=m9 lM 0 i x hx
  simp only[Nat.sub_zero] at h2
  subst fi
  rw[Array.getElem?_append_left (by simp;exact(ah.1 h2).1)]
  simp[h2]
theorem Td{P:Program}{f:FuncId}{fn:Func}{c:Code}{lM:List SV}{l:Nat}{σ:al}{A:List AE}{Φ:Value->al->List AE->Prop}(hf:P.funcs[f]?=some fn)(hb:fn.body=some c)(hN:Nat.ble lM.length fn.ntmps=true)(dj:jj lM)(h:∀ w,CJ (Kf P w σ A l fn.ntmps none) c (bodyPost P fn (zZ P w σ A l Φ)) σ (oZ 0 lM) [] A 0): DQ P f (lM.map (SV.den fy)).toArray l σ A Φ :=
 fun w hw=>PB hf hb lM A rfl hN dj (hw.re _ _ _) (h w)
theorem Ve{P:Program}{w0:World}{kC:al}{A0:List AE}{l N:Nat}{T:List (Nat×TI)}(hT:cu P T){fn:Func}{Φ:Value->al->List AE->Prop}{σ:al}{env:Env}{hp:HP}{A:List AE}{nh:Nat}{xs:List S1}(hr:AJ T env hp fn.results.toList=some xs)(h:∀ β,Φ ((wb xs).den β) σ A):
  NJ (Kf P w0 kC A0 l N none) .ret (bodyPost P fn (zZ P w0 kC A0 l Φ)) σ env hp A nh:=⟨fun hb _ β _ ha hw =>
 ⟨ha.defers,_,qB (cf:=Kf P w0 kC A0 l N none) hT ha hb hw hr,_,σ,A,rfl,hw.NV _ _ _ _,h β⟩⟩
theorem Vf{P:Program}{w0:World}{kC:al}{A0:List AE}{l N:Nat}{T:List (Nat×TI)}(hT:cu P T){fn:Func}{Φ:Value->al->List AE->Prop}{σ:al}{env:Env}{hp:HP}{A:List AE}{nh:Nat}{xs:List S1}(hr:AJ T env hp fn.results.toList=some xs)(h:∀ β,Φ ((wb xs).den β) σ A):
  NJ (Kf P w0 kC A0 l N none) .normal (bodyPost P fn (zZ P w0 kC A0 l Φ)) σ env hp A nh:=⟨fun hb _ β _ ha hw =>
 ⟨ha.defers,_,qB (cf:=Kf P w0 kC A0 l N none) hT ha hb hw hr,_,σ,A,rfl,hw.NV _ _ _ _,h β⟩⟩
section
variable {cf:Cf} {Q:Exit->Act->World->Prop} {σ:al} {env:Env} {hp:HP} {A:List AE} {nh:Nat} {it:Item} {rest:List Item}
def FZ (env:Env) (op:Op):Option (Nat×List SV) :=
 match op with
 | .call c =>
  match c.callee with
  | .value f =>
   match bP env f,FF env c.args.toList with
   | some (.a (.fn (.yield l) [])),some ys=>some (l,ys)
   | _,_=>none
  | _=>none
 | _=>none
theorem KJ{β:Nat->Addr}{a:Act}{w:World}(ha:nc cf env β a){o:Oper}{l:Nat}{ys:List SV}{r:Loop}(h:FZ env o.op=some (l,ys))(hl:w.heap[l]?=some (.loop r))(hs:Nat.beq ys.length r.params.size=true):
  (execOp a.eval o).run cf.P w=.ok (.round l r.fn ((r.params.zip (ys.map (SV.den β)).toArray).foldl (fun tmps (t,a)=>tmps.setIfInBounds t a) r.tmps) r.assign r.body) w:=by
 unfold FZ at h
 split at h
 ·rename_i c fL
  split at h
  ·rename_i fo su
   split at h
   ·rename_i g zs hf hz
    injection h with h
    simp only[cC] at h
    obtain⟨rfl,rfl⟩:=h
    have h1:a.eval fo=.func (.yield g) #[] #[]:=aD ha hf
    have h2:c.args.map a.eval=(zs.map (SV.den β)).toArray:=by
     have:=x8 ha _ _ hz
     rw[<-this,<-Array.toList_map]
    simp only[execOp,fL,resolve,su,h1,h2,Deferred.ofValue,Sem.run_bind,Sem.run_pure,Result.andThen_ok,invoke,Array.empty_append]
    exact run_yield hl (by simpa using hs)
   ·cases h
  ·cases h
 ·cases h
theorem Rx{d l:Nat}{r:Loop}{ys:List SV}{Φ:Value->al->List AE->Prop}(is:List Nat){A0 Ar:List AE}(hl:σ l=some (.loop r))(h0:cf.kC l=none)(hA:zV is A=A0++Ar)(hn:nodupB is=true)(hc:FZ env it.o.op=some (l,ys))(hs:Nat.beq ys.length r.params.size=true)(hd:it.o.dst=some d)(hg:bt it.guard env=some true)(hN:Nat.blt d cf.N=true)(ec:iV it.tag=true)(dj:jj ys)(hC:Mw cf.P l r (ys.map (SV.den fy)).toArray σ A0 Φ)(k:∀ v bD A',σ.WK l bD->Φ v bD A'->∃ y:SV,y.lt 0/\y.den fy=v/\OJ cf rest Q bD ((d,y)::env) hp (A'++Ar) nh): OJ cf (it::rest) Q σ env hp A nh:=by
 refine⟨fun hb a β ha hex=>?_⟩
 have sx:d<cf.N:=by simpa[fD] using hN
 have pQ:∀ {y:SV},y.lt 0->y.den β=y.den fy:=fun hy=>SV.dM (n:=0) (fun i hi=>by omega) hy
 have fi:(ys.map (SV.den β)).toArray=(ys.map (SV.den fy)).toArray:=by
  rw[cY fun y hy=>pQ (dj.of y hy)]
 have key:∀ w,dy cf σ hp A β w->∀ Q',it.o.wq cf.P a w (fun a' w'=>∃ E' S':World->Prop,S' w'/\(∀ x,S' x->E' x)/\RunT cf.P Q rest E' S' a') Q':=by
  intro w hw Q'
  have AO:dy cf σ hp (A0++Ar) β w:=by rw[<-hA];exact hw.zV hn
  unfold Oper.wq
  rw[KJ ha hc (hw.cQ _ _ hl) hs]
  simp only[Oper.uponIn]
  rw[fi]
  refine⟨fun h=>(by cases h),RoundIn.mono (Cd (hC w AO.Nw)) fun e w' ⟨v,bD,A',he,h4,h5⟩=>?_⟩
  subst he
  obtain⟨y,hy,Jx,hk⟩:=k v bD A' h4.le h5
  have gQ:=AO.H7 hl rfl h0 h4
  refine⟨_,_,gQ,fun _ h=>h,?_⟩
  have:=hk.run (hb.put (SV.eT (ay _) hy) d) (a.put (some d) (y.den β)) β (ha.put sx y) ⟨_,gQ⟩
  rw[hd,<-Jx,<-pQ hy]
  exact this
 simp only[RunT]
 rw[au (da ha hg)]
 cases kL:it.tag with
 | pure=>rw[kL] at ec;cases ec
 | quiet=>rw[kL] at ec;cases ec
 | dP=>rw[kL] at ec;cases ec
 | sink=>exact fun w hw=>key w hw _
 | free=>exact fun w hw=>key w hw _
end
def Gi:List Nat->List SV->Env->Env
 | p::ps,y::ys,env=>Gi ps ys ((p,y)::env)
 | _,_,env=>env
def Hd (N:Nat):List Nat->Bool
 | []=>true
 | p::ps=>Nat.blt p N&&Hd N ps
theorem nc.params{cf:Cf}: ∀(ps:List Nat) (ys:List SV) (env:Env) (a:Act),ps.length=ys.length->Hd cf.N ps=true->nc cf env fy a ->
  nc cf (Gi ps ys env) fy { a with tmps:=(ps.zip (ys.map (SV.den fy))).foldl (fun tmps x=>tmps.setIfInBounds x.1 x.2) a.tmps }
 | [],[],env,a,_,_,ha=>ha
 | [],_::_,env,a,h,_,_=>by simp at h
 | _::_,[],env,a,h,_,_=>by simp at h
 | p::ps,y::ys,env,a,h,hN,ha=>by
  simp only[Hd,aQ,fD] at hN
  have:=nc.params ps ys ((p,y)::env) (a.put (some p) (y.den fy)) (by simpa using h) hN.2 (ha.put hN.1 y)
  exact this
theorem E7{n:Nat}: ∀(ps:List Nat) (ys:List SV) (env:Env),jj ys->wz n env->wz n (Gi ps ys env)
 | [],[],_,_,h=>h
 | [],_::_,_,_,h=>h
 | _::_,[],_,_,h=>h
 | _::ps,_::ys,_,hy,h=>E7 ps ys _ hy.2 ⟨SV.eT (ay _) hy.1,h⟩
def Tz (P:Program) (l:Nat) (body:Code) (R:Ending->World->Prop):Exit->Act->World->Prop :=
 Exit.then (fun a w=>∃ w',(Instr.beginRound l).run P w=.ok () w'/\body.wpIn (FR (some l)) 0 P (roundPost P l R) a w') (fun _ _ _=>False)
theorem Ov{P:Program}{l:Nat}{r:Loop}{ys:List SV}{σ:al}{A:List AE}{Φ:Value->al->List AE->Prop}{N:Nat}{env:Env}(jZ:r.tmps.size=N)(YI:∀ i x,env.get i=some x->r.tmps[i]?=some (x.den fy))(ps:List Nat)(ou:r.params=ps.toArray)(hlen:Nat.beq ps.length ys.length=true)(hpN:Hd N ps=true)(dj:jj ys)(he:wz 0 env)(h:∀ w,CJ (Kf P w σ A l N (some l)) r.assign (Tz P l r.body (zZ P w σ A l Φ)) σ (Gi ps ys env) [] A 0): Mw P l r (ys.map (SV.den fy)).toArray σ A Φ:=by
 intro w hw
 refine Cd (rd:=none) (n:=0) (roundIn_of_wpIn (F:=FR none) trivial ?_)
 have ha:nc (Kf P w σ A l N (some l)) env fy ⟨r.tmps,[]⟩:=⟨jZ,rfl,YI⟩
 have GR:=ha.params ps ys env ⟨r.tmps,[]⟩ (dX hlen) hpN
 have hz:(r.params.zip (ys.map (SV.den fy)).toArray).foldl (fun tmps (x:Nat×Value)=>tmps.setIfInBounds x.1 x.2) r.tmps=(ps.zip (ys.map (SV.den fy))).foldl (fun tmps x=>tmps.setIfInBounds x.1 x.2) r.tmps:=by
  rw[ou,<-Array.foldl_toList]
  simp
 have ed:=(h w).run (Bd.of (E7 ps ys env dj he) trivial) _ fy w GR (hw.re _ _ _)
 rw[<-hz] at ed
 exact ed
section
variable {P:Program} {w0:World} {kC:al} {A0:List AE} {l N:Nat} {σ:al} {env:Env} {hp:HP} {A:List AE} {nh:Nat} {r:Loop}
theorem RE{body:Code}{R:Ending->World->Prop}(hl:σ l=some (.loop r))(hr:r.state=.ready)(h0:kC.set l none l=none)(h:CJ (Kf P w0 kC A0 l N (some l)) body (roundPost P l R) (σ.set l (some (.loop { r with state:=.busy }))) env hp A nh): NJ (Kf P w0 kC A0 l N (some l)) .normal (Tz P l body R) σ env hp A nh:=by
 refine⟨fun hb a β w ha hw=>⟨_,run_beginRound (hw.cQ _ _ hl) hr,h.run hb a β _ ha ?_⟩⟩
 exact hw.Uw hl Z Z h0
theorem Vb{Φ:Value->al->List AE->Prop}(hl:σ l=some (.loop r))(h:Φ (.bool true) (σ.set l (some (.loop { r with state:=.ready,pending:=none }))) A):
  NJ (Kf P w0 kC A0 l N (some l)) .normal (roundPost P l (zZ P w0 kC A0 l Φ)) σ env hp A nh :=
 ⟨fun _ _ _ _ _ hw=>⟨_,_,run_endRound none (hw.cQ _ _ hl),_,_,A,rfl,(hw.Uw hl Z Z (al.hY ..)).NV _ _ _ _,h⟩⟩
theorem Va{Φ:Value->al->List AE->Prop}(hl:σ l=some (.loop r))(h:Φ (.bool false) (σ.set l (some (.loop { r with state:=.done,pending:=some .ret }))) A):
  NJ (Kf P w0 kC A0 l N (some l)) .ret (roundPost P l (zZ P w0 kC A0 l Φ)) σ env hp A nh :=
 ⟨fun _ _ _ _ _ hw=>⟨_,_,run_endRound (some .ret) (hw.cQ _ _ hl),_,_,A,rfl,(hw.Uw hl Z Z (al.hY ..)).NV _ _ _ _,h⟩⟩
end
abbrev Ff (D:Nat):Deferred:={ target:=.collected D,args:=#[] }
theorem G5{P:Program}{w0:World}{kC:al}{M:Nat->Prop}{N:Nat}{ds:List Deferred}{Q:Exit->Act->World->Prop}{σ:al}{env:Env}{hp:HP}{A:List AE}{nh:Nat}{g:Operand}{ps:Array Tmp}{assign body:Code}{gf:FuncId}{iq:List PT}(is:List Nat){A0 Ar:List AE}(hA:zV is A=A0++Ar)(hn:nodupB is=true)(hg:bP env g=some (.a (.fn (.func gf) iq)))(mC:jj (iq.map lR))(dj:wz 0 env)(gm:∀ args w,(callFunc gf args).run P w=.ok (.enter gf args) w)(Φ:Nat->Nat->Loop->Value->al->List AE->Prop)(hit:∀(Uh D l:Nat) (tmps:Array Value),tmps.size=N->(∀ i x,env.get i=some x->tmps[i]?=some (x.den fy))->D≠l->σ D=none->σ l=none->kC l=none->DQ P gf (((.a (.fn (.yield l) [])::iq.map lR).map (SV.den fy)).toArray) l ((σ.set D (some (.deferred (some [])))).set l (some (.loop ⟨.ready,none,Uh,tmps,ps,assign,body,D⟩))) A0 (Φ D l ⟨.ready,none,Uh,tmps,ps,assign,body,D⟩))(k:∀(D l:Nat) (r:Loop) (v:Value) (bD:al) (A':List AE),Φ D l r v bD A'->kC D=none->kC l=none->bD D=some (.deferred (some []))->σ.Bw bD->(∀ b o,b≠D->b≠l->σ b=some o->bD b=some o)->∃ r',bD l=some (.loop r')/\r'.state≠.busy/\(match r'.pending with | none=>NJ ⟨P,w0,kC,M,N,Ff D::ds,none⟩ .normal Q (bD.set l none) env hp (A'++Ar) nh | some c=>CJ ⟨P,w0,kC,M,N,Ff D::ds,none⟩ c Q (bD.set l none) env hp (A'++Ar) nh)):
  CJ ⟨P,w0,kC,M,N,ds,none⟩ (.rangeFunc g ps assign body) Q σ env hp A nh:=by
 refine⟨fun hb a β w ha hw=>?_⟩
 have AO:dy ⟨P,w0,kC,M,N,ds,none⟩ σ hp (A0++Ar) β w:=by rw[<-hA];exact hw.zV hn
 refine wpIn_rangeFunc fun Uh _=>?_
 have hev:a.eval g=.func (.func gf) #[] (iq.map (PT.den β)).toArray:=aD ha hg
 have Uc:iq.map (PT.den β)=(iq.map lR).map (SV.den fy):=by
  rw[jm]
  refine cY fun p hp=>?_
  show p.den β=(lR p).den fy
  rw[<-Cr β p]
  exact SV.dM (n:=0) (fun i hi=>by omega) (mC.of _ (bL.2 ⟨p,hp,rfl⟩))
 obtain⟨hD,hwD⟩:=AO.lay (o:=.deferred (some [])) rfl
 obtain⟨hl,Zw⟩:=hwD.lay (o:=.loop ⟨.ready,none,Uh,a.tmps,ps,assign,body,w.heap.size⟩) rfl
 have aj9:(w.alloc (.deferred (some []))).heap.size=w.heap.size+1:=Array.size_push ..
 have jv:w.heap.size≠(w.alloc (.deferred (some []))).heap.size:=by omega
 have AS:σ (w.alloc (.deferred (some []))).heap.size=none:=by rw[<-hl,al.im (Ne.symm jv)]
 have h0D:kC w.heap.size=none:=al.l7 AO.le hD
 have h0l:kC (w.alloc (.deferred (some []))).heap.size=none:=al.l7 AO.le AS
 let w1:=(w.alloc (.deferred (some []))).alloc (.loop ⟨.ready,none,Uh,a.tmps,ps,assign,body,w.heap.size⟩)
 refine⟨(w.alloc (.deferred (some []))).heap.size,[Ff w.heap.size],w1,⟨.fn (.func gf) (iq.map (PT.den β)).toArray,#[.func (.yield (w.alloc (.deferred (some []))).heap.size) #[] #[]]⟩,w1,gf,
  #[.func (.yield (w.alloc (.deferred (some []))).heap.size) #[] #[]]++(iq.map (PT.den β)).toArray,w1,?_,?_,fun _ _=>trivial,?_,fun h=>(by cases h),?_⟩
 ·rw[aj9];exact run_enterLoop_outer Uh a.tmps ps assign body
 ·show(resolve a.eval (rangeCall g _) 0).run P _=_
  simp only[resolve,hev,Deferred.ofValue,Sem.run_pure,Array.empty_append]
  simp[Act.eval]
 ·show(invoke (.fn (.func gf) _) _).run P _=_
  simp only[invoke]
  exact gm _ _
 ·have YI:∀ i x,env.get i=some x->a.tmps[i]?=some (x.den fy):=fun i x hx=>by
   rw[ha.env i x hx]
   congr 1
   exact SV.dM (n:=0) (fun i hi=>by omega) ((Bd.of (hp:=[]) dj trivial).env i x hx)
  have hI:=hit Uh w.heap.size (w.alloc (.deferred (some []))).heap.size a.tmps ha.size YI jv hD AS h0l
  have fi:(#[.func (.yield (w.alloc (.deferred (some []))).heap.size) #[] #[]]++(iq.map (PT.den β)).toArray:Array Value)=(((.a (.fn (.yield (w.alloc (.deferred (some []))).heap.size) [])::iq.map lR).map (SV.den fy)).toArray):=by
   rw[Uc]
   simp[SV.den,AT.den]
  rw[fi]
  refine jW.2 (Calls.mono (hI _ Zw.Nw) ?_)
  rintro e w' ⟨v,bD,A',rfl,h4,h5⟩
  have ai8:((σ.set w.heap.size (some (.deferred (some [])))).set (w.alloc (.deferred (some []))).heap.size (some (.loop ⟨.ready,none,Uh,a.tmps,ps,assign,body,w.heap.size⟩))) (w.alloc (.deferred (some []))).heap.size=some (.loop ⟨.ready,none,Uh,a.tmps,ps,assign,body,w.heap.size⟩):=al.hY ..
  have gQ:=Zw.H7 ai8 rfl h0l h4
  have hle:∀ b o,b≠w.heap.size->b≠(w.alloc (.deferred (some []))).heap.size->σ b=some o->bD b=some o:=fun b o h1 h2 h3=>h4.le b o (by
   show al.set _ _ none b=some o
   rw[al.im h2,al.im h2,al.im h1];exact h3)
  have aj0:bD w.heap.size=some (.deferred (some [])):=h4.le _ _ (by
   show al.set _ _ none _=_
   rw[al.im jv,al.im jv,al.hY])
  have VN:σ.Bw bD:=by
   intro ad x hx
   refine al.le.cell h4.le ?_
   show al.cell (al.set _ _ none) ad=_
   rw[al.mW (fun o e=>by rw[al.hY] at e;injection e with e;subst e;rfl) (fun _ e=>by cases e),al.mW (fun o e=>by rw[al.im (Ne.symm jv),AS] at e;cases e) (fun o e=>by injection e with e;subst e;rfl),
    al.mW (fun o e=>by rw[hD] at e;cases e) (fun o e=>by injection e with e;subst e;rfl)]
   exact hx
  obtain⟨r',um,xh,hk⟩:=k _ _ _ v bD A' h5 h0D h0l aj0 VN hle
  have iZ:=gQ.swap (w':=w'.putObj (w.alloc (.deferred (some []))).heap.size (.loop { r' with state:=.exhausted })) none (gQ.cQ _ _ um) rfl h0l (gQ.Gj um h0l) Z Z Z (by simp) (fun c hc=>World.putObj_heap_other hc) fun _ e=>(by cases e)
  refine⟨r'.pending,_,run_endLoop (gQ.cQ _ _ um) xh,?_⟩
  generalize w'.putObj (w.alloc (.deferred (some []))).heap.size (.loop { r' with state:=.exhausted })=wf at iZ
  have ha2:nc ⟨P,w0,kC,M,N,Ff w.heap.size::ds,none⟩ env β { a with defers:=[Ff w.heap.size]++a.defers }:=⟨ha.size,by show _++a.defers=_;rw[ha.defers];rfl,ha.env⟩
  cases nF:r'.pending with
  | none =>
   rw[nF] at hk
   exact hk.run hb _ β _ ha2 (iZ.re _ _ _)
  | some c =>
   rw[nF] at hk
   exact hk.run hb _ β _ ha2 (iZ.re _ _ _)
theorem V3{P:Program}{f:FuncId}{fn:Func}{c:Code}{args:Array Value}{w:World}{M:Nat->Prop}{kC σ:al}{R:Ending->World->Prop}(hf:P.funcs[f]?=some fn)(hb:fn.body=some c)(lM:List SV)(A:List AE)(fi:args=(lM.map (SV.den fy)).toArray)(hN:Nat.ble lM.length fn.ntmps=true)(dj:jj lM)(hw:dy ⟨P,w,kC,M,fn.ntmps,[],none⟩ σ [] A fy w)(h:CJ ⟨P,w,kC,M,fn.ntmps,[],none⟩ c (bodyPostM (FR none) 0 P fn R) σ (oZ 0 lM) [] A 0): Calls P f args w R:=by
 have hN:=bh hN
 have dj:=dj.of
 refine jW.1 (callsIn_of_wp_marks (F:=FR none) (n:=0) hf hb trivial (h.run ⟨fun i x hx=>?_,fun _ _ _ h=>by cases h⟩ _ fy w ⟨?_,rfl,fun i x hx=>?_⟩ hw))
 ·obtain⟨_,h2⟩:=m9 lM 0 i x hx
  exact dj x (aC h2)
 ·subst fi
  simp only[Array.size_append,fw,aR,Array.size_replicate]
  omega
 ·obtain⟨_,h2⟩:=m9 lM 0 i x hx
  simp only[Nat.sub_zero] at h2
  subst fi
  rw[Array.getElem?_append_left (by simp;exact(ah.1 h2).1)]
  simp[h2]
theorem Tc{P:Program}{f:FuncId}{fn:Func}{c:Code}{lM:List SV}{σ:al}{Φ:Value->Prop}(hf:P.funcs[f]?=some fn)(hb:fn.body=some c)(hN:Nat.ble lM.length fn.ntmps=true)(dj:jj lM)(h:∀ w,CJ ⟨P,w,σ,fun _=>False,fn.ntmps,[],none⟩ c (bodyPostM (FR none) 0 P fn (rf w (fun _=>False) σ (fun v _ _=>Φ v))) σ (oZ 0 lM) [] [] 0): bZ P f lM σ Φ :=
 fun w hs=>V3 hf hb lM [] rfl hN dj (dy.start hs fy) (h w)
section
variable {P:Program} {w0:World} {kC:al} {M:Nat->Prop} {N:Nat} {T:List (Nat×TI)} {fn:Func} {ui:Value->World->al->Prop} {σ:al} {env:Env} {hp:HP} {A:List AE} {nh:Nat} {xs:List S1}
theorem uF(hT:cu P T)(hr:AJ T env hp fn.results.toList=some xs)(h:∀ β w,Bd env hp nh->dy ⟨P,w0,kC,M,N,[],none⟩ σ hp A β w->ui ((wb xs).den β) w σ):
  NJ ⟨P,w0,kC,M,N,[],none⟩ .ret (bodyPostM (FR none) 0 P fn (rf w0 M kC ui)) σ env hp A nh:=⟨fun hb a β w ha hw=>by
 show LeavesInM (FR none) 0 P fn a.tmps _ a.defers .returning w
 rw[ha.defers]
 exact⟨_,qB (cf:=⟨P,w0,kC,M,N,[],none⟩) hT ha hb hw hr,_,σ,rfl,Fr.of hw,wx.of hw,hw.cQ,h β w hb hw⟩⟩
end
def Xr (n:Nat):List S1->Prop
 | []=>True
 | x::l=>x.lt n/\Xr n l
theorem SV.iv{n:Nat}: ∀ {l:List S1},Xr n l->(SV.ik l).lt n
 | [],_=>fun _ h=>(by cases h)
 | y::l,h=>fun x hx=>by
  cases hx with
  | head=>exact h.1
  | tail _ hx=>exact SV.iv h.2 x hx
end Go.Sy
namespace Go.Sy
section
variable {cf:Cf} {Q:Exit->Act->World->Prop} {σ:al} {env:Env} {hp:HP} {A:List AE} {nh:Nat} {it:Item} {rest:List Item}
theorem nc.set{β:Nat->Addr}{a:Act}(t:Nat){x y:SV}(h:env.get t=some x)(AN:x.den β=y.den β)(ha:nc cf env β a): nc cf ((t,y)::env) β a:=by
 refine⟨ha.size,ha.defers,fun i z hz=>?_⟩
 rw[Env.ee] at hz
 by_cases hi:t=i
 ·rw[au hi] at hz
  injection hz with hz
  subst hz;subst hi
  rw[<-AN];exact ha.env t _ h
 ·rw[ai hi] at hz;exact ha.env i z hz
theorem gu{e:Exit}(t:Nat){x:SV}(y:SV)(h:env.get t=some x)(hy:y.lt nh)(AN:∀ β,x.den β=y.den β)(k:NJ cf e Q σ ((t,y)::env) hp A nh): NJ cf e Q σ env hp A nh :=
 ⟨fun hb a β w ha hw=>k.run (hb.put hy t) a β w (ha.set t h (AN β)) hw⟩
theorem u2{c:Code}(t:Nat){x:SV}(y:SV)(h:env.get t=some x)(hy:y.lt nh)(AN:∀ β,x.den β=y.den β)(k:CJ cf c Q σ ((t,y)::env) hp A nh): CJ cf c Q σ env hp A nh :=
 ⟨fun hb a β w ha hw=>k.run (hb.put hy t) a β w (ha.set t h (AN β)) hw⟩
structure OW (cf:Cf) (l:List Item) (Q:Exit->Act->World->Prop) (W:(Nat->Addr)->World->Prop) (σ:al) (env:Env) (hp:HP) (A:List AE) (nh:Nat):Prop where
 run:Bd env hp nh->∀ a β,nc cf env β a->(∃ w,dy cf σ hp A β w)->RunT cf.P Q l (W β) (fun w=>dy cf σ hp A β w) a
variable {W:(Nat->Addr)->World->Prop}
theorem yc{id:Nat}{ops:Array Oper}(l:List (Nat×Tag))(W:(Nat->Addr)->World->Prop)(hW:∀ β w,dy cf σ hp A β w->W β w)(hm:cf.P.follows .mixedOrders=true)(hB:Be ops l=true)(h:OW cf (qe ops l) Q W σ env hp A nh)(hd:AL cf.rd ops=true:=by rfl): CJ cf (.region id ops true) Q σ env hp A nh :=
 ⟨fun hb a β _ ha hw=>zQ l hm hB hd (fun x hx=>hW β x hx) hw.drew (h.run hb a β ha ⟨_,hw⟩)⟩
def vw:List Item->Bool
 | []=>true
 | it::l=>(match it.tag with | .quiet=>false | _=>true)&&vw l
theorem sa{P:Program}{E E':World->Prop}(hE:∀ w,E w->E' w): ∀(l:List Item) (S:World->Prop) (a:Act),vw l=true->RunT P Q l E S a->RunT P Q l E' S a
 | [],_,_,_,h=>h
 | it::l,S,a,hq,h=>by
  simp only[vw,aQ] at hq
  simp only[RunT] at h ⊢
  split
  ·rename_i hw
   rw[au hw] at h
   cases ec:it.tag with
   | quiet=>rw[ec] at hq;cases hq.1
   | pure =>
    rw[ec] at h
    obtain⟨v,h1,h2⟩:=h
    exact⟨v,h1,sa hE l S _ hq.2 h2⟩
   | dP =>
    rw[ec] at h
    exact fun w hS=>va (fun a' w' ⟨E1,S1,h1,h2,h3,h4⟩=>⟨E1,S1,h1,h2,fun x hx=>hE x (h3 x hx),h4⟩) (h w hS)
   | sink=>rw[ec] at h;exact h
   | free=>rw[ec] at h;exact h
  ·rename_i hw
   rw[ai hw] at h
   exact sa hE l S _ hq.2 h
theorem Gl{l:List Item}(hq:vw l=true)(hW:∀ β w,dy cf σ hp A β w->W β w)(h:OJ cf l Q σ env hp A nh): OW cf l Q W σ env hp A nh :=
 ⟨fun hb a β ha hex=>sa (E:=fun w=>dy cf σ hp A β w) (fun w hw=>hW β w hw) l _ a hq (h.run hb a β ha hex)⟩
theorem XK{d:Nat}(y:SV)(hd:it.o.dst=some d)(hg:bt it.guard env=some true)(hN:Nat.blt d cf.N=true)(dj:y.lt nh)(ed:Bd env hp nh->∀ a β,nc cf env β a->match it.tag with | .pure=>∀ w,(execOp a.eval it.o).run cf.P w=.ok (.value (y.den β)) w | .quiet=>∀ w,W β w->(execOp a.eval it.o).run cf.P w=.ok (.value (y.den β)) w | _=>False)(k:OW cf rest Q W σ ((d,y)::env) hp A nh): OW cf (it::rest) Q W σ env hp A nh:=by
 refine⟨fun hb a β ha hex=>?_⟩
 have sx:d<cf.N:=by simpa[fD] using hN
 have h':=k.run (hb.put dj d) (a.put (some d) (y.den β)) β (ha.put sx y) hex
 have ed:=ed hb a β ha
 simp only[RunT]
 rw[au (da ha hg),hd]
 cases ec:it.tag with
 | pure=>rw[ec] at ed;exact⟨_,fun w=>.inl (ed w),h'⟩
 | quiet=>rw[ec] at ed;exact⟨_,fun w hw=>.inl (ed w hw),h'⟩
 | dP=>rw[ec] at ed;exact ed.elim
 | sink=>rw[ec] at ed;exact ed.elim
 | free=>rw[ec] at ed;exact ed.elim
theorem ir{d:Nat}{T:List (Nat×TI)}(hT:cu cf.P T){x:SV}(h:ev T it.o.op env hp nh=some (.val x))(hl:zi it.o.op=false)(nF:LF it.tag=true)(hd:it.o.dst=some d)(hg:bt it.guard env=some true)(hN:Nat.blt d cf.N=true)(k:OW cf rest Q W σ ((d,x)::env) hp A nh): OW cf (it::rest) Q W σ env hp A nh:=by
 refine⟨fun hb a β ha hex=>?_⟩
 have sx:d<cf.N:=by simpa[fD] using hN
 obtain⟨hx,ed⟩:=k9 (o:=it.o) hT ha hb h
 have h':=k.run (hb.put hx d) (a.put (some d) (x.den β)) β (ha.put sx x) hex
 simp only[RunT]
 rw[au (da ha hg),hd]
 cases ec:it.tag with
 | pure=>exact⟨_,fun w=>.inl (ed w (fun hc=>by rw[hl] at hc;cases hc)),h'⟩
 | _=>rw[ec] at nF;cases nF
theorem Bc{d:Nat}{T:List (Nat×TI)}(hT:cu cf.P T){x:SV}(hpW:HP)(AW:List AE)(gR:yE hpW hp)(hW:∀ β w,W β w->dy cf σ hpW AW β w)(h:ev T it.o.op env hpW nh=some (.val x))(hq:(match it.tag with | .quiet=>true | _=>false)=true)(hd:it.o.dst=some d)(hg:bt it.guard env=some true)(hN:Nat.blt d cf.N=true)(k:OW cf rest Q W σ ((d,x)::env) hp A nh): OW cf (it::rest) Q W σ env hp A nh:=by
 refine⟨fun hb a β ha hex=>?_⟩
 have sx:d<cf.N:=by simpa[fD] using hN
 obtain⟨hx,ed⟩:=k9 (o:=it.o) hT ha (hb.sub (fun _ _ h=>h) gR) h
 have h':=k.run (hb.put hx d) (a.put (some d) (x.den β)) β (ha.put sx x) hex
 simp only[RunT]
 rw[au (da ha hg),hd]
 cases ec:it.tag with
 | quiet=>exact⟨_,fun w hw=>.inl (ed w (fun _=>⟨σ,AW,hW β w hw⟩)),h'⟩
 | _=>rw[ec] at hq;cases hq
theorem Gk{T:List (Nat×TI)}(hT:cu cf.P T){i:Nat}{e:TypeId}{cs:List AT}(h:ev T it.o.op env hp nh=some (.put i e cs))(hk:(match it.tag with | .dP=>true | _=>false)=true)(hd:it.o.dst=none)(hg:bt it.guard env=some true)(hW:∀ β w,dy cf σ ((i,.loc e,cs)::hp) A β w->W β w)(k:OW cf rest Q W σ env ((i,.loc e,cs)::hp) A nh): OW cf (it::rest) Q W σ env hp A nh:=by
 refine⟨fun hb a β ha hex=>?_⟩
 obtain⟨lY,⟨Uj,hi⟩,ed⟩:=k9 (o:=it.o) hT ha hb h
 simp only[RunT]
 rw[au (da ha hg),hd]
 cases ec:it.tag with
 | dP =>
  refine fun w hw=>?_
  unfold Oper.wq
  rw[ed σ A w hw]
  have gQ:=hw.store (cs:=cs) hi
  refine⟨W β,_,gQ,fun x hx=>hW β x hx,fun _ h=>h,?_⟩
  rw[hd]
  exact k.run (hb.row (hb.hp i _ _ hi).1 lY) a β ha ⟨_,gQ⟩
 | _=>rw[ec] at hk;cases hk
theorem Gm{d:Nat}{f:FuncId}{ys:List SV}{Φ:Value->al->List AE->Prop}(is:List Nat){A0 Ar:List AE}(hA:zV is A=A0++Ar)(hn:nodupB is=true)(hc:callee env it.o.op=some (f,ys))(hd:it.o.dst=some d)(hg:bt it.guard env=some true)(hN:Nat.blt d cf.N=true)(hk:(match it.tag with | .dP=>true | _=>false)=true)(gm:∀ args w,(callFunc f args).run cf.P w=.ok (.enter f args) w)(dj:jj ys)(hC:pV cf.P f ys σ A0 Φ)(k:∀ v bD A',σ.le bD->Φ v bD A'->(∀ β w,dy cf bD hp (A'++Ar) β w->W β w)/\∃ y:SV,y.lt 0/\y.den fy=v/\OW cf rest Q W bD ((d,y)::env) hp (A'++Ar) nh): OW cf (it::rest) Q W σ env hp A nh:=by
 refine⟨fun hb a β ha hex=>?_⟩
 have sx:d<cf.N:=by simpa[fD] using hN
 have pQ:∀ {y:SV},y.lt 0->y.den β=y.den fy:=fun hy=>SV.dM (n:=0) (fun i hi=>by omega) hy
 have fi:(ys.map (SV.den β)).toArray=(ys.map (SV.den fy)).toArray:=by
  rw[cY fun y hy=>pQ (dj.of y hy)]
 simp only[RunT]
 rw[au (da ha hg)]
 cases ec:it.tag with
 | dP =>
  intro w hw
  have AO:dy cf σ hp (A0++Ar) β w:=by rw[<-hA];exact hw.zV hn
  unfold Oper.wq
  rw[oX ha hc gm]
  simp only[Oper.uponIn]
  rw[fi]
  refine⟨fun h=>(by cases h),CallsIn.mono (jW.2 (hC w AO.GQ)) fun e w' ⟨v,bD,he,h1,h2,h3,A',h4,h5⟩=>?_⟩
  subst he
  obtain⟨hW,y,hy,Jx,hk⟩:=k v bD A' h2.le h4
  have gQ:=AO.through h5
  refine⟨W β,_,gQ,fun x hx=>hW β x hx,fun _ h=>h,?_⟩
  have:=hk.run (hb.put (SV.eT (ay _) hy) d) (a.put (some d) (y.den β)) β (ha.put sx y) ⟨_,gQ⟩
  rw[hd,<-Jx,<-pQ hy]
  exact this
 | _=>rw[ec] at hk;cases hk
end
theorem SV.ez{n:Nat}{f:Fn}: (SV.a (.fn f [])).lt n:=fun _ h=>(by cases h)
theorem AT.ez{n:Nat}{f:Fn}: (AT.fn f []).lt n:=fun _ h=>(by cases h)
theorem kg{cf:Cf}{Q:Exit->Act->World->Prop}{σ:al}{env:Env}{hp:HP}{A:List AE}{nh:Nat}{ex:Exit}(e sz:Nat)(h:NJ cf ex Q σ env hp (A++[⟨none,0,0,e,sz,[]⟩]) nh): NJ cf ex Q σ env hp A nh :=
 ⟨fun hb a β w ha hw=>h.run hb a β w ha ((dy.y9 e sz).1 hw)⟩
end Go.Sy
namespace Go.Sy
open Go.Proofs
def tt:List (Nat×TI):=[
 (1,⟨1,false,[.v .nilFunc],[],.func,8⟩),
 (2,⟨1,false,[.v (.int .i64 0)],[],.int .i64,8⟩),
 (3,⟨1,false,[.v (.int .i64 0)],[],.int .i64,8⟩),
 (4,⟨1,false,[.ff],[],.bool,1⟩),
 (5,⟨1,false,[.v (.int .u8 0)],[],.int .u8,1⟩),
 (6,⟨1,false,[.v (.int .u8 0)],[],.int .u8,1⟩),
 (7,⟨4,true,[.v (.int .i64 0),.v (.int .i64 0),.ff,.v (.int .u8 0)],[(0,1,some false),(1,1,some false),(2,1,some false),(3,1,some false)],.struct,24⟩),
 (8,⟨4,true,[.v (.int .i64 0),.v (.int .i64 0),.ff,.v (.int .u8 0)],[(0,1,some false),(1,1,some false),(2,1,some false),(3,1,some false)],.struct,24⟩),
 (9,⟨1,false,[.v (.string ⟨#[]⟩)],[],.str,16⟩),
 (10,⟨1,false,[.v (.string ⟨#[]⟩)],[],.str,16⟩),
 (11,⟨1,false,[.v (.string ⟨#[]⟩)],[],.str,16⟩),
 (12,⟨1,false,[.v (.int .u64 0)],[],.int .u64,8⟩),
 (13,⟨2,true,[.v (.string ⟨#[]⟩),.v (.int .u64 0)],[(0,1,some false),(1,1,some false)],.struct,24⟩),
 (14,⟨2,true,[.v (.string ⟨#[]⟩),.v (.int .u64 0)],[(0,1,some false),(1,1,some false)],.struct,24⟩),
 (15,⟨1,false,[.v (.pointer none)],[],.ptr 384,8⟩),
 (16,⟨1,false,[.v (.pointer none)],[],.ptr 387,8⟩),
 (17,⟨1,false,[.v (.pointer none)],[],.ptr 394,8⟩),
 (18,⟨1,true,[.v (.pointer none)],[(0,1,some false)],.struct,8⟩),
 (19,⟨1,true,[.v (.pointer none)],[(0,1,some false)],.struct,8⟩),
 (20,⟨1,false,[.v .nilIface],[],.iface,16⟩),
 (21,⟨1,false,[.v (.int .i32 0)],[],.int .i32,4⟩),
 (22,⟨1,false,[.v (.slice none 0 0)],[],.slice 131,24⟩),
 (24,⟨3,true,[.ff,.v (.string ⟨#[]⟩),.v (.int .i64 0)],[(0,1,some false),(1,1,some false),(2,1,some false)],.struct,32⟩),
 (25,⟨1,false,[.v (.slice none 0 0)],[],.slice 28,24⟩),
 (26,⟨1,false,[.v (.slice none 0 0)],[],.slice 184,24⟩),
 (28,⟨8,true,[.v (.int .i64 0),.ff,.ff,.v (.string ⟨#[]⟩),.v (.int .i64 0),.v (.string ⟨#[]⟩),.v (.slice none 0 0),.v (.slice none 0 0)],[(0,1,some false),(1,1,some false),(2,3,some true),(5,1,some false),(6,1,some false),(7,1,some false)],.struct,112⟩),
 (32,⟨1,false,[.v (.slice none 0 0)],[],.slice 130,24⟩),
 (36,⟨1,false,[.v (.int .i64 0)],[],.int .i64,8⟩),
 (54,⟨1,false,[.v (.slice none 0 0)],[],.slice 90,24⟩),
 (55,⟨1,false,[.v (.slice none 0 0)],[],.slice 211,24⟩),
 (57,⟨2,true,[.v (.slice none 0 0),.v (.int .i64 0)],[(0,1,some false),(1,1,some false)],.struct,32⟩),
 (58,⟨1,false,[.v (.slice none 0 0)],[],.slice 74,24⟩),
 (60,⟨4,true,[.v (.slice none 0 0),.v (.slice none 0 0),.v (.int .i64 0),.v (.slice none 0 0)],[(0,1,some false),(1,2,some true),(3,1,some false)],.struct,80⟩),
 (62,⟨1,false,[.v (.slice none 0 0)],[],.slice 71,24⟩),
 (65,⟨2,true,[.v (.int .i64 0),.v (.string ⟨#[]⟩)],[(0,1,some false),(1,1,some false)],.struct,24⟩),
 (66,⟨1,false,[.v (.slice none 0 0)],[],.slice 65,24⟩),
 (70,⟨5,true,[.v (.int .i64 0),.v (.int .i64 0),.v (.int .i64 0),.v (.int .i64 0),.v (.int .i64 0)],[(0,1,some false),(1,1,some false),(2,1,some false),(3,1,some false),(4,1,some false)],.struct,40⟩),
 (71,⟨5,true,[.v (.int .i64 0),.v (.int .i64 0),.v (.int .i64 0),.v (.int .i64 0),.v (.int .i64 0)],[(0,1,some false),(1,1,some false),(2,1,some false),(3,1,some false),(4,1,some false)],.struct,40⟩),
 (74,⟨1,false,[.v (.slice none 0 0)],[],.slice 3,24⟩),
 (78,⟨1,false,[.v (.slice none 0 0)],[],.slice 4,24⟩),
 (90,⟨2,true,[.v (.int .i64 0),.v (.slice none 0 0)],[(0,1,some false),(1,1,some false)],.struct,32⟩),
 (94,⟨1,false,[.v (.slice none 0 0)],[],.slice 122,24⟩),
 (99,⟨7,true,[.v (.int .i64 0),.ff,.ff,.v (.string ⟨#[]⟩),.v (.int .i64 0),.v (.string ⟨#[]⟩),.v (.int .i64 0)],[(0,1,some false),(1,1,some false),(2,3,some true),(5,1,some false),(6,1,some false)],.struct,72⟩),
 (103,⟨1,false,[.v (.slice none 0 0)],[],.slice 118,24⟩),
 (104,⟨1,false,[.v (.slice none 0 0)],[],.slice 119,24⟩),
 (105,⟨7,true,[.v (.int .i64 0),.ff,.ff,.v (.string ⟨#[]⟩),.v (.int .i64 0),.v (.string ⟨#[]⟩),.v (.int .i64 0)],[(0,1,some false),(1,1,some false),(2,3,some true),(5,1,some false),(6,1,some false)],.struct,72⟩),
 (108,⟨1,false,[.v (.slice none 0 0)],[],.slice 105,24⟩),
 (109,⟨1,false,[.v (.slice none 0 0)],[],.slice 227,24⟩),
 (110,⟨1,false,[.v (.slice none 0 0)],[],.slice 300,24⟩),
 (112,⟨2,true,[.v (.slice none 0 0),.v (.int .i64 0)],[(0,1,some false),(1,1,some false)],.struct,32⟩),
 (114,⟨4,true,[.v (.slice none 0 0),.v (.slice none 0 0),.v (.int .i64 0),.v (.slice none 0 0)],[(0,1,some false),(1,2,some true),(3,1,some false)],.struct,80⟩),
 (118,⟨12,true,[.v (.int .i64 0),.v (.int .i64 0),.v (.int .i64 0),.v (.int .i64 0),.ff,.ff,.v (.string ⟨#[]⟩),.v (.int .i64 0),.v (.string ⟨#[]⟩),.v (.slice none 0 0),.v (.slice none 0 0),.v (.slice none 0 0)],[(0,1,some false),(1,1,some false),(2,1,some false),(3,8,some true),(11,1,some false)],.struct,160⟩),
 (119,⟨2,true,[.v (.int .i64 0),.v (.string ⟨#[]⟩)],[(0,1,some false),(1,1,some false)],.struct,24⟩),
 (122,⟨5,true,[.v (.int .i64 0),.v (.int .i64 0),.v (.int .i64 0),.v (.int .i64 0),.v (.int .i64 0)],[(0,1,some false),(1,1,some false),(2,1,some false),(3,1,some false),(4,1,some false)],.struct,40⟩),
 (130,⟨11,true,[.v (.int .i64 0),.v (.int .i64 0),.v (.int .i64 0),.v (.int .i64 0),.ff,.v (.string ⟨#[]⟩),.ff,.ff,.v (.string ⟨#[]⟩),.v (.int .i64 0),.v (.string ⟨#[]⟩)],[(0,1,some false),(1,1,some false),(2,1,some false),(3,1,some false),(4,1,some false),(5,1,some false),(6,1,some false),(7,3,some true),(10,1,some false)],.struct,112⟩),
 (131,⟨11,true,[.v (.int .i64 0),.v (.int .i64 0),.v (.int .i64 0),.v (.int .i64 0),.ff,.v (.string ⟨#[]⟩),.ff,.ff,.v (.string ⟨#[]⟩),.v (.int .i64 0),.v (.string ⟨#[]⟩)],[(0,1,some false),(1,1,some false),(2,1,some false),(3,1,some false),(4,1,some false),(5,1,some false),(6,1,some false),(7,3,some true),(10,1,some false)],.struct,112⟩),
 (149,⟨1,false,[.v (.slice none 0 0)],[],.slice 5,24⟩),
 (162,⟨1,false,[.v (.map none)],[],.map 3 4,8⟩),
 (165,⟨1,false,[.v .nilFunc],[],.func,8⟩),
 (181,⟨1,false,[.v .nilFunc],[],.func,8⟩),
 (184,⟨9,true,[.v (.string ⟨#[]⟩),.v (.int .i64 0),.ff,.ff,.v (.string ⟨#[]⟩),.v (.int .i64 0),.v (.string ⟨#[]⟩),.v (.slice none 0 0),.v (.slice none 0 0)],[(0,1,some false),(1,8,some true)],.struct,128⟩),
 (191,⟨1,false,[.v (.pointer none)],[],.ptr 193,8⟩),
 (193,⟨3,true,[.v (.slice none 0 0),.v (.int .i64 0),.v (.int .i64 0)],[(0,1,some false),(1,1,some false),(2,1,some false)],.struct,40⟩),
 (198,⟨1,false,[.v (.slice none 0 0)],[],.slice 209,24⟩),
 (209,⟨1,false,[.v (.slice none 0 0)],[],.slice 9,24⟩),
 (211,⟨3,true,[.v (.int .i64 0),.v (.slice none 0 0),.v (.int .i64 0)],[(0,1,some false),(1,1,some false),(2,1,some false)],.struct,40⟩),
 (217,⟨1,false,[.v (.slice none 0 0)],[],.slice 220,24⟩),
 (220,⟨6,true,[.v (.slice none 0 0),.v (.int .i64 0),.v (.int .i64 0),.v (.int .i64 0),.v (.int .i64 0),.v (.int .i64 0)],[(0,1,some false),(1,5,some true)],.struct,64⟩),
 (222,⟨1,false,[.v .nilFunc],[],.func,8⟩),
 (227,⟨2,true,[.v (.int .i64 0),.v (.slice none 0 0)],[(0,1,some false),(1,1,some false)],.struct,32⟩),
 (237,⟨1,false,[.v (.slice none 0 0)],[],.slice 149,24⟩),
 (239,⟨1,false,[.v (.pointer none)],[],.ptr 241,8⟩),
 (241,⟨1,true,[.v (.int .i64 0)],[(0,1,some false)],.struct,8⟩),
 (253,⟨1,false,[.v (.pointer none)],[],.ptr 255,8⟩),
 (255,⟨2,true,[.v (.slice none 0 0),.v (.int .i64 0)],[(0,1,some false),(1,1,some false)],.struct,32⟩),
 (259,⟨1,false,[.v (.pointer none)],[],.ptr 261,8⟩),
 (261,⟨3,true,[.v (.slice none 0 0),.v (.int .i64 0),.v (.int .i64 0)],[(0,1,some false),(1,1,some false),(2,1,some false)],.struct,40⟩),
 (265,⟨1,false,[.v .nilFunc],[],.func,8⟩),
 (274,⟨1,false,[.v .nilFunc],[],.func,8⟩),
 (287,⟨1,false,[.v .nilFunc],[],.func,8⟩),
 (289,⟨1,false,[.v (.slice none 0 0)],[],.slice 99,24⟩),
 (300,⟨3,true,[.v (.int .i64 0),.v (.slice none 0 0),.v (.int .i64 0)],[(0,1,some false),(1,1,some false),(2,1,some false)],.struct,40⟩),
 (315,⟨1,false,[.v .nilFunc],[],.func,8⟩),
 (318,⟨1,false,[.v (.int .u64 0)],[],.int .u64,8⟩),
 (326,⟨1,false,[.v (.slice none 0 0)],[],.slice 329,24⟩),
 (329,⟨3,true,[.v (.string ⟨#[]⟩),.v (.int .i64 0),.ff],[(0,1,some false),(1,1,some false),(2,1,some false)],.struct,32⟩),
 (333,⟨1,false,[.v .nilFunc],[],.func,8⟩),
 (334,⟨1,false,[.v (.map none)],[],.map 9 4,8⟩),
 (336,⟨3,true,[.v (.int .u8 0),.v (.int .u8 0),.v (.int .i32 0)],[(0,1,some false),(1,1,some false),(2,1,some false)],.struct,8⟩),
 (337,⟨12,true,[.v (.int .u8 0),.v (.int .u8 0),.v (.int .i32 0),.v (.int .u8 0),.v (.int .u8 0),.v (.int .i32 0),.v (.int .u8 0),.v (.int .u8 0),.v (.int .i32 0),.v (.int .u8 0),.v (.int .u8 0),.v (.int .i32 0)],[],.array 4 336,32⟩),
 (340,⟨1,false,[.v .nilFunc],[],.func,8⟩),
 (354,⟨256,true,List.replicate 256 .ff,[],.array 256 4,256⟩),
 (358,⟨1,false,[.v (.pointer none)],[],.ptr 354,8⟩),
 (360,⟨1,false,[.v (.pointer none)],[],.ptr 362,8⟩),
 (362,⟨2,true,[.v (.pointer none),.v (.slice none 0 0)],[(0,1,some false),(1,1,some false)],.struct,32⟩),
 (364,⟨1,false,[.v .nilIface],[],.iface,16⟩),
 (372,⟨1,false,[.v (.pointer none)],[],.ptr 5,8⟩),
 (374,⟨1,false,[.v (.pointer none)],[],.other,8⟩),
 (378,⟨2,true,[.v (.int .u8 0),.v (.int .u8 0)],[(0,1,some false),(1,1,some false)],.struct,2⟩),
 (379,⟨32,true,[.v (.int .u8 0),.v (.int .u8 0),.v (.int .u8 0),.v (.int .u8 0),.v (.int .u8 0),.v (.int .u8 0),.v (.int .u8 0),.v (.int .u8 0),.v (.int .u8 0),.v (.int .u8 0),.v (.int .u8 0),.v (.int .u8 0),.v (.int .u8 0),.v (.int .u8 0),.v (.int .u8 0),.v (.int .u8 0),.v (.int .u8 0),.v (.int .u8 0),.v (.int .u8 0),.v (.int .u8 0),.v (.int .u8 0),.v (.int .u8 0),.v (.int .u8 0),.v (.int .u8 0),.v (.int .u8 0),.v (.int .u8 0),.v (.int .u8 0),.v (.int .u8 0),.v (.int .u8 0),.v (.int .u8 0),.v (.int .u8 0),.v (.int .u8 0)],[],.array 16 378,32⟩),
 (380,⟨1,false,[.v (.int .u32 0)],[],.int .u32,4⟩)
]
theorem TT: cu Tryz.prog tt:=cu.cons Zk (cu.cons Zk (cu.cons Zk (cu.cons Zk (cu.cons Zk (cu.cons Zk (cu.cons Zk (cu.cons Zk (cu.cons Zk (cu.cons Zk (cu.cons Zk (cu.cons Zk (cu.cons Zk (cu.cons Zk (cu.cons Zk (cu.cons Zk (cu.cons Zk (cu.cons Zk (cu.cons Zk (cu.cons Zk (cu.cons Zk (cu.cons Zk (cu.cons Zk (cu.cons Zk (cu.cons Zk (cu.cons Zk (cu.cons Zk (cu.cons Zk (cu.cons Zk (cu.cons Zk (cu.cons Zk (cu.cons Zk (cu.cons Zk (cu.cons Zk (cu.cons Zk (cu.cons Zk (cu.cons Zk (cu.cons Zk (cu.cons Zk (cu.cons Zk (cu.cons Zk (cu.cons Zk (cu.cons Zk (cu.cons Zk (cu.cons Zk (cu.cons Zk (cu.cons Zk (cu.cons Zk (cu.cons Zk (cu.cons Zk (cu.cons Zk (cu.cons Zk (cu.cons Zk (cu.cons Zk (cu.cons Zk (cu.cons Zk (cu.cons Zk (cu.cons Zk (cu.cons Zk (cu.cons Zk (cu.cons Zk (cu.cons Zk (cu.cons Zk (cu.cons Zk (cu.cons Zk (cu.cons Zk (cu.cons Zk (cu.cons Zk (cu.cons Zk (cu.cons Zk (cu.cons Zk (cu.cons Zk (cu.cons Zk (cu.cons Zk (cu.cons Zk (cu.cons Zk (cu.cons Zk (cu.cons Zk (cu.cons Zk (cu.cons Zk (cu.cons Zk (cu.cons Zk (cu.cons Zk (cu.cons Zk (cu.cons Zk (cu.cons Zk (cu.cons Zk (cu.cons Zk (cu.cons Zk (cu.cons Zk (cu.cons Zk (cu.cons Zk (cu.cons Zk (cu.cons Zk (cu.cons Zk (cu.cons Zk (cu.cons Zk (cu.cons Zk (cu.cons Zk (cu.cons Zk (cu.cons Zk (cu.nil _)))))))))))))))))))))))))))))))))))))))))))))))))))))))))))))))))))))))))))))))))))))))))))))))))))))
end Go.Sy
namespace Go.Sy
section
variable {cf:Cf} {σ:al} {hp:HP} {A:List AE} {β:Nat->Addr} {w:World}
theorem dy.Qr{o:Obj}(h:dy cf σ hp A β (w.drew.alloc o)): dy cf σ hp A β (w.alloc o) :=
 ⟨h.os,h.tape,h.output,h.size,h.fr,h.cQ,h.le,h.grow,h.loc,h.ro,h.inj,h.arr,h.iR,h.iL⟩
end
theorem En(v:Value)(n:Nat): madeCells #[v] n=(List.replicate n v).toArray:=by
 apply Array.ext
 ·simp[madeCells]
 ·intro i h1 h2
  simp[madeCells,Nat.mod_one]
section
variable {cf:Cf} {Q:Exit->Act->World->Prop} {σ:al} {env:Env} {hp:HP} {A:List AE} {nh:Nat} {it:Item} {rest:List Item}
theorem xM{d:Nat}{t e n:Nat}{x y:Operand}{T:List (Nat×TI)}(hT:cu cf.P T){ti te:TI}{c0:AT}(fL:it.o.op=.makeSlice t x y)(hd:it.o.dst=some d)(hg:bt it.guard env=some true)(hN:Nat.blt d cf.N=true)(Bo:iV it.tag=true)(hx:bP env x=some (.a (.v (.int .i64 n))))(hy:bP env y=some (.a (.v (.int .i64 n))))(ht:eX T t=some ti)(vU:ti.kind=.slice e)(qf:eX T e=some te)(jZ:te.size=1)(hze:te.zero=[c0])(_:c0.lt 0)(Pj:n*te.bytes<=281474976710656)(sq:n<=1000000000)(hk:∀ g,OJ cf rest Q σ ((d,.a (.v (.slice (some ⟨g,0,none⟩) n n)))::env) hp (A++[⟨some ⟨g,0,none⟩,n,n,e,1,List.replicate n c0.val⟩]) nh): OJ cf (it::rest) Q σ env hp A nh:=by
 refine pZ hd hg hN Bo fun hb a β ha w hw=>?_
 obtain⟨i1,d1,z1,m1⟩:=bK (hT _ _ ht)
 obtain⟨i3,d3,z3,lh⟩:=bK (hT _ _ qf)
 have tZ:cf.P.underlying t=some (.slice e):=by
  have h1:=m1.kind
  rw[vU] at h1
  have h2:=m1.qx
  cases d1<;>first
   | (simp only[fx,TK.slice.injEq] at h1;subst h1;exact h2)
   | (simp only[fx] at h1;cases h1)
 have Hr:z3.cells=#[c0.val]:=by
  have:=zero_den lh fy
  rw[<-this,hze]
  rfl
 have yu:a.eval x=.int .i64 n:=aD ha hx
 have X6:a.eval y=.int .i64 n:=aD ha hy
 have ed:=run_make (P:=cf.P) w t e i3 z3 tZ lh.info lh.zero .i64 .i64 n n Zo (dB _) (by rw[lh.bytes];rw[<-Int.natCast_mul,Nat.mul_comm];omega) Zo
 rw[lh.size,jZ,cd,kS,Hr,En] at ed
 have hm:=((dy.y9 e 1).1 hw).Bj (i:=A.length) (E:=⟨none,0,0,e,1,[]⟩) (E':=⟨some ⟨w.heap.size,0,none⟩,n,n,e,1,List.replicate n c0.val⟩) (qP:=(List.replicate n c0.val).toArray) (by simp) rfl (aq _) (by simp only[maxLen];omega) (by simp) (by simp) (by simp)
 have LN:(A++[(⟨none,0,0,e,1,[]⟩:AE)]).set A.length ⟨some ⟨w.heap.size,0,none⟩,n,n,e,1,List.replicate n c0.val⟩=A++[⟨some ⟨w.heap.size,0,none⟩,n,n,e,1,List.replicate n c0.val⟩]:=by
  rw[dY _ _ (aq _),fM]
  rfl
 rw[LN] at hm
 refine⟨.a (.v (.slice (some ⟨w.heap.size,0,none⟩) n n)),σ,hp,_,nh,_,β,?_,ha,hb.put (x:=.a (.v (.slice (some ⟨w.heap.size,0,none⟩) n n))) trivial d,hm.Qr,hk w.heap.size⟩
 simp only[execOp,fL,yu,X6,Sem.run_bind,ed,Result.andThen_ok,Sem.run_pure]
 rfl
def XT:Op->Option (Bool×Operand×Operand)
 | .call c =>
  match c.callee,c.args.toList with
  | .builtin .min,[x,y]=>some (true,x,y)
  | .builtin .max,[x,y]=>some (false,x,y)
  | _,_=>none
 | _=>none
theorem RM{o:Oper}{b:Bool}{x y:Operand}(h:XT o.op=some (b,x,y)){P:Program}{a:Act}{w:World}{k:IntKind}{m n:Int}(hx:a.eval x=.int k m)(hy:a.eval y=.int k n):
  (execOp a.eval o).run P w=.ok (.value (.int k (if b then (if n<m then n else m) else (if n > m then n else m)))) w:=by
 unfold XT at h
 split at h
 ·rename_i c fL
  have e1:∀ l,c.args.toList=l->c.args=l.toArray:=fun l hl=>by
   cases hq:c.args with
   | mk l'=>rw[hq] at hl;simp only at hl;rw[hl]
  split at h
  ·rename_i x' y' su fi
   injection h with h
   simp only[cC] at h
   obtain⟨rfl,rfl,rfl⟩:=h
   simp only[execOp,fL,resolve,su,e1 _ fi,invoke,builtin,Sem.run_bind,Sem.run_pure,Result.andThen_ok,kY,bx,gi,Builtin.min_,hx,hy,List.foldlM_cons,List.foldlM_nil,Builtin.min2]
   rfl
  ·rename_i x' y' su fi
   injection h with h
   simp only[cC] at h
   obtain⟨rfl,rfl,rfl⟩:=h
   simp only[execOp,fL,resolve,su,e1 _ fi,invoke,builtin,Sem.run_bind,Sem.run_pure,Result.andThen_ok,kY,bx,gi,Builtin.max_,hx,hy,List.foldlM_cons,List.foldlM_nil,Builtin.max2]
   rfl
  ·cases h
 ·cases h
theorem Rz{d:Nat}{b:Bool}{x y:Operand}{m n:Int}(fL:XT it.o.op=some (b,x,y))(hd:it.o.dst=some d)(hg:bt it.guard env=some true)(hN:Nat.blt d cf.N=true)(ec:(match it.tag with | .pure=>false | _=>true)=true)(hx:bP env x=some (.a (.v (.int .i64 m))))(hy:bP env y=some (.a (.v (.int .i64 n))))(k:OJ cf rest Q σ ((d,.a (.v (.int .i64 (if b then (if n<m then n else m) else (if n > m then n else m)))))::env) hp A nh): OJ cf (it::rest) Q σ env hp A nh :=
 tk (.a (.v (.int .i64 (if b then (if n<m then n else m) else (if n > m then n else m))))) hd hg hN trivial ec
  (fun _ _ β ha _ _=>RM fL (aD (β:=β) ha hx) (aD (β:=β) ha hy)) k
end
end Go.Sy
namespace Go.Sy
theorem Em(z:List Value)(k:Nat): (madeCells z.toArray (k*z.length)).toList=(List.replicate k z).flatten:=by
 have mD:∀ r∈List.replicate k z,r.length=z.length:=fun r hr=>by rw[List.eq_of_mem_replicate hr]
 have hl:(List.replicate k z).flatten.length=k*z.length:=by rw[pA mD,fK]
 have Hw:(madeCells z.toArray (k*z.length)).toList.length=k*z.length:=by rw[cZ,size_madeCells]
 apply List.ext_getElem?
 intro i
 by_cases hi:i<k*z.length
 ·have hz:0<z.length:=by
   rcases nd z.length with h | h
   ·rw[h,Nat.mul_zero] at hi;omega
   ·exact h
  have hm:i / z.length<k:=Nat.div_lt_of_lt_mul (by rw[Nat.mul_comm];exact hi)
  have hj:i % z.length<z.length:=Nat.mod_lt _ hz
  have:=sy mD (m:=i / z.length) (j:=i % z.length) (r:=z) (c:=z[i % z.length]) (by rw[List.getElem?_replicate,au hm]) (aa hj)
  rw[Nat.mul_comm,Nat.div_add_mod] at this
  rw[this]
  unfold madeCells
  rw[Array.getElem?_toList,Array.getElem?_map,Array.getElem?_range,au hi]
  simp[hj]
 ·rw[jO Zo,jO Zo]
section
variable {cf:Cf} {Q:Exit->Act->World->Prop} {σ:al} {env:Env} {hp:HP} {A:List AE} {nh:Nat} {it:Item} {rest:List Item}
theorem Ec{d:Nat}{t e n:Nat}{x y:Operand}{T:List (Nat×TI)}(hT:cu cf.P T){ti te:TI}(xs:List Value)(fL:it.o.op=.makeSlice t x y)(hd:it.o.dst=some d)(hg:bt it.guard env=some true)(hN:Nat.blt d cf.N=true)(Bo:iV it.tag=true)(hx:bP env x=some (.a (.v (.int .i64 n))))(hy:bP env y=some (.a (.v (.int .i64 n))))(ht:eX T t=some ti)(vU:ti.kind=.slice e)(qf:eX T e=some te)(Pj:n*te.bytes<=281474976710656)(sq:n<=1000000000)(vF:(madeCells (te.zero.map AT.val).toArray (n*te.size)).toList=xs)(hk:∀ g,OJ cf rest Q σ ((d,.a (.v (.slice (some ⟨g,0,none⟩) n n)))::env) hp (A++[⟨some ⟨g,0,none⟩,n,n,e,te.size,xs⟩]) nh): OJ cf (it::rest) Q σ env hp A nh:=by
 refine pZ hd hg hN Bo fun hb a β ha w hw=>?_
 obtain⟨i1,d1,z1,m1⟩:=bK (hT _ _ ht)
 obtain⟨i3,d3,z3,lh⟩:=bK (hT _ _ qf)
 have tZ:cf.P.underlying t=some (.slice e):=by
  have h1:=m1.kind
  rw[vU] at h1
  have h2:=m1.qx
  cases d1<;>first
   | (simp only[fx,TK.slice.injEq] at h1;subst h1;exact h2)
   | (simp only[fx] at h1;cases h1)
 have Hr:z3.cells=(te.zero.map AT.val).toArray:=(zero_den lh fy).symm
 have pa:xs.length=n*te.size:=by rw[<-vF,cZ,size_madeCells]
 have yu:a.eval x=.int .i64 n:=aD ha hx
 have X6:a.eval y=.int .i64 n:=aD ha hy
 have ed:=run_make (P:=cf.P) w t e i3 z3 tZ lh.info lh.zero .i64 .i64 n n Zo (dB _) (by rw[lh.bytes];rw[<-Int.natCast_mul,Nat.mul_comm];omega) Zo
 rw[lh.size,cd,Hr] at ed
 have hm:=((dy.y9 e te.size).1 hw).Bj (i:=A.length) (E:=⟨none,0,0,e,te.size,[]⟩) (E':=⟨some ⟨w.heap.size,0,none⟩,n,n,e,te.size,xs⟩) (qP:=madeCells (te.zero.map AT.val).toArray (n*te.size)) (by simp) rfl (aq _) (by simp only[maxLen];omega) (by dsimp only;exact pa) (by rw[size_madeCells]) (by dsimp only;rw[vF,<-pa,aI])
 have LN:(A++[(⟨none,0,0,e,te.size,[]⟩:AE)]).set A.length ⟨some ⟨w.heap.size,0,none⟩,n,n,e,te.size,xs⟩=A++[⟨some ⟨w.heap.size,0,none⟩,n,n,e,te.size,xs⟩]:=by
  rw[dY _ _ (aq _),fM]
  rfl
 rw[LN] at hm
 refine⟨.a (.v (.slice (some ⟨w.heap.size,0,none⟩) n n)),σ,hp,_,nh,_,β,?_,ha,hb.put (x:=.a (.v (.slice (some ⟨w.heap.size,0,none⟩) n n))) trivial d,hm.Qr,hk w.heap.size⟩
 simp only[execOp,fL,yu,X6,Sem.run_bind,ed,Result.andThen_ok,Sem.run_pure]
 rfl
end
section
variable {cf:Cf} {σ:al} {hp:HP} {A:List AE} {β:Nat->Addr} {w:World}
end
section
variable {cf:Cf} {Q:Exit->Act->World->Prop} {σ:al} {env:Env} {hp:HP} {A:List AE} {nh:Nat}
end
end Go.Sy
namespace Go.Sy
section
variable {cf:Cf} {Q:Exit->Act->World->Prop} {σ:al} {env:Env} {hp:HP} {A:List AE} {nh:Nat} {it:Item} {rest:List Item}
theorem Is{σ:al}{w:World}(h:tU σ w){a:Addr}{v:Value}(hv:σ.cell a=some v): w.cell? a=some v:=by
 unfold al.cell at hv
 unfold World.cell?
 split at hv
 ·rename_i c e f hc
  rw[h _ _ hc]
  exact hv
 ·cases hv
variable {W:(Nat->Addr)->World->Prop}
def Tu:Op->Option (Operand×TypeId)
 | .call c =>
  match c.callee,c.args.toList,c.argTypes.toList with
  | .builtin .cap,[x],[t]=>some (x,t)
  | _,_,_=>none
 | _=>none
theorem PH{o:Oper}{x:Operand}{t:TypeId}(h:Tu o.op=some (x,t)){P:Program}{a:Act}{w w':World}{v:Value}(hr:(Builtin.cap_ #[t] o.type #[a.eval x]).run P w=.ok v w'): (execOp a.eval o).run P w=.ok (.value v) w':=by
 unfold Tu at h
 split at h
 ·rename_i c fL
  split at h
  ·rename_i x' t' su fi tv
   injection h with h
   simp only[cC] at h
   obtain⟨rfl,rfl⟩:=h
   have e1:c.args=#[x']:=by
    cases hq:c.args with
    | mk l=>rw[hq] at fi;simp only at fi;rw[fi]
   have e2:c.argTypes=#[t']:=by
    cases hq:c.argTypes with
    | mk l=>rw[hq] at tv;simp only at tv;rw[tv]
   simp only[execOp,fL,resolve,su,e1,e2,invoke,builtin,Sem.run_bind,Sem.run_pure,Result.andThen_ok,kY,bx,gi,hr]
  ·cases h
 ·cases h
theorem RA{d:Nat}{x:Operand}{t e:TypeId}{T:List (Nat×TI)}(hT:cu cf.P T){ti:TI}{ao:Option Addr}{n cap:Nat}(fL:Tu it.o.op=some (x,t))(hd:it.o.dst=some d)(hg:bt it.guard env=some true)(hN:Nat.blt d cf.N=true)(hx:bP env x=some (.a (.v (.slice ao n cap))))(ht:eX T t=some ti)(xi:ti.kind=.slice e)(hk:OJ cf rest Q σ ((d,.a (.v (.int .i64 cap)))::env) hp A nh): OJ cf (it::rest) Q σ env hp A nh:=by
 refine jB (.a (.v (.int .i64 cap))) hd hg hN trivial (fun _ a β ha w=>?_) hk
 obtain⟨i2,d2,z2,mR⟩:=bK (hT _ _ ht)
 have h1:=mR.kind
 have Bn:cf.P.underlying t=some (.slice e):=by
  rw[xi] at h1
  have h2:=mR.qx
  cases d2<;>first
   | (simp only[fx,TK.slice.injEq] at h1;subst h1;exact h2)
   | (simp only[fx] at h1;cases h1)
 have h2:a.eval x=.slice ao n cap:=aD ha hx
 refine PH fL ?_
 rw[h2]
 simp only[Builtin.cap_,eE,bn,Sem.run_bind,run_underlying Bn,Result.andThen_ok,Sem.run_pure]
 rfl
theorem wQ{d:Nat}{x y:Operand}{xt yt:TypeId}{m n:Int}(fL:it.o.op=.binOp .quo xt x y yt)(hd:it.o.dst=some d)(hg:bt it.guard env=some true)(hN:Nat.blt d cf.N=true)(hx:bP env x=some (.a (.v (.int .i64 m))))(hy:bP env y=some (.a (.v (.int .i64 n))))(hn:n≠0)(hb:-9223372036854775808<=m.tdiv n/\m.tdiv n<=9223372036854775807)(hk:OJ cf rest Q σ ((d,.a (.v (.int .i64 (m.tdiv n))))::env) hp A nh): OJ cf (it::rest) Q σ env hp A nh :=
 kI _ fL hd hg hN hx hy (fun w P=>UL hn (IntWalk.i64_in _ Zo) w P) hk
theorem dy.Xg{β:Nat->Addr}{w:World}(h:dy cf σ hp A β w): dy cf σ hp [] β w :=
 { h with arr:=fun i E hi=>(by simp at hi),iR:=fun i j E F hi=>(by simp at hi),iL:=fun i j E e cs hi=>(by simp at hi) }
end
end Go.Sy
namespace Go.Sy
theorem H8{α:Type}(l news:List α)(off N:Nat)(h:off+news.length<=N)(hl:N<=l.length):
  (l.take off++news++l.drop (off+news.length)).take N=(l.take N).take off++news++(l.take N).drop (off+news.length):=by
 have h1:(l.take off++news).length=off+news.length:=by rw[af,aE];omega
 rw[List.take_append,h1,bY Zo,kc,gA Zo,List.drop_take]
section
variable {cf:Cf} {Q:Exit->Act->World->Prop} {σ:al} {env:Env} {hp:HP} {A:List AE} {nh:Nat} {it:Item} {rest:List Item}
theorem p6(i:Nat){E:AE}{A':List AE}{t:Nat}{x y:Operand}{T:List (Nat×TI)}(hT:cu cf.P T){ti:TI}{g off:Nat}{cs:List AT}(fL:it.o.op=.store t x y)(hd:it.o.dst=none)(hg:bt it.guard env=some true)(ec:iV it.tag=true)(hx:bP env x=some (.a (.v (.pointer (some ⟨g,off,none⟩)))))(hy:bP env y=some (.agg cs))(hi:A[i]?=some E)(hE:E.ao=some ⟨g,0,none⟩)(ht:eX T t=some ti)(jZ:ti.size=cs.length)(GH:off+cs.length<=E.n*E.sz)(hc:∀ c∈cs,c.lt 0)(mU:cs.all AT.one=true)(hA:A.set i ⟨E.ao,E.n,E.cap,E.e,E.sz,E.xs.take off++cs.map AT.val++E.xs.drop (off+cs.length)⟩=A')(k:OJ cf rest Q σ env hp A' nh): OJ cf (it::rest) Q σ env hp A nh:=by
 subst hA
 refine⟨fun hb a β ha hex=>?_⟩
 have key:∀ w,dy cf σ hp A β w->∀ Q',it.o.wq cf.P a w (fun a' w'=>∃ E' S':World->Prop,S' w'/\(∀ x,S' x->E' x)/\RunT cf.P Q rest E' S' a') Q':=by
  intro w hw Q'
  obtain⟨inf,d',z,hs⟩:=bK (hT _ _ ht)
  have Eo:a.eval x=.pointer (some ⟨g,off,none⟩):=aD ha hx
  have am0:cs.map (AT.den β)=cs.map AT.val:=cY fun c h=>AT.qi (hc c h) β
  have hy':a.eval y=.agg (cs.map AT.val).toArray:=by
   rw[<-am0]
   exact aD ha hy
  have x5:=hw.arr i E hi
  rcases x5.2 with h1 | ⟨g',cur,h3,h4,h5,h6,h7,h8,h9,uS⟩
  ·rw[h1.1] at hE;cases hE
  ·rw[hE] at h3
   injection h3 with h3
   simp only[Addr.mk.injEq,and_true] at h3
   subst h3
   have Fx:E.n*E.sz<=E.cap*E.sz:=cn _ h5
   have Np:cur.toList.length=E.cap*E.sz:=by rw[cZ,h7]
   have pL:=run_storeCells_at cf.P g off E.e (cs.map AT.val) 0 cur w h4 (by simp only[aR];omega) (fun v hv=>by
    obtain⟨c,DY,rfl⟩:=bL.1 hv
    exact AT.one_den fy (dc.1 mU c DY))
   simp only[eM,aR] at pL
   have ed:(execOp a.eval it.o).run cf.P w=.ok .skip (w.setRow g (cur.toList.take off++cs.map AT.val++cur.toList.drop (off+cs.length)).toArray):=by
    have Yf:inf.size=cs.length:=by rw[hs.size,jZ]
    simp only[execOp,fL,Instr.storeAt,Eo,hy',Instr.sureAddr,storeVar,Sem.run_bind,Sem.run_pure,Result.andThen_ok,Value.cells,gO hs.info,Yf,fw,aR,ne_eq,not_true,if_false,Sem.run_ite,pL]
   unfold Oper.wq
   rw[ed]
   have mi:=H8 cur.toList (cs.map AT.val) off (E.n*E.sz) (by simp only[aR];omega) Zo
   simp only[aR] at mi
   have pa:E.xs.length=E.n*E.sz:=x5.1
   have gQ:=hw.wG (E':=⟨E.ao,E.n,E.cap,E.e,E.sz,E.xs.take off++cs.map AT.val++E.xs.drop (off+cs.length)⟩) (qP:=(cur.toList.take off++cs.map AT.val++cur.toList.drop (off+cs.length)).toArray) hi hE h4 Z Z Z Z h5
    (by simp only[af,aE,bm,aR];omega) (by simp only[fw,af,aE,bm,aR];omega) (by rw[mi,h8])
   refine⟨_,_,gQ,fun _ h=>h,?_⟩
   rw[hd]
   exact k.run hb a β ha ⟨_,gQ⟩
 simp only[RunT]
 rw[au (da ha hg)]
 cases kL:it.tag with
 | pure=>rw[kL] at ec;cases ec
 | quiet=>rw[kL] at ec;cases ec
 | dP=>rw[kL] at ec;cases ec
 | sink=>exact fun w hw=>key w hw _
 | free=>exact fun w hw=>key w hw _
end
end Go.Sy
