/- Parts of the proof of CStreamsPlay: SyA, SyB, SyC, SyD, SyE. No conditions. -/
import Derived.Orders
import Derived.Tactics
import Derived.OrdersIn
import Derived.TacticsIn
import Derived.WalkKit
import Derived.MapKept
import Derived.RangeFuncRecord
import Derived.Test.YtlonlnagmfdlbaaGreatDoorProg
import Derived.KernelRfl
import Derived.Scope
import Derived.Laws.MakeOwn
import Derived.Laws.IdiomStrings
import Derived.Lib.BufferRead
import Derived.Laws.Externs
import Derived.Lib.BytesEntry
import Derived.Lib.Overlaps
import Derived.Shelf.Strings.Replace
import Derived.Carry
import Derived.RowKit
import Derived.ChangeStays
import Derived.ChangeSame
import Derived.ReadAgain
import Derived.SizedLaws
import Derived.Deep.DeepHandedRow
import Derived.ProofKit
import Derived.OpenShut
import Derived.Lay
import Derived.SevenTiedAt
import Derived.Stop.Joined
import Derived.Test.YtlonlnagmfdlbaaGreatDoorCards
import Derived.Test.YtlonlnagmfdlbaaGreatDoorTie
import Derived.Shelf.Vars
import Derived.WideShapes
set_option maxRecDepth 100000
set_option maxHeartbeats 16000000
namespace Go.Sy
theorem Z.{u} {α:Sort u} {a:α}:a=a:=rfl
theorem Zo {p:Prop} (h:p:=by omega):p:=h
theorem Zk {p:Prop} (h:p:=by kernel_rfl):p:=h
abbrev aa:=@List.getElem?_eq_getElem
abbrev ab:=@of_decide_eq_false
abbrev ae:=@of_decide_eq_true
abbrev af:=@List.length_append
abbrev ah:=@List.getElem?_eq_some_iff
abbrev ai:=@if_neg
abbrev aj:=@Nat.zero_lt_one
abbrev ak:=@List.take_succ_eq_append_getElem
abbrev aq:=@Nat.le_refl
abbrev au:=@if_pos
abbrev av:=@List.append_assoc
abbrev ay:=@Nat.zero_le
abbrev aB:=@List.drop_eq_getElem_cons
abbrev aC:=@List.mem_of_getElem?
abbrev aE:=@List.length_take
abbrev aF:=@List.map_append
abbrev aI:=@List.take_length
abbrev aL:=@List.append_nil
abbrev aN:=@congrArg
abbrev aO:=@List.getElem?_map
abbrev aP:=@List.getElem_mem
abbrev aQ:=@Bool.and_eq_true
abbrev aR:=@List.length_map
abbrev aU:=@List.mem_singleton
abbrev aV:=@List.getElem?_append_left
abbrev aW:=@List.getElem?_append_right
abbrev aX:=@decide_eq_true_eq
abbrev aY:=@List.eq_nil_of_length_eq_zero
abbrev aZ:=@List.cons_append
abbrev a8:=@List.mem_cons_self
abbrev ba:=@List.mem_cons_of_mem
abbrev bf:=@Option.some.injEq
abbrev bg:=@List.getElem?_cons_succ
abbrev bh:=@Nat.le_of_ble_eq_true
abbrev bj:=@decide_eq_true
abbrev bm:=@List.length_drop
abbrev bn:=@List.getElem?_cons_zero
abbrev bx:=@List.map_cons
abbrev bz:=@List.mem_append
abbrev bC:=@List.drop_length
abbrev bH:=@Array.getElem?_eq_some_iff
abbrev bI:=@Option.some.inj
abbrev bL:=@List.mem_map
abbrev bM:=@List.mem_cons
abbrev bY:=@List.take_of_length_le
abbrev b7:=@decide_eq_false
abbrev b8:=@List.length_singleton
abbrev cd:=@Int.toNat_natCast
abbrev cg:=@Bool.eq_iff_iff
abbrev cn:=@Nat.mul_le_mul_right
abbrev cp:=@Bool.true_and
abbrev cC:=@Prod.mk.injEq
abbrev cF:=@List.nil_append
abbrev cG:=@Nat.zero_add
abbrev cJ:=@List.drop_zero
abbrev cK:=@List.take_append_drop
abbrev cX:=@List.take_succ_cons
abbrev cY:=@List.map_congr_left
abbrev cZ:=@Array.length_toList
abbrev db:=@Nat.lt_succ_self
abbrev dc:=@List.all_eq_true
abbrev dh:=@List.length_set
abbrev dr:=@List.mem_of_mem_take
abbrev dt:=@Bool.false_and
abbrev dx:=@List.flatten_cons
abbrev dA:=@List.not_mem_nil
abbrev dB:=@Int.le_refl
abbrev dE:=@List.pairwise_iff_getElem
abbrev dG:=@List.map_take
abbrev dH:=@List.drop_succ_cons
abbrev dI:=@Bool.false_eq_true
abbrev dO:=@List.drop_of_length_le
abbrev dR:=@List.map_drop
abbrev dS:=@List.filter_cons
abbrev dW:=@Nat.lt_of_sub_eq_succ
abbrev dX:=@Nat.eq_of_beq_eq_true
abbrev dY:=@List.set_append_right
abbrev ep:=@Nat.le_trans
abbrev eu:=@List.filter_append
abbrev eC:=@Nat.add_mul
abbrev eD:=@decide_eq_false_iff_not
abbrev eE:=@List.getElem?_toArray
abbrev eM:=@Nat.add_zero
abbrev eW:=@List.mem_append_left
abbrev eZ:=@List.getElem?_set
abbrev fj:=@List.flatten_append
abbrev fv:=@List.take_zero
abbrev fw:=@List.size_toArray
abbrev fC:=@Nat.lt_of_lt_of_le
abbrev fD:=@Nat.blt_eq
abbrev fE:=@List.getElem?_take
abbrev fF:=@List.getElem?_drop
abbrev fK:=@List.length_replicate
abbrev fM:=@Nat.sub_self
abbrev fY:=@List.take_append_of_le_length
abbrev fZ:=@List.mem_of_mem_drop
abbrev gg:=@List.mem_iff_getElem
abbrev gi:=@List.map_nil
abbrev gA:=@Nat.min_eq_left
abbrev gH:=@List.mem_append_right
abbrev gV:=@List.length_eq_zero_iff
abbrev hX:=@List.set_cons_zero
abbrev iE:=@Bool.not_eq_true'
abbrev iH:=@List.mem_of_mem_eraseIdx
abbrev iM:=@UInt8.toNat_inj
abbrev iW:=@List.pairwise_append
abbrev jm:=@List.map_map
abbrev jn:=@List.getD_eq_getElem?_getD
abbrev jq:=@Array.getElem?_push
abbrev jw:=@List.mem_filter
abbrev jx:=@Bool.or_eq_true
abbrev jG:=@List.eraseIdx_eq_take_drop_succ
abbrev jI:=@List.mem_or_eq_of_mem_set
abbrev jJ:=@Classical.byContradiction
abbrev jN:=@UInt8.lt_iff_toNat_lt
abbrev jO:=@List.getElem?_eq_none
abbrev jP:=@List.contains_iff_mem
abbrev j7:=@Nat.add_assoc
abbrev kc:=@List.take_take
abbrev ke:=@List.take_left
abbrev kQ:=@List.head?_eq_getElem?
abbrev kS:=@Nat.mul_one
abbrev kT:=@Nat.le_succ
abbrev kX:=@List.mem_flatten
abbrev kY:=@List.map_toArray
abbrev lu:=@Bool.and_false
abbrev lx:=@List.length_filter_le
abbrev lV:=@Nat.lt_or_ge
abbrev lW:=@List.map_set
abbrev mh:=@Bool.and_true
abbrev mP:=@Nat.add_sub_cancel_left
abbrev nd:=@Nat.eq_zero_or_pos
abbrev nf:=@List.set_cons_succ
abbrev nJ:=@List.filter_nil
end Go.Sy
namespace Go.Sy
def FR (rd:Option Nat):Fence:={ fn:=fun _=>True,depth:=none,alive:=false,round:=rd }
theorem Pw(rd:Option Nat)(P:Program)(m:Machine): m.fenced P (FR rd):=by
 intro g _
 refine⟨fun h=>?_,Or.inl trivial,fun _ _=>trivial,fun _ h=>?_⟩
 ·simp[FR] at h
 ·simp[FR] at h
theorem Gd(rd:Option Nat)(n:Nat): (FR rd).room n:=fun _ h=>by simp[FR] at h
theorem sX{rd:Option Nat}{P:Program}{m m':Machine}: StepsIn (Machine.fenced P (FR rd)) P m m'↔Steps P m m' :=
 ⟨StepsIn.steps,fun h=>(StepsIn.of_steps h).mono fun m _=>Pw rd P m⟩
theorem tN{rd:Option Nat}{P:Program}{m m':Machine}{e:Ending}: ComesIn (Machine.fenced P (FR rd)) P m m' e↔Comes P m m' e:=by
 cases e with
 | returned v=>exact sX
 | panicked chain=>exact sX
 | outgrown=>exact Iff.rfl
theorem jW{rd:Option Nat}{n:Nat}{P:Program}{f:FuncId}{args:Array Value}{w:World}{R:Ending->World->Prop}: CallsIn (FR rd) n P f args w R↔Calls P f args w R :=
 ⟨fun h cs=>let ⟨e,w',fr,r,s,x⟩:=h.2 cs (Gd rd _);⟨e,w',fr,r,tN.1 s,x⟩,
  fun h=>⟨trivial,fun cs _=>let ⟨e,w',fr,r,s,x⟩:=h cs;⟨e,w',fr,r,tN.2 s,x⟩⟩⟩
def _root_.Go.Oper.wq (P:Program) (o:Oper) (a:Act) (w:World) (next:Act->World->Prop) (Q:Exit->Act->World->Prop):Prop :=
 o.uponIn (FR none) 0 P a next Q ((execOp a.eval o).run P w)
theorem va{P:Program}{o:Oper}{a:Act}{w:World}{K K':Act->World->Prop}{Q:Exit->Act->World->Prop}(h:∀ a w,K a w->K' a w)(hh:o.wq P a w K Q): o.wq P a w K' Q:=by
 unfold Oper.wq at *
 generalize (execOp a.eval o).run P w=r at *
 cases r with
 | ok x w' =>
  cases x<;>simp only[Oper.uponIn] at hh ⊢ <;>
   first
    | exact h _ _ hh
    | exact⟨hh.1,CallsIn.mono hh.2 (fun e BJ he=>by cases e<;>first | exact h _ _ he | exact he)⟩
    | exact⟨hh.1,RowsIn.mono hh.2 (fun _ _ he=>h _ _ he)⟩
    | exact⟨hh.1,RoundIn.mono hh.2 (fun e BJ he=>by cases e<;>first | exact h _ _ he | exact he)⟩
 | halt x w'=>cases x<;>simp only[Oper.uponIn] at hh ⊢<;>exact hh
inductive Tag where
 | free | pure | quiet | dP | sink
structure Item where
 tag:Tag
 guard:Option (Option Nat×Bool)
 o:Oper
def BE (Q:Exit->Act->World->Prop):Exit->Act->World->Prop
 | .panic _,_,_=>False
 | e,a,w=>Q e a w
def vb (g:Option (Option Nat×Bool)) (a:Act):Bool :=
 match g with
 | none=>true
 | some (none,_)=>false
 | some (some t,b) =>
  match a.tmps[t]? with
  | some (.bool x)=>x == b
  | _=>false
def j9 (ops:Array Oper) (o:Oper):Option (Option Nat×Bool) :=
 match o.guard with
 | none=>none
 | some (j,b)=>some ((ops[j]?).bind (·.dst),b)
theorem fI(ops:Array Oper)(o:Oper)(a:Act): vb (j9 ops o) a=Region.wanted o (yielded ops a.tmps):=by
 unfold vb j9 Region.wanted
 cases hg:o.guard with
 | none=>rfl
 | some p =>
  obtain⟨j,b⟩:=p
  simp only[yielded]
  cases hd:(ops[j]?).bind (·.dst) with
  | none=>simp
  | some t =>
   simp only[Option.bind_some]
   cases ht:a.tmps[t]? with
   | none=>simp
   | some v=>cases v<;>simp
def quietAt (P:Program) (o:Oper) (a:Act) (w:World) (v:Value):Prop :=
 (execOp a.eval o).run P w=.ok (.value v) w\/((execOp a.eval o).run P w=.ok .skip w/\v=undef)
def RunT (P:Program) (Q:Exit->Act->World->Prop):List Item->(World->Prop)->(World->Prop)->Act->Prop
 | [],_,S,a=>∀ w,S w->Q .normal a w
 | it::rest,E,S,a =>
  if vb it.guard a then
   match it.tag with
   | .pure=>∃ v,(∀ w,quietAt P it.o a w v)/\RunT P Q rest E S (a.put it.o.dst v)
   | .quiet=>∃ v,(∀ w,E w->quietAt P it.o a w v)/\RunT P Q rest E S (a.put it.o.dst v)
   | .dP=>∀ w,S w->it.o.wq P a w (fun a' w'=>∃ E' S':World->Prop,S' w'/\(∀ x,S' x->E' x)/\(∀ x,E' x->E x)/\RunT P Q rest E' S' a') (BE Q)
   | .sink=>∀ w,S w->it.o.wq P a w (fun a' w'=>∃ E' S':World->Prop,S' w'/\(∀ x,S' x->E' x)/\RunT P Q rest E' S' a') (BE Q)
   | .free=>∀ w,S w->it.o.wq P a w (fun a' w'=>∃ E' S':World->Prop,S' w'/\(∀ x,S' x->E' x)/\RunT P Q rest E' S' a') Q
  else RunT P Q rest E S (a.put it.o.dst undef)
def SR (ops:Array Oper):List Item:=ops.toList.map fun o=>⟨.free,j9 ops o,o⟩
abbrev P3 (rd:Option Nat) (P:Program) (c:Code) (Q:Exit->Act->World->Prop) (a:Act) (w:World):Prop:=c.wpIn (FR rd) 0 P Q a w
theorem HN{P:Program}{c:Code}{Q:Exit->Act->World->Prop}{a:Act}{w:World}(h:P3 none P c Q a w): c.wp P Q a w:=(wpIn_wide (n:=0)).1 h
def p8 (o:Oper):Bool :=
 match o.op with
 | .defer _=>false
 | _=>true
def AL (rd:Option Nat) (ops:Array Oper):Bool :=
 match rd with
 | none=>true
 | some _=>ops.all p8
theorem Cd{rd rd':Option Nat}{n n':Nat}{P:Program}{l:Nat}{f:FuncId}{tmps:Array Value}{assign body:Code}{w:World}{R:Ending->World->Prop}(h:RoundIn (FR rd) n P l f tmps assign body w R): RoundIn (FR rd') n' P l f tmps assign body w R:=by
 refine⟨trivial,fun c cs _=>?_⟩
 obtain⟨e,w',r,s⟩:=h.2 c cs (Gd rd _)
 exact⟨e,w',r,tN.2 (tN.1 s)⟩
theorem MS{rd:Option Nat}{P:Program}{o:Oper}{a:Act}{w:World}{K:Act->World->Prop}{Q:Exit->Act->World->Prop}(hd:rd=none\/p8 o=true)(h:o.wq P a w K Q): o.wpIn (FR rd) 0 P a w K Q:=by
 have hs:o.semAt (FR rd).round a.eval=execOp a.eval o:=by
  show o.semAt rd a.eval=_
  rcases hd with rfl | hd
  ·rfl
  ·exact Oper.semAt_eq rd _ _ (fun c hc=>by simp[p8,hc] at hd)
 refine⟨fun _ _=>trivial,?_⟩
 rw[hs]
 unfold Oper.wq at h
 generalize (execOp a.eval o).run P w=r at *
 cases r with
 | ok n w' =>
  cases n<;>simp only[Oper.uponIn] at h ⊢
  case enter f args=>exact⟨fun h=>(by cases h),jW.2 (jW.1 h.2)⟩
  case row row args=>exact⟨fun h=>(by cases h),fun c cs _=>let ⟨v,w',r,s⟩:=h.2 c cs (Gd _ _);⟨v,w',r,sX.2 (sX.1 s)⟩⟩
  case round l f tmps assign body=>exact⟨fun h=>(by cases h),Cd h.2⟩
  all_goals exact h
 | halt x w'=>cases x<;>simp only[Oper.uponIn] at h ⊢<;>exact h
theorem xK{rd:Option Nat}{ops:Array Oper}(h:AL rd ops=true): rd=none\/∀ o∈ops,p8 o=true:=by
 cases rd with
 | none=>exact .inl rfl
 | some l =>
  refine .inr fun o ho=>?_
  simp only[AL] at h
  exact Array.all_eq_true'.1 h o ho
theorem pD{rd:Option Nat}{P:Program}{Q:Exit->Act->World->Prop}{ops:Array Oper}: ∀(l:List Oper) (E S:World->Prop) (a:Act) (w:World),(rd=none\/∀ o∈l,p8 o=true) ->
  RunT P Q (l.map fun o=>⟨.free,j9 ops o,o⟩) E S a->S w->wpListIn (FR rd) 0 P ops Q l a w
 | [],_,_,_,w,_,h,hS=>h w hS
 | o::l,E,S,a,w,hd,h,hS=>by
  have Ev:rd=none\/p8 o=true:=hd.imp (fun h=>h) fun h=>h o (a8 ..)
  have VJ:rd=none\/∀ o∈l,p8 o=true:=hd.imp (fun h=>h) fun h o ho=>h o (ba _ ho)
  simp only[bx,RunT,fI] at h
  simp only[wpListIn]
  split
  ·rename_i hw
   rw[au hw] at h
   exact MS Ev (va (fun a' w' ⟨E',S',vG,_,hr⟩=>pD l E' S' a' w' VJ hr vG) (h w hS))
  ·rename_i hw
   rw[ai hw] at h
   exact⟨fun _ _=>trivial,pD l E S _ w VJ h hS⟩
theorem HJ{rd:Option Nat}{P:Program}{Q:Exit->Act->World->Prop}{id:Nat}{ops:Array Oper}{a:Act}{w:World}{E S:World->Prop}(hd:AL rd ops=true)(hS:S w)(h:RunT P Q (SR ops) E S a): P3 rd P (.region id ops false) Q a w :=
 wpIn_region_list (pD ops.toList E S a w ((xK hd).imp (fun h=>h) fun h o ho=>h o (by simpa using ho)) h hS)
section
variable {P:Program} {ops:Array Oper} {Q:Exit->Act->World->Prop}
def mO (ops:Array Oper) (listed:Array Bool):Prop :=
 listed.size=ops.size/\∀ j oj,ops[j]?=some oj->listed.getD j false=true->∀ e∈oj.after,Region.binds .any e=true->listed.getD e.on false=true
def PR (ops:Array Oper) (U:List Nat) (j:Nat):Prop :=
 ∀ listed,mO ops listed->j∈Region.ready .any ops listed->∀ i∈Region.ready .any ops listed,i∉U->i=j
def ly (P:Program) (ops:Array Oper) (U:List Nat) (Q:Exit->Act->World->Prop) (j:Nat) (K:Act->(World->Prop)->(World->Prop)->Prop) (a:Act) (E S:World->Prop):Prop :=
 match ops[j]? with
 | none=>K a E S
 | some o =>
  if Region.wanted o (yielded ops a.tmps) then
   ∀ w,S w->o.wq P a w (fun a' w'=>∃ E' S':World->Prop,S' w'/\(∀ x,S' x->E' x)/\((∀ x,E' x->E x)\/PR ops U j)/\K a' E' S') (BE Q)
  else K (a.put o.dst undef) E S
def qw (P:Program) (ops:Array Oper) (U:List Nat) (Q:Exit->Act->World->Prop):Nat->Array Bool->Act->(World->Prop)->(World->Prop)->Prop
 | 0,listed,a,_,S=>Region.ready .any ops listed=[]/\∀ w,S w->Q .normal a w
 | fuel+1,listed,a,E,S =>
  (Region.ready .any ops listed=[]->∀ w,S w->Q .normal a w) /\
  ∀ j∈Region.ready .any ops listed,ly P ops U Q j (qw P ops U Q fuel (listed.setIfInBounds j true)) a E S
theorem KL{o:Oper}{a:Act}{w:World}{K:Act->World->Prop}(h:o.wq P a w K (BE Q)): o.wq P a w K Q:=by
 unfold Oper.wq at *
 generalize (execOp a.eval o).run P w=r at *
 cases r with
 | ok n w' =>
  cases n<;>simp only[Oper.uponIn] at h ⊢ <;>
   first
    | exact h
    | exact⟨h.1,CallsIn.mono h.2 (fun e BJ he=>by cases e<;>first | exact he | exact he.elim)⟩
    | exact⟨h.1,RoundIn.mono h.2 (fun e BJ he=>by cases e<;>first | exact he | exact he.elim)⟩
 | halt x w'=>cases x<;>simp only[Oper.uponIn] at h ⊢<;>exact h.elim
variable {U:List Nat}
theorem mn{rd:Option Nat}(hd:rd=none\/∀ o∈ops,p8 o=true): ∀(fuel:Nat) (listed:Array Bool) (a:Act) (E S:World->Prop) (w:World),S w ->
  qw P ops U Q fuel listed a E S->wpAnyIn (FR rd) 0 P .any ops Q fuel listed a w
 | 0,_,_,_,_,w,hS,h=>⟨h.1,h.2 w hS⟩
 | fuel+1,listed,a,E,S,w,hS,h=>by
  refine⟨fun h0=>h.1 h0 w hS,fun j hj=>?_⟩
  have tC:=h.2 j hj
  unfold ly at tC
  unfold wpOpIn
  split
  ·rename_i ho
   simp only[ho] at tC
   exact mn hd fuel _ a E S w hS tC
  ·rename_i o ho
   simp only[ho] at tC
   split
   ·rename_i hw
    rw[au hw] at tC
    exact MS (hd.imp (fun h=>h) fun h=>h o (Array.mem_of_getElem? ho)) (va (fun a' w' ⟨E',S',vG,_,_,hr⟩=>mn hd fuel _ a' E' S' w' vG hr) (KL (tC w hS)))
   ·rename_i hw
    rw[ai hw] at tC
    exact⟨fun _ _=>trivial,mn hd fuel _ _ E S w hS tC⟩
def rG (P:Program) (ops:Array Oper) (E:World->Prop) (o:Oper) (v:Value) (a:Act):Prop :=
 (Region.wanted o (yielded ops a.tmps)=true/\∀ w,E w->quietAt P o a w v) \/
 (Region.wanted o (yielded ops a.tmps)=false/\v=undef)
theorem rG.of_same{E E':World->Prop}{o:Oper}{v:Value}{a a':Act}(hy:rG P ops E o v a)(hE:∀ x,E' x->E x)(he:execOp a'.eval o=execOp a.eval o)(hw:Region.wanted o (yielded ops a'.tmps)=Region.wanted o (yielded ops a.tmps)): rG P ops E' o v a':=by
 unfold rG quietAt at *
 rw[he,hw]
 exact hy.imp (fun⟨h1,h2⟩=>⟨h1,fun w hw=>h2 w (hE w hw)⟩) id
theorem wp_of_quiet{o:Oper}{a:Act}{w:World}{v:Value}{K:Act->World->Prop}{Q':Exit->Act->World->Prop}(hq:quietAt P o a w v)(h:K (a.put o.dst v) w): o.wq P a w K Q':=by
 unfold Oper.wq
 rcases hq with hq | ⟨hq,rfl⟩
 ·rw[hq];exact h
 ·rw[hq];exact h
def rF (P:Program) (ops:Array Oper) (U:List Nat) (i:Nat) (E:World->Prop) (o:Oper) (v:Value) (a:Act):Prop :=
 rG P ops E o v a/\(i∈U->rG P ops (fun _=>True) o v a)
theorem rF.step{E S:World->Prop}{i:Nat}{o:Oper}{v:Value}{a:Act}(hi:ops[i]?=some o)(DZ:∀ x,S x->E x)(hy:rF P ops U i E o v a){K:Act->(World->Prop)->(World->Prop)->Prop}(h:K (a.put o.dst v) E S): ly P ops U Q i K a E S:=by
 unfold ly
 simp only[hi]
 rcases hy.1 with⟨hw,hv⟩ | ⟨hw,rfl⟩
 ·rw[au hw]
  exact fun w hS=>wp_of_quiet (hv w (DZ w hS)) ⟨E,S,hS,DZ,.inl fun _ h=>h,h⟩
 ·rw[ai (by simp[hw])];exact h
theorem Oi{i j:Nat}{oi oj:Oper}{v:Value}{E S:World->Prop}(hj:ops[j]?=some oj)(hap:oi.apart ops oj=true)(hsi:∀ cs b,oi.op≠.select cs b)(hsj:∀ cs b,oj.op≠.select cs b)(hns:PR ops U j->i∈U){K:Act->(World->Prop)->(World->Prop)->Prop}{a:Act}(DZ:∀ x,S x->E x)(hy:rF P ops U i E oi v a)(h:ly P ops U Q j K (a.put oi.dst v) E S):
  ly P ops U Q j (fun a' E' S'=>(∀ x,S' x->E' x)/\rF P ops U i E' oi v a'/\K (a'.put oi.dst v) E' S') a E S:=by
 obtain⟨h1,h2,h3⟩:=Oper.apart_spec hap
 have RZ:∀(a:Act) (E E':World->Prop),(∀ x,E' x->E x)->rG P ops E oi v a->∀ u,rG P ops E' oi v (a.put oj.dst u):=fun a E E' hE hy u =>
  hy.of_same hE (execOp_put oi hsi a oj.dst u h3) (wanted_put oi a oj.dst u h3)
 have dP:∀(a:Act) (E':World->Prop),((∀ x,E' x->E x)\/PR ops U j)->rF P ops U i E oi v a->∀ u,rF P ops U i E' oi v (a.put oj.dst u):=by
  intro a E' hE hy u
  refine⟨?_,fun hU=>RZ a _ _ (fun _ h=>h) (hy.2 hU) u⟩
  rcases hE with hE | hE
  ·exact RZ a E E' hE hy.1 u
  ·exact RZ a _ E' (fun _ _=>trivial) (hy.2 (hns hE)) u
 have ab7:∀ d,rF P ops U i E oi v { a with defers:=d::a.defers }:=fun d=>⟨hy.1.of_same (fun _ h=>h) Z Z,fun hU=>(hy.2 hU).of_same (fun _ h=>h) Z Z⟩
 unfold ly at *
 simp only[hj] at *
 rw[wanted_put oj a oi.dst v h1] at h
 split
 ·rename_i hw
  simp only[hw,if_true] at h
  intro w hS
  have h:=h w hS
  unfold Oper.wq at *
  rw[execOp_put oj hsj a oi.dst v h1] at h
  generalize (execOp a.eval oj).run P w=r at *
  cases r with
  | ok n w' =>
   cases n<;>simp only[Oper.uponIn] at h ⊢
   case value u =>
    obtain⟨E',S',vG,gR,hE,hK⟩:=h
    exact⟨E',S',vG,gR,hE,gR,dP a E' hE hy u,by rw[<-Act.put_comm a v u h2];exact hK⟩
   case skip =>
    obtain⟨E',S',vG,gR,hE,hK⟩:=h
    exact⟨E',S',vG,gR,hE,gR,dP a E' hE hy _,by rw[<-Act.put_comm a v undef h2];exact hK⟩
   case defer d =>
    obtain⟨E',S',vG,gR,hE,hK⟩:=h
    refine⟨E',S',vG,gR,hE,gR,dP _ E' hE (ab7 d) _,?_⟩
    rw[<-Act.put_comm _ v undef h2,<-Act.put_defers]
    exact hK
   case enter f args =>
    refine⟨h.1,CallsIn.mono h.2 fun e BJ he=>?_⟩
    cases e with
    | returned u =>
     obtain⟨E',S',vG,gR,hE,hK⟩:=he
     exact⟨E',S',vG,gR,hE,gR,dP a E' hE hy u,by rw[<-Act.put_comm a v u h2];exact hK⟩
    | panicked c=>exact he.elim
    | outgrown=>exact he
   case round l f tmps assign body =>
    refine⟨h.1,RoundIn.mono h.2 fun e BJ he=>?_⟩
    cases e with
    | returned u =>
     obtain⟨E',S',vG,gR,hE,hK⟩:=he
     exact⟨E',S',vG,gR,hE,gR,dP a E' hE hy u,by rw[<-Act.put_comm a v u h2];exact hK⟩
    | panicked c=>exact he.elim
    | outgrown=>exact he
   case row row args =>
    refine⟨h.1,RowsIn.mono h.2 fun u BJ he=>?_⟩
    obtain⟨E',S',vG,gR,hE,hK⟩:=he
    exact⟨E',S',vG,gR,hE,gR,dP a E' hE hy u,by rw[<-Act.put_comm a v u h2];exact hK⟩
  | halt x w' =>
   cases x<;>simp only[Oper.uponIn] at h ⊢
   case panic u=>exact h.elim
 ·rename_i hw
  simp only[hw] at h
  exact⟨DZ,dP a E (.inl fun _ h=>h) hy _,by rw[<-Act.put_comm a v undef h2];exact h⟩
theorem KT{j:Nat}{a:Act}{E S:World->Prop}{K K':Act->(World->Prop)->(World->Prop)->Prop}(h:∀ a E S,K a E S->K' a E S)(hh:ly P ops U Q j K a E S): ly P ops U Q j K' a E S:=by
 unfold ly at *
 split
 ·rename_i ho;simp only[ho] at hh;exact h _ _ _ hh
 ·rename_i o ho
  simp only[ho] at hh
  split
  ·rename_i hw
   rw[au hw] at hh
   exact fun w hS=>va (fun a' w' ⟨E',S',h1,h2,h3,h4⟩=>⟨E',S',h1,h2,h3,h _ _ _ h4⟩) (hh w hS)
  ·rename_i hw;rw[ai hw] at hh;exact h _ _ _ hh
theorem mO.set{listed:Array Bool}{i:Nat}(hc:mO ops listed)(hi:i∈Region.ready .any ops listed): mO ops (listed.setIfInBounds i true):=by
 obtain⟨_,oi,hoi,mD⟩:=mem_ready.1 hi
 refine⟨by simp[hc.1],fun j oj hj hl e he hb=>?_⟩
 by_cases iP:i=j
 ·subst iP
  have:oj=oi:=bI (hj.symm.trans hoi)
  subst this
  exact getD_set_true (mD e he hb)
 ·rw[getD_set_ne false iP] at hl
  exact getD_set_true (hc.2 j oj hj hl e he hb)
theorem k7{i:Nat}{oi:Oper}{v:Value}(hi:ops[i]?=some oi)(ac9:∀(j:Nat) (o:Oper) cs b,ops[j]?=some o->o.op≠.select cs b):
  ∀(fuel:Nat) (listed:Array Bool) (a:Act) (E S:World->Prop),mO ops listed->(∀ x,S x->E x) ->
   (∀ j oj,ops[j]?=some oj->j≠i->listed.getD j true=false->(∀ e∈oj.after,Region.binds .any e=true->e.on≠i)->oi.apart ops oj=true) ->
   i∈Region.ready .any ops listed->rF P ops U i E oi v a ->
   qw P ops U Q fuel (listed.setIfInBounds i true) (a.put oi.dst v) E S->qw P ops U Q (fuel+1) listed a E S:=by
 intro fuel
 induction fuel with
 | zero =>
  intro listed a E S hc DZ _ hr hy H
  refine⟨fun h=>(by rw[h] at hr;cases hr),fun j hj=>?_⟩
  by_cases wY:j=i
  ·subst wY;exact hy.step hi DZ H
  ·have:=ready_mono hj wY
   rw[H.1] at this
   cases this
 | succ fuel ih =>
  intro listed a E S hc DZ W6 hr hy H
  refine⟨fun h=>(by rw[h] at hr;cases hr),fun j hj=>?_⟩
  by_cases wY:j=i
  ·subst wY;exact hy.step hi DZ H
  ·have h1:=H.2 j (ready_mono hj wY)
   obtain⟨af0,oj,hoj,mD⟩:=mem_ready.1 hj
   have al5:∀ e∈oj.after,Region.binds .any e=true->e.on≠i:=fun e he hb heq=>by
    have h1:=mD e he hb
    have h0:=(mem_ready.1 hr).1
    rw[heq] at h1
    rcases lV i listed.size with h' | h'
    ·simp[h'] at h0 h1;rw[h0] at h1;cases h1
    ·simp[Array.getElem?_eq_none h'] at h1
   have hns:PR ops U j->i∈U:=fun hs=>jJ fun hu=>wY (hs listed hc hj i hr hu).symm
   have h2:=Oi hoj (W6 j oj hoj wY af0 al5) (fun cs b=>ac9 i oi cs b hi) (fun cs b=>ac9 j oj cs b hoj) hns DZ hy h1
   have YE:∀ k ok,ops[k]?=some ok->k≠i->(listed.setIfInBounds j true).getD k true=false ->
     (∀ e∈ok.after,Region.binds .any e=true->e.on≠i)->oi.apart ops ok=true:=fun k ok hk ZK Bn uO=>by
    refine W6 k ok hk ZK ?_ uO
    by_cases zn:j=k
    ·subst zn;exact af0
    ·rw[getD_set_ne true zn] at Bn;exact Bn
   refine KT (fun a' E' S' h3=>ih (listed.setIfInBounds j true) a' E' S' (hc.set hj) h3.1 YE (ready_mono hr (Ne.symm wY)) h3.2.1 ?_) h2
   rw[Array.setIfInBounds_comm _ _ wY]
   exact h3.2.2
def waits (ops:Array Oper) (k i:Nat):Bool :=
 match ops[k]? with
 | some ok=>ok.after.any fun e=>Region.binds .any e&&e.on == i
 | none=>false
theorem BI{k i:Nat}(h:waits ops k i=true): ∃ ok,ops[k]?=some ok/\∃ e∈ok.after,Region.binds .any e=true/\e.on=i:=by
 unfold waits at h
 split at h
 ·rename_i ok hk
  obtain⟨e,he,hb⟩:=Array.any_eq_true'.1 h
  simp only[aQ,beq_iff_eq] at hb
  exact⟨ok,hk,e,he,hb.1,hb.2⟩
 ·cases h
def sN (ops:Array Oper) (j:Nat):List Nat->Bool
 | []=>true
 | i::rest=>(waits ops j i||rest.any fun k=>waits ops k i)&&sN ops j rest
def u4 (ops:Array Oper) (j:Nat):List Nat->List Nat->Bool
 | _,[]=>true
 | met,k::rest=>(waits ops k j||met.any fun m=>waits ops k m)&&u4 ops j (k::met) rest
theorem pJ{k i:Nat}{listed:Array Bool}(hc:mO ops listed)(h:waits ops k i=true)(hk:listed.getD k false=true): listed.getD i false=true:=by
 obtain⟨ok,mK,e,he,hb,rfl⟩:=BI h
 exact hc.2 k ok mK hk e he hb
theorem lI{k i:Nat}{listed:Array Bool}(h:waits ops k i=true)(hk:k∈Region.ready .any ops listed): listed.getD i false=true:=by
 obtain⟨ok,mK,e,he,hb,rfl⟩:=BI h
 obtain⟨_,o,ho,mD⟩:=mem_ready.1 hk
 have:o=ok:=bI (ho.symm.trans mK)
 subst this
 exact mD e he hb
theorem sM{j:Nat}{listed:Array Bool}(hc:mO ops listed)(hj:j∈Region.ready .any ops listed): ∀(l:List Nat),
  sN ops j l=true->∀ i∈l,listed.getD i false=true
 | [],_,_,hi=>by cases hi
 | x::l,h,i,hi=>by
  simp only[sN,aQ,jx] at h
  have ih:=sM hc hj l h.2
  cases hi with
  | tail _ hi=>exact ih i hi
  | head =>
   rcases h.1 with h1 | h1
   ·exact lI h1 hj
   ·obtain⟨k,hk,hw⟩:=List.any_eq_true.1 h1
    exact pJ hc hw (ih k hk)
theorem yl{j:Nat}{listed:Array Bool}(hc:mO ops listed)(hj:listed.getD j false=false): ∀(l met:List Nat),
  (∀ m∈met,listed.getD m false=false)->u4 ops j met l=true->∀ k∈l,k∉Region.ready .any ops listed
 | [],_,_,_,_,hk=>by cases hk
 | x::l,met,Yp,h,k,hk=>by
  simp only[u4,aQ,jx] at h
  have hx:listed.getD x false=false:=by
   cases hx:listed.getD x false with
   | false=>rfl
   | true =>
    rcases h.1 with h1 | h1
    ·rw[pJ hc h1 hx] at hj;cases hj
    ·obtain⟨m,hm,hw⟩:=List.any_eq_true.1 h1
     have:=pJ hc hw hx
     rw[Yp m hm] at this;cases this
  cases hk with
  | head =>
   intro hr
   rcases h.1 with h1 | h1
   ·rw[lI h1 hr] at hj;cases hj
   ·obtain⟨m,hm,hw⟩:=List.any_eq_true.1 h1
    have:=lI hw hr
    rw[Yp m hm] at this;cases this
  | tail _ hk =>
   exact yl hc hj l (x::met) (fun m hm=>by cases hm with | head=>exact hx | tail _ hm=>exact Yp m hm) h.2 k hk
theorem VW{listed:Array Bool}{i:Nat}(h:listed.getD i true=false): listed.getD i false=false:=by
 rcases lV i listed.size with h' | h'
 ·simp[h'] at h ⊢;exact h
 ·simp[Array.getElem?_eq_none h'] at h
theorem VV{listed:Array Bool}{i:Nat}(h:listed.getD i false=true): listed.getD i true=true:=by
 rcases lV i listed.size with h' | h'
 ·simp[h'] at h ⊢;exact h
 ·simp[Array.getElem?_eq_none h'] at h
theorem UH{j:Nat}{je ZW:List Nat}(h1:sN ops j je=true)(h2:u4 ops j [] ZW=true)(mD:∀ i,i<ops.size->i∈je\/i=j\/i∈ZW\/i∈U): PR ops U j:=by
 intro listed hc hj i hi hu
 have dj:i<ops.size:=by
  obtain⟨_,o,ho,_⟩:=mem_ready.1 hi
  exact(bH.1 ho).1
 rcases mD i dj with h | h | h | h
 ·have h3:=sM hc hj je h1 i h
  have h4:=(mem_ready.1 hi).1
  rw[VV h3] at h4;cases h4
 ·exact h
 ·exact absurd hi (yl hc (VW (mem_ready.1 hj).1) ZW [] (fun m hm=>by cases hm) h2 i h)
 ·exact absurd h hu
def LF:Tag->Bool
 | .pure=>true
 | _=>false
def ap7 (l:List (Nat×Tag)):List Nat:=(l.filter fun p=>!LF p.2).map (·.1)
def SB (l:List (Nat×Tag)):List Nat:=(l.filter fun p=>LF p.2).map (·.1)
def anc (ops:Array Oper) (j:Nat):List Nat->List Nat
 | []=>[]
 | k::rest=>if waits ops j k||(anc ops j rest).any fun m=>waits ops m k then k::anc ops j rest else anc ops j rest
def desc (ops:Array Oper) (j:Nat) (met:List Nat):List Nat->List Nat
 | []=>[]
 | k::rest=>if waits ops k j||met.any fun m=>waits ops k m then k::desc ops j (k::met) rest else desc ops j met rest
def WA (ops:Array Oper) (U:List Nat) (j:Nat) (je ZW:List Nat):Bool :=
 sN ops j (anc ops j je)&&u4 ops j [] (desc ops j [] ZW) &&
 ((List.range ops.size).all fun k=>(anc ops j je).contains k||k == j||(desc ops j [] ZW).contains k||U.contains k)
def jh (ops:Array Oper) (U:List Nat) (je:List Nat):List (Nat×Tag)->Array Bool->Bool
 | [],listed=>(Region.ready .any ops listed).isEmpty
 | (i,.pure)::rest,listed=>U.contains i&&(Region.ready .any ops listed).contains i&&Region.free .any ops listed i&&jh ops U (je++[i]) rest (listed.setIfInBounds i true)
 | (i,.quiet)::rest,listed=>!U.contains i&&(Region.ready .any ops listed).contains i&&Region.free .any ops listed i&&jh ops U (je++[i]) rest (listed.setIfInBounds i true)
 | (i,.dP)::rest,listed=>(Region.ready .any ops listed == [i])&&jh ops U (je++[i]) rest (listed.setIfInBounds i true)
 | (i,.sink)::rest,listed=>(Region.ready .any ops listed == [i])&&WA ops U i je (rest.map (·.1))&&jh ops U (je++[i]) rest (listed.setIfInBounds i true)
 | (_,.free)::_,_=>false
def Be (ops:Array Oper) (l:List (Nat×Tag)):Bool :=
 Region.noSelect ops&&(l.length == ops.size)&&(l.all fun p=>decide (p.1<ops.size))&&jh ops (SB l) [] l (Array.replicate ops.size false)
def qe (ops:Array Oper) (l:List (Nat×Tag)):List Item :=
 l.filterMap fun(i,t)=>(ops[i]?).map fun o=>⟨t,j9 ops o,o⟩
theorem kF(hs:Region.noSelect ops=true): ∀(l:List (Nat×Tag)) (je:List Nat) (listed:Array Bool) (a:Act) (E S:World->Prop),mO ops listed->(∀ x,S x->E x) ->
  (∀ p∈l,p.1<ops.size)->jh ops U je l listed=true->RunT P Q (qe ops l) E S a->qw P ops U Q l.length listed a E S
 | [],_,_,_,_,_,_,_,_,hB,h=>⟨by simpa[jh] using hB,h⟩
 | (i,t)::l,je,listed,a,E,S,hc,DZ,dj,hB,h=>by
  have hi:i<ops.size:=dj (i,t) (a8 ..)
  have h0:ops[i]?=some ops[i]:=Array.getElem?_eq_getElem hi
  have C3:∀ p∈l,p.1<ops.size:=fun p hp=>dj p (ba _ hp)
  simp only[qe,List.filterMap_cons,h0,Option.map_some] at h
  simp only[RunT,fI] at h
  cases t with
  | free=>simp[jh] at hB
  | pure =>
   simp only[jh,aQ] at hB
   obtain⟨⟨⟨hU,hr⟩,hf⟩,L9⟩:=hB
   have uo:i∈Region.ready .any ops listed:=by simpa using hr
   by_cases hw:Region.wanted ops[i] (yielded ops a.tmps)=true
   ·rw[au hw] at h
    obtain⟨v,hv,mS⟩:=h
    exact k7 h0 (Region.noSelect_spec hs) l.length listed a E S hc DZ (Region.free_spec h0 hf) uo ⟨.inl ⟨hw,fun w _=>hv w⟩,fun _=>.inl ⟨hw,fun w _=>hv w⟩⟩
     (kF hs l (je++[i]) _ _ E S (hc.set uo) DZ C3 L9 mS)
   ·rw[ai hw] at h
    have gQ:Region.wanted ops[i] (yielded ops a.tmps)=false:=by simpa using hw
    exact k7 h0 (Region.noSelect_spec hs) l.length listed a E S hc DZ (Region.free_spec h0 hf) uo ⟨.inr ⟨gQ,rfl⟩,fun _=>.inr ⟨gQ,rfl⟩⟩
     (kF hs l (je++[i]) _ _ E S (hc.set uo) DZ C3 L9 h)
  | quiet =>
   simp only[jh,aQ,iE] at hB
   obtain⟨⟨⟨hU,hr⟩,hf⟩,L9⟩:=hB
   have uo:i∈Region.ready .any ops listed:=by simpa using hr
   have hU':i∉U:=by simpa using hU
   by_cases hw:Region.wanted ops[i] (yielded ops a.tmps)=true
   ·rw[au hw] at h
    obtain⟨v,hv,mS⟩:=h
    exact k7 h0 (Region.noSelect_spec hs) l.length listed a E S hc DZ (Region.free_spec h0 hf) uo ⟨.inl ⟨hw,hv⟩,fun hu=>absurd hu hU'⟩
     (kF hs l (je++[i]) _ _ E S (hc.set uo) DZ C3 L9 mS)
   ·rw[ai hw] at h
    exact k7 h0 (Region.noSelect_spec hs) l.length listed a E S hc DZ (Region.free_spec h0 hf) uo ⟨.inr ⟨by simpa using hw,rfl⟩,fun hu=>absurd hu hU'⟩
     (kF hs l (je++[i]) _ _ E S (hc.set uo) DZ C3 L9 h)
  | dP =>
   simp only[jh,aQ,beq_iff_eq] at hB
   obtain⟨hr,L9⟩:=hB
   have uo:i∈Region.ready .any ops listed:=by rw[hr];exact a8 ..
   refine⟨fun h0=>(by rw[h0] at hr;cases hr),fun j hj=>?_⟩
   rw[hr] at hj
   have wY:j=i:=by simpa using hj
   subst wY
   unfold ly
   simp only[h0]
   split
   ·rename_i hw
    rw[au hw] at h
    exact fun w hS=>va (fun a' w' ⟨E',S',h1,h2,h3,h4⟩=>⟨E',S',h1,h2,.inl h3,kF hs l _ _ a' E' S' (hc.set uo) h2 C3 L9 h4⟩) (h w hS)
   ·rename_i hw
    rw[ai hw] at h
    exact kF hs l _ _ _ E S (hc.set uo) DZ C3 L9 h
  | sink =>
   simp only[jh,aQ,beq_iff_eq] at hB
   obtain⟨⟨hr,hb⟩,L9⟩:=hB
   simp only[WA,aQ] at hb
   obtain⟨⟨Ue,YO⟩,mD⟩:=hb
   have uo:i∈Region.ready .any ops listed:=by rw[hr];exact a8 ..
   have ac8:PR ops U i:=UH Ue YO fun k hk=>by
    have:=dc.1 mD k (List.mem_range.2 hk)
    rw[jx,jx,jx,beq_iff_eq,jP,jP,jP] at this
    rcases this with((h | h) | h) | h
    ·exact .inl h
    ·exact .inr (.inl h)
    ·exact .inr (.inr (.inl h))
    ·exact .inr (.inr (.inr h))
   refine⟨fun h0=>(by rw[h0] at hr;cases hr),fun j hj=>?_⟩
   rw[hr] at hj
   have wY:j=i:=by simpa using hj
   subst wY
   unfold ly
   simp only[h0]
   split
   ·rename_i hw
    rw[au hw] at h
    exact fun w hS=>va (fun a' w' ⟨E',S',h1,h2,h4⟩=>⟨E',S',h1,h2,.inr ac8,kF hs l _ _ a' E' S' (hc.set uo) h2 C3 L9 h4⟩) (h w hS)
   ·rename_i hw
    rw[ai hw] at h
    exact kF hs l _ _ _ E S (hc.set uo) DZ C3 L9 h
theorem zQ{rd:Option Nat}{id:Nat}{a:Act}{w:World}{E S:World->Prop}(l:List (Nat×Tag))(hm:P.follows .mixedOrders=true)(hB:Be ops l=true)(hd:AL rd ops=true)(DZ:∀ x,S x->E x)(hS:S { w with drawn:=w.drawn+1 })(h:RunT P Q (qe ops l) E S a): P3 rd P (.region id ops true) Q a w:=by
 simp only[Be,aQ,beq_iff_eq] at hB
 obtain⟨⟨⟨hs,hl⟩,dj⟩,hB⟩:=hB
 refine wpIn_region_any hm ?_
 have hc:mO ops (Array.replicate ops.size false):=⟨by simp,fun j oj _ hl=>by
  exfalso
  rcases lV j ops.size with h | h
  ·simp[h] at hl
  ·simp[h] at hl⟩
 have:=kF (P:=P) (Q:=Q) hs l [] _ a E S hc DZ (fun p hp=>by simpa using dc.1 dj p hp) hB h
 rw[<-hl]
 exact mn (xK hd) _ _ _ E S _ hS (by rw[<-hl] at this;exact this)
end
end Go.Sy
namespace Go.Sy
inductive PT where
 | loc (i off:Nat)
 | val (x:Value)
inductive AT where
 | v (x:Value)
 | b (x:Bool)
 | tt | ff
 | p (h off:Nat)
 | sl (h len:Nat)
 | fn (f:Fn) (c:List PT)
inductive S1 where
 | a (x:AT)
 | agg (cs:List AT)
inductive SV where
 | a (x:AT)
 | agg (cs:List AT)
 | ik (vs:List S1)
def PT.den (β:Nat->Addr):PT->Value
 | .loc i off=>.pointer (some ((β i).add off))
 | .val x=>x
def AT.den (β:Nat->Addr):AT->Value
 | .v x=>x
 | .b x=>.bool x
 | .tt=>.bool true
 | .ff=>.bool false
 | .p h off=>.pointer (some ((β h).add off))
 | .sl h len=>.slice (some (β h)) len len
 | .fn f c=>.func f #[] (c.map (PT.den β)).toArray
def S1.den (β:Nat->Addr):S1->Value
 | .a x=>x.den β
 | .agg cs=>.agg (cs.map (AT.den β)).toArray
def SV.den (β:Nat->Addr):SV->Value
 | .a x=>x.den β
 | .agg cs=>.agg (cs.map (AT.den β)).toArray
 | .ik vs=>.tuple (vs.map (S1.den β)).toArray
def PT.lt (n:Nat):PT->Prop
 | .loc i _=>i<n
 | .val _=>True
def AT.lt (n:Nat):AT->Prop
 | .p h _=>h<n
 | .sl h _=>h<n
 | .fn _ c=>∀ x∈c,x.lt n
 | _=>True
def S1.lt (n:Nat):S1->Prop
 | .a x=>x.lt n
 | .agg cs=>∀ x∈cs,x.lt n
def SV.lt (n:Nat):SV->Prop
 | .a x=>x.lt n
 | .agg cs=>∀ x∈cs,x.lt n
 | .ik vs=>∀ x∈vs,x.lt n
theorem PT.eT{n m:Nat}(h:n<=m): ∀ {x:PT},x.lt n->x.lt m
 | .loc _ _,hx=>fC hx h
 | .val _,_=>trivial
theorem AT.eT{n m:Nat}(h:n<=m): ∀ {x:AT},x.lt n->x.lt m
 | .v _,_ | .b _,_ | .tt,_ | .ff,_=>trivial
 | .p _ _,hx=>fC hx h
 | .sl _ _,hx=>fC hx h
 | .fn _ _,hx=>fun x hm=>PT.eT h (hx x hm)
theorem S1.eT{n m:Nat}(h:n<=m): ∀ {x:S1},x.lt n->x.lt m
 | .a _,hx=>AT.eT h hx
 | .agg _,hx=>fun x hm=>AT.eT h (hx x hm)
theorem SV.eT{n m:Nat}(h:n<=m): ∀ {x:SV},x.lt n->x.lt m
 | .a _,hx=>AT.eT h hx
 | .agg _,hx=>fun x hm=>AT.eT h (hx x hm)
 | .ik _,hx=>fun x hm=>S1.eT h (hx x hm)
section
variable {β nD:Nat->Addr} {n:Nat} (h:∀ i,i<n->nD i=β i)
include h
theorem PT.dM: ∀ {x:PT},x.lt n->x.den nD=x.den β
 | .loc i _,hx=>by simp only[PT.den,h i hx]
 | .val _,_=>rfl
theorem AT.dM: ∀ {x:AT},x.lt n->x.den nD=x.den β
 | .v _,_ | .b _,_ | .tt,_ | .ff,_=>rfl
 | .p i _,hx=>by simp only[AT.den,h i hx]
 | .sl i _,hx=>by simp only[AT.den,h i hx]
 | .fn _ c,hx=>by simp only[AT.den];rw[cY fun x hm=>PT.dM h (hx x hm)]
theorem AT.jU{l:List AT}(hl:∀ x∈l,x.lt n): l.map (AT.den nD)=l.map (AT.den β):=cY fun x hm=>AT.dM h (hl x hm)
theorem S1.dM: ∀ {x:S1},x.lt n->x.den nD=x.den β
 | .a _,hx=>AT.dM h hx
 | .agg _,hx=>by simp only[S1.den,AT.jU h hx]
theorem SV.dM: ∀ {x:SV},x.lt n->x.den nD=x.den β
 | .a _,hx=>AT.dM h hx
 | .agg _,hx=>by simp only[SV.den,AT.jU h hx]
 | .ik vs,hx=>by simp only[SV.den];rw[cY fun x hm=>S1.dM h (hx x hm)]
end
def AT.one:AT->Bool
 | .v x=>x.oneCell'
 | _=>true
theorem AT.one_den{x:AT}(β:Nat->Addr)(h:x.one=true): (x.den β).oneCell'=true:=by
 cases x<;>first | exact h | rfl
theorem Ml{i j:Nat}(h:i≠j): Nat.beq i j=false:=by
 cases hb:Nat.beq i j with
 | false=>rfl
 | true=>exact absurd (dX hb) h
abbrev Env:=List (Nat×SV)
def Env.get:Env->Nat->Option SV
 | [],_=>none
 | (j,x)::l,i=>bif Nat.beq j i then some x else Env.get l i
inductive HK where
 | loc (e:TypeId)
 | ro
abbrev HP:=List (Nat×HK×List AT)
def HP.get:HP->Nat->Option (HK×List AT)
 | [],_=>none
 | (j,k,cs)::l,i=>bif Nat.beq j i then some (k,cs) else HP.get l i
theorem Env.ee(j i:Nat)(x:SV)(l:Env): Env.get ((j,x)::l) i=if j=i then some x else Env.get l i:=by
 simp only[Env.get]
 by_cases h:j=i
 ·subst h;simp
 ·rw[ai h,Ml h];rfl
theorem HP.ee(j i:Nat)(k:HK)(cs:List AT)(l:HP): HP.get ((j,k,cs)::l) i=if j=i then some (k,cs) else HP.get l i:=by
 simp only[HP.get]
 by_cases h:j=i
 ·subst h;simp
 ·rw[ai h,Ml h];rfl
def Oe:Value->SV
 | .bool true=>.a .tt
 | .bool false=>.a .ff
 | .agg cs=>.agg (cs.toList.map AT.v)
 | x=>.a (.v x)
theorem Ic(β:Nat->Addr)(x:Value): (Oe x).den β=x:=by
 unfold Oe
 split
 ·rfl
 ·rfl
 ·rename_i cs
  simp[SV.den,AT.den,Function.comp_def]
 ·rfl
theorem UA(x:Value)(n:Nat): (Oe x).lt n:=by
 unfold Oe
 split
 ·trivial
 ·trivial
 ·intro x hx;obtain⟨y,_,rfl⟩:=bL.1 hx;trivial
 ·trivial
def bP (env:Env):Operand->Option SV
 | .tmp t=>env.get t
 | .const v=>some (Oe v)
 | .global g=>some (.a (.v (.pointer (some ⟨g,0,none⟩))))
 | .func f=>some (.a (.fn (.func f) []))
inductive TK where
 | bool | int (k:IntKind) | str | slice (e:Nat) | struct | ptr (e:Nat) | map (k e:Nat) | iface | func | array (n e:Nat) | other
structure TI where
 size:Nat
 agg:Bool
 zero:List AT
 fields:List (Nat×Nat×Option Bool)
 kind:TK
 bytes:Nat
def Mo:Value->AT
 | .bool true=>.tt
 | .bool false=>.ff
 | x=>.v x
theorem TE(β:Nat->Addr)(x:Value): (Mo x).den β=x:=by unfold Mo;split<;>rfl
theorem Wi(x:Value)(n:Nat): (Mo x).lt n:=by unfold Mo;split<;>trivial
def AY:TypeDesc->Bool
 | .struct _ | .array _ _=>true
 | _=>false
def fx:TypeDesc->TK
 | .bool=>.bool
 | .int k=>.int k
 | .string=>.str
 | .slice e=>.slice e
 | .struct _=>.struct
 | .pointer e=>.ptr e
 | .map k e=>.map k e
 | .interface _=>.iface
 | .func _ _ _=>.func
 | .array n e=>.array n e
 | _=>.other
def KP (P:Program) (t:TypeId):Option TI :=
 match P.info? t,P.underlying t with
 | some i,some d =>
  match i.zero with
  | some z=>some { size:=i.size,agg:=AY d,zero:=z.cells.toList.map Mo,fields:=(match d with | .struct fs=>fs.toList.map fun f=>(f.offset,P.cellsOf f.type,(P.underlying f.type).map AY) | _=>[]),kind:=fx d,bytes:=i.bytes }
  | none=>none
 | _,_=>none
def eX:List (Nat×TI)->Nat->Option TI
 | [],_=>none
 | (j,x)::l,i=>bif Nat.beq j i then some x else eX l i
def cu (P:Program) (T:List (Nat×TI)):Prop:=∀ t ti,eX T t=some ti->KP P t=some ti
theorem cu.nil(P:Program): cu P []:=fun _ _ h=>by cases h
theorem cu.cons{P:Program}{T:List (Nat×TI)}{t:Nat}{ti:TI}(h:KP P t=some ti)(hT:cu P T): cu P ((t,ti)::T):=by
 intro u tu hu
 simp only[eX] at hu
 by_cases e:t=u
 ·subst e;simp at hu;subst hu;exact h
 ·rw[Ml e] at hu;exact hT u tu hu
structure TI.Of (P:Program) (t:TypeId) (ti:TI) (i:TypeInfo) (d:TypeDesc) (z:Value):Prop where
 info:P.info? t=some i
 qx:P.underlying t=some d
 zero:i.zero=some z
 size:i.size=ti.size
 agg:AY d=ti.agg
 KI:z.cells.toList.map Mo=ti.zero
 fields:(match d with | .struct fs=>fs.toList.map fun f=>(f.offset,P.cellsOf f.type,(P.underlying f.type).map AY) | _=>[])=ti.fields
 kind:fx d=ti.kind
 bytes:i.bytes=ti.bytes
theorem bK{P:Program}{t:TypeId}{ti:TI}(h:KP P t=some ti): ∃ i d z,TI.Of P t ti i d z:=by
 unfold KP at h
 split at h
 ·rename_i i d hi hd
  split at h
  ·rename_i z hz
   injection h with h
   subst h
   exact⟨i,d,z,{ info:=hi,qx:=hd,zero:=hz,size:=rfl,agg:=rfl,KI:=rfl,fields:=by cases d<;>rfl,kind:=rfl,bytes:=rfl }⟩
  ·cases h
 ·cases h
inductive yp where
 | val (x:SV)
 | new (e:TypeId) (cs:List AT) (x:AT)
 | put (h:Nat) (e:TypeId) (cs:List AT)
def SV.cells:SV->Option (List AT)
 | .a x=>bif x.one then some [x] else none
 | .agg cs=>some cs
 | .ik _=>none
def lay:List AT->Nat->List AT->Option (List AT)
 | cs,0,[]=>some cs
 | [],0,_::_=>none
 | _::cs,0,n::ns=>(lay cs 0 ns).map (n::·)
 | [],_+1,_=>none
 | c::cs,off+1,ns=>(lay cs off ns).map (c::·)
def m3:List AT->Nat->Nat->Option (List AT)
 | _,0,0=>some []
 | [],0,_+1=>none
 | c::cs,0,n+1=>(m3 cs 0 n).map (c::·)
 | [],_+1,_=>none
 | _::cs,off+1,n=>m3 cs off n
def CH:List AT->Nat->Option AT
 | [],_=>none
 | c::_,0=>some c
 | _::cs,n+1=>CH cs n
def Gv:List (Nat×Nat×Option Bool)->Nat->Option (Nat×Nat×Option Bool)
 | [],_=>none
 | c::_,0=>some c
 | _::cs,n+1=>Gv cs n
def RC:List S1->Nat->Option S1
 | [],_=>none
 | c::_,0=>some c
 | _::cs,n+1=>RC cs n
def S1.sv:S1->SV
 | .a x=>.a x
 | .agg cs=>.agg cs
def G9:AT->Option Bool
 | .tt=>some true
 | .ff=>some false
 | .b x=>some x
 | _=>none
def IN (c:Bool):AT->AT->Option AT
 | .tt,.b y=>some (.b (c||y))
 | .tt,.ff=>some (.b c)
 | .ff,.tt=>some (.b (!c))
 | .b x,.ff=>some (.b (c&&x))
 | .b x,.b y=>some (.b (bif c then x else y))
 | .b x,.tt=>some (.b (!c||x))
 | .ff,.b y=>some (.b (!c&&y))
 | .tt,.tt=>some .tt
 | .ff,.ff=>some .ff
 | _,_=>none
def RX:IntKind->IntKind->Bool
 | .i8,.i8 | .i16,.i16 | .i32,.i32 | .i64,.i64 | .u8,.u8 | .u16,.u16 | .u32,.u32 | .u64,.u64=>true
 | _,_=>false
theorem OZ{j k:IntKind}(h:RX j k=true): j=k:=by cases j<;>cases k<;>first | rfl | cases h
def Y5:BinOp->Int->Int->Option Bool
 | .eql,a,b=>some (decide (a=b))
 | .neq,a,b=>some (!decide (a=b))
 | .lss,a,b=>some (decide (a<b))
 | .leq,a,b=>some (decide (a<=b))
 | .gtr,a,b=>some (decide (b<a))
 | .geq,a,b=>some (decide (b<=a))
 | _,_,_=>none
def Y4:BinOp->ByteArray->ByteArray->Option Bool
 | .eql,a,b=>some (decide (a=b))
 | .neq,a,b=>some (!decide (a=b))
 | .lss,a,b=>some (Op.bytesLess a.toList b.toList)
 | _,_,_=>none
def Y6:BinOp->Bool->Bool->Option Bool
 | .eql,a,b=>some (a == b)
 | .neq,a,b=>some (a != b)
 | _,_,_=>none
def Vp:TK->Bool
 | .bool=>true
 | _=>false
def ag6 (op:BinOp):AT->AT->Option Bool
 | .v (.int j a),.v (.int k b)=>bif RX j k then Y5 op a b else none
 | .v (.string a),.v (.string b)=>Y4 op a b
 | _,_=>none
def LD:TK->Bool
 | .str=>true
 | _=>false
def Ju:TK->Bool
 | .iface=>true
 | _=>false
def E5 (env:Env):List Operand->Option (List PT)
 | []=>some []
 | x::xs =>
  match bP env x with
  | some (.a (.p h o))=>(E5 env xs).map (PT.loc h o::·)
  | some (.a (.v y))=>(E5 env xs).map (PT.val y::·)
  | _=>none
def JY (env:Env) (fields:List (Nat×Nat×Option Bool)):List AT->List (Nat×Operand)->Option (List AT)
 | cs,[]=>some cs
 | cs,(i,x)::rest =>
  match Gv fields i,(bP env x).bind SV.cells with
  | some (off,size,_),some ns =>
   bif Nat.beq ns.length size then (lay cs off ns).bind fun AU=>JY env fields AU rest else none
  | _,_=>none
def FE (env:Env) (size:Nat):Nat->List (Nat×Operand)->Option (List AT)
 | _,[]=>some []
 | k,(i,x)::rest =>
  match (bP env x).bind SV.cells with
  | some ns=>bif Nat.beq i k&&Nat.beq ns.length size then (FE env size (k+1) rest).map (ns++·) else none
  | none=>none
def ab6:TK->AT->Option Int
 | .slice _,.sl _ n=>some n
 | .slice _,.v (.slice _ n _)=>some n
 | .str,.v (.string s)=>some s.size
 | _,_=>none
def ev (T:List (Nat×TI)) (op:Op) (env:Env) (hp:HP) (nh:Nat):Option yp :=
 match op with
 | .move x | .assign x=>(bP env x).map .val
 | .pick c a b =>
  match bP env c with
  | some (.a .tt)=>(bP env a).map .val
  | some (.a .ff)=>(bP env b).map .val
  | some (.a (.b c)) =>
   match bP env a,bP env b with
   | some (.a x),some (.a y)=>(IN c x y).map fun z=>.val (.a z)
   | _,_=>none
  | _=>none
 | .alloc t=>(eX T t).map fun ti=>.new t ti.zero (.p nh 0)
 | .box t x=>((bP env x).bind SV.cells).map fun cs=>.new t cs (.p nh 0)
 | .build t parts =>
  match eX T t with
  | some ti =>
   match ti.kind with
   | .struct=>bif ti.fields.all (fun f=>f.2.2.isSome) then (JY env ti.fields ti.zero parts.toList).map fun cs=>.val (.agg cs) else none
   | _=>none
  | none=>none
 | .buildSlice t n parts =>
  match eX T t with
  | some ti =>
   match ti.kind with
   | .slice e =>
    match eX T e with
    | some te=>bif Nat.beq parts.toList.length n&&Nat.ble (n*te.size) 16777216 then (FE env te.size 0 parts.toList).map fun cs=>.new e cs (.sl nh n) else none
    | none=>none
   | _=>none
  | none=>none
 | .load t a =>
  match bP env a,eX T t with
  | some (.a (.p h off)),some ti =>
   match hp.get h with
   | some (_,cs)=>bif ti.agg then (m3 cs off ti.size).map fun l=>.val (.agg l) else (CH cs off).map fun c=>.val (.a c)
   | none=>none
  | _,_=>none
 | .store t a x =>
  match bP env a,eX T t,(bP env x).bind SV.cells with
  | some (.a (.p h off)),some ti,some ns =>
   match hp.get h with
   | some (.loc e,cs)=>bif Nat.beq ns.length ti.size&&ns.all AT.one then (lay cs off ns).map fun l=>.put h e l else none
   | _=>none
  | _,_,_=>none
 | .nilCheck x =>
  match bP env x with
  | some (.a (.p h o))=>some (.val (.a (.p h o)))
  | some (.a (.v (.pointer (some a))))=>some (.val (.a (.v (.pointer (some a)))))
  | some (.a (.fn (.func f) c))=>some (.val (.a (.fn (.func f) c)))
  | _=>none
 | .binOp op xt x y _ =>
  match bP env x,bP env y with
  | some (.a a),some (.a b) =>
   match G9 a,G9 b with
   | some p,some q =>
    match eX T xt with
    | some ti=>bif Vp ti.kind then (Y6 op p q).map fun r=>.val (.a (.b r)) else none
    | none=>none
   | _,_=>(ag6 op a b).map fun r=>.val (.a (.b r))
  | _,_=>none
 | .unOp .not _ x =>
  match bP env x with
  | some (.a .tt)=>some (.val (.a .ff))
  | some (.a .ff)=>some (.val (.a .tt))
  | some (.a (.b c))=>some (.val (.a (.b (!c))))
  | _=>none
 | .fieldAddr t x i =>
  match bP env x,eX T t with
  | some (.a (.p h off)),some ti =>
   match ti.kind,Gv ti.fields i with
   | .struct,some (o,size,_)=>bif Nat.beq size 0 then none else some (.val (.a (.p h (off+o))))
   | _,_=>none
  | some (.a (.v (.pointer (some ad)))),some ti =>
   match ti.kind,Gv ti.fields i with
   | .struct,some (o,size,_)=>bif Nat.beq size 0 then none else some (.val (.a (.v (.pointer (some (ad.add o))))))
   | _,_=>none
  | _,_=>none
 | .field t x i =>
  match bP env x,eX T t with
  | some (.agg cs),some ti =>
   match ti.kind,Gv ti.fields i with
   | .struct,some (o,size,some ag)=>bif ag then (m3 cs o size).map fun l=>.val (.agg l) else (CH cs o).map fun c=>.val (.a c)
   | _,_=>none
  | _,_=>none
 | .extract t i =>
  match bP env t with
  | some (.ik vs)=>(RC vs i).map fun z=>.val z.sv
  | _=>none
 | .makeInterface t x =>
  match bP env x,eX T t with
  | some (.a (.v y)),some ti=>bif Ju ti.kind then none else some (.val (.a (.v (.iface t y))))
  | _,_=>none
 | .makeFunc f first captured =>
  match first.toList with
  | []=>(E5 env captured.toList).map fun l=>.val (.a (.fn f l))
  | _=>none
 | .convert s d x =>
  match bP env x,eX T s,eX T d with
  | some (.a (.v (.string y))),some ts,some ti=>bif LD ti.kind&&LD ts.kind then some (.val (.a (.v (.string y)))) else none
  | _,_,_=>none
 | .call c =>
  match c.callee,c.args.toList,c.argTypes.toList with
  | .builtin .len,[x],[t] =>
   match bP env x,eX T t with
   | some (.a y),some ti=>(ab6 ti.kind y).map fun n=>.val (.a (.v (.int .i64 n)))
   | _,_=>none
  | _,_,_=>none
 | _=>none
end Go.Sy
namespace Go.Sy
abbrev al:=Nat->Option Obj
structure Cf where
 P:Program
 w0:World
 kC:al
 M:Nat->Prop
 N:Nat
 ds:List Deferred
 rd:Option Nat
def al.cell (σ:al) (a:Addr):Option Value :=
 match σ a.block with
 | some (.cells c _ _)=>if a.spot.isSome then none else c[a.off]?
 | _=>none
structure AE where
 ao:Option Addr
 n:Nat
 cap:Nat
 e:TypeId
 sz:Nat
 xs:List Value
def AE.rS (E:AE):Option Nat:=E.ao.map (·.block)
def PV (cf:Cf) (b:Nat):Prop:=cf.w0.heap.size<=b\/cf.M b
def oF (cf:Cf) (σ:al) (w:World) (E:AE):Prop :=
 E.xs.length=E.n*E.sz /\
 ((E.ao=none/\E.n=0/\E.cap=0) \/
  ∃ g cur,E.ao=some ⟨g,0,none⟩/\w.heap[g]?=some (.cells cur E.e (0,0))/\E.n<=E.cap/\E.cap<=maxLen/\cur.size=E.cap*E.sz /\
    cur.toList.take (E.n*E.sz)=E.xs/\σ g=none/\PV cf g)
structure dy (cf:Cf) (σ:al) (hp:HP) (A:List AE) (β:Nat->Addr) (w:World):Prop where
 os:w.os=cf.w0.os
 tape:w.tape=cf.w0.tape
 output:w.output=cf.w0.output
 size:cf.w0.heap.size<=w.heap.size
 fr:∀ b,b<cf.w0.heap.size->¬ cf.M b->w.heap[b]?=cf.w0.heap[b]?
 cQ:∀ b o,σ b=some o->w.heap[b]?=some o
 le:∀ b o,cf.kC b=some o->σ b=some o
 grow:∀ b,σ b≠none->cf.kC b≠none\/PV cf b
 loc:∀ i e cs,hp.get i=some (.loc e,cs)->β i=⟨(β i).block,0,none⟩/\w.heap[(β i).block]?=some (.cells (cs.map (AT.den β)).toArray e (0,0)) /\
  σ (β i).block=none/\PV cf (β i).block
 ro:∀ i cs,hp.get i=some (.ro,cs)->∀ j c,cs[j]?=some c->σ.cell ((β i).add j)=some (c.den β)
 inj:∀ i j e e' cs AU,hp.get i=some (.loc e,cs)->hp.get j=some (.loc e',AU)->(β i).block=(β j).block->i=j
 arr:∀(i:Nat) E,A[i]?=some E->oF cf σ w E
 iR:∀(i j:Nat) E F,A[i]?=some E->A[j]?=some F->i≠j->∀ g,E.rS=some g->F.rS≠some g
 iL:∀(i:Nat) j E e cs,A[i]?=some E->hp.get j=some (.loc e,cs)->E.rS≠some (β j).block
structure nc (cf:Cf) (env:Env) (β:Nat->Addr) (a:Act):Prop where
 size:a.tmps.size=cf.N
 defers:a.defers=cf.ds
 env:∀ i x,env.get i=some x->a.tmps[i]?=some (x.den β)
structure Bd (env:Env) (hp:HP) (nh:Nat):Prop where
 env:∀ i x,env.get i=some x->x.lt nh
 hp:∀ i k cs,hp.get i=some (k,cs)->i<nh/\∀ c∈cs,c.lt nh
theorem al.mb{cf:Cf}{σ:al}{hp:HP}{A:List AE}{β:Nat->Addr}{w:World}(h:dy cf σ hp A β w){a:Addr}{v:Value}(hv:σ.cell a=some v): w.cell? a=some v:=by
 unfold al.cell at hv
 unfold World.cell?
 split at hv
 ·rename_i c e f hc
  rw[h.cQ _ _ hc]
  exact hv
 ·cases hv
theorem jM(g n:Nat): (⟨g,0,none⟩:Addr).add n=⟨g,n,none⟩:=by rw[Addr.add_lit,cG]
theorem dy.cell{cf:Cf}{σ:al}{hp:HP}{A:List AE}{β:Nat->Addr}{w:World}(h:dy cf σ hp A β w){i:Nat}{k:HK}{cs:List AT}(hi:hp.get i=some (k,cs)){j:Nat}{c:AT}(hj:cs[j]?=some c): w.cell? ((β i).add j)=some (c.den β):=by
 cases k with
 | loc e =>
  obtain⟨h1,h2,_⟩:=h.loc i e cs hi
  rw[h1,jM,cell_of_row w _ j _ e (0,0) h2]
  simp[hj]
 | ro=>exact al.mb h (h.ro i cs hi j c hj)
theorem aD{cf:Cf}{env:Env}{β:Nat->Addr}{a:Act}(ha:nc cf env β a){x:Operand}{y:SV}(h:bP env x=some y): a.eval x=y.den β:=by
 cases x with
 | tmp t =>
  have:=ha.env t y h
  simp only[Act.eval]
  rw[Array.getD_eq_getD_getElem?,this]
  rfl
 | const v=>simp only[bP,bf] at h;subst h;exact(Ic β v).symm
 | global g=>simp only[bP,bf] at h;subst h;rfl
 | func f=>simp only[bP,bf] at h;subst h;rfl
theorem ja{env:Env}{hp:HP}{nh:Nat}(hb:Bd env hp nh){x:Operand}{y:SV}(h:bP env x=some y): y.lt nh:=by
 cases x with
 | tmp t=>exact hb.env t y h
 | const v=>simp only[bP,bf] at h;subst h;exact UA v nh
 | global g=>simp only[bP,bf] at h;subst h;trivial
 | func f=>simp only[bP,bf] at h;subst h;intro x hx;cases hx
theorem CG: ∀(cs:List AT) (n:Nat),CH cs n=cs[n]?
 | [],n=>by simp[CH]
 | _::_,0=>rfl
 | _::cs,n+1=>by simp[CH,CG cs n]
theorem Bi: ∀(cs:List (Nat×Nat×Option Bool)) (n:Nat),Gv cs n=cs[n]?
 | [],n=>by simp[Gv]
 | _::_,0=>rfl
 | _::cs,n+1=>by simp[Gv,Bi cs n]
theorem M4: ∀(cs:List S1) (n:Nat),RC cs n=cs[n]?
 | [],n=>by simp[RC]
 | _::_,0=>rfl
 | _::cs,n+1=>by simp[RC,M4 cs n]
theorem nn: ∀(cs:List AT) (off n:Nat) (l:List AT),m3 cs off n=some l->l=(cs.drop off).take n/\l.length=n
 | cs,0,0,l,h=>by
  have:l=[]:=by cases cs<;>simp[m3] at h<;>exact h
  subst this;simp
 | [],0,_+1,_,h=>by simp[m3] at h
 | c::cs,0,n+1,l,h=>by
  simp only[m3] at h
  cases h1:m3 cs 0 n with
  | none=>rw[h1] at h;cases h
  | some m =>
   rw[h1] at h
   injection h with h
   subst h
   obtain⟨h2,h3⟩:=nn cs 0 n m h1
   simp only[cJ] at h2 ⊢
   exact⟨by rw[cX,<-h2],by simp[h3]⟩
 | [],_+1,n,l,h=>by simp[m3] at h
 | c::cs,off+1,n,l,h=>by
  simp only[m3] at h
  have:=nn cs off n l h
  simpa using this
theorem uK: ∀(cs:List AT) (off:Nat) (ns l:List AT),lay cs off ns=some l->off+ns.length<=cs.length/\l=cs.take off++ns++cs.drop (off+ns.length)
 | cs,0,[],l,h=>by
  have:cs=l:=by cases cs<;>(simp only[lay] at h;injection h)
  subst this;simp
 | [],0,_::_,l,h=>by simp[lay] at h
 | c::cs,0,n::ns,l,h=>by
  simp only[lay] at h
  cases h1:lay cs 0 ns with
  | none=>rw[h1] at h;cases h
  | some m =>
   rw[h1] at h
   injection h with h
   subst h
   obtain⟨h2,h3⟩:=uK cs 0 ns m h1
   refine⟨by simp at h2 ⊢;omega,?_⟩
   simp at h3
   simp[h3]
 | [],_+1,_,l,h=>by simp[lay] at h
 | c::cs,off+1,ns,l,h=>by
  simp only[lay] at h
  cases h1:lay cs off ns with
  | none=>rw[h1] at h;cases h
  | some m =>
   rw[h1] at h
   injection h with h
   subst h
   obtain⟨h2,h3⟩:=uK cs off ns m h1
   refine⟨by simp;omega,?_⟩
   rw[h3]
   have:off+1+ns.length=(off+ns.length)+1:=by omega
   simp[this]
theorem RW{n:Nat}{cs ns l:List AT}{off:Nat}(h:lay cs off ns=some l)(h1:∀ c∈cs,c.lt n)(h2:∀ c∈ns,c.lt n): ∀ c∈l,c.lt n:=by
 obtain⟨_,rfl⟩:=uK cs off ns l h
 intro c hc
 simp only[bz] at hc
 rcases hc with(hc | hc) | hc
 ·exact h1 c (dr hc)
 ·exact h2 c hc
 ·exact h1 c (fZ hc)
theorem yD{n k:Nat}{cs l:List AT}{off:Nat}(h:m3 cs off k=some l)(h1:∀ c∈cs,c.lt n): ∀ c∈l,c.lt n:=by
 obtain⟨rfl,_⟩:=nn cs off k l h
 exact fun c hc=>h1 c (fZ (dr hc))
theorem vM{β:Nat->Addr}{x:SV}{cs:List AT}(h:x.cells=some cs): (x.den β).cells=(cs.map (AT.den β)).toArray:=by
 cases x with
 | a y =>
  simp only[SV.cells] at h
  cases hy:y.one with
  | false=>rw[hy] at h;cases h
  | true =>
   rw[hy] at h
   injection h with h
   subst h
   have:=AT.one_den β hy
   simp only[SV.den,bx,gi]
   unfold Value.cells
   split
   ·rename_i c hc
    rw[hc] at this;cases this
   ·rfl
 | agg l=>simp only[SV.cells,bf] at h;subst h;rfl
 | ik vs=>cases h
theorem yd{n:Nat}{x:SV}{cs:List AT}(h:x.cells=some cs)(hx:x.lt n): ∀ c∈cs,c.lt n:=by
 cases x with
 | a y =>
  simp only[SV.cells] at h
  cases hy:y.one with
  | false=>rw[hy] at h;cases h
  | true =>
   rw[hy] at h
   injection h with h
   subst h
   intro c hc
   cases hc with
   | head=>exact hx
   | tail _ hc=>cases hc
 | agg l=>simp only[SV.cells,bf] at h;subst h;exact hx
 | ik vs=>cases h
section
variable {P:Program} {t:TypeId} {ti:TI} {i:TypeInfo} {d:TypeDesc} {z:Value}
theorem sb(h:P.info? t=some i)(w:World): (typeInfo t).run P w=.ok i w:=by
 simp[typeInfo,h]
theorem jK(h:P.underlying t=some d)(w:World): (isAgg t).run P w=.ok (AY d) w:=by
 simp only[isAgg,Sem.run_bind,run_underlying h,Result.andThen_ok]
 cases d<;>rfl
theorem gO(h:P.info? t=some i)(w:World): (sizeOf t).run P w=.ok i.size w:=by
 simp[sizeOf,sb h]
theorem pg(h:P.info? t=some i)(hz:i.zero=some z)(w:World): (zeroValue t).run P w=.ok z w:=by
 simp[zeroValue,sb h,hz]
theorem oO{n:Nat}(h:P.cellsOf t=n)(hd:P.underlying t=some d)(w:World): (sizeOf t).run P w=.ok n w:=by
 cases hi:P.info? t with
 | none=>simp[Program.underlying,hi] at hd
 | some i=>simp only[Program.cellsOf,hi,Option.map_some,Option.getD_some] at h;rw[gO hi,h]
end
def Qn (β:Nat->Addr) (nh:Nat) (w:World):Nat->Addr:=fun i=>if i=nh then ⟨w.heap.size,0,none⟩ else β i
theorem mu(β:Nat->Addr)(nh:Nat)(w:World): ∀ i,i<nh->Qn β nh w i=β i:=fun i h=>by
 unfold Qn;rw[ai Zo]
def zi:Op->Bool
 | .load _ _=>true
 | _=>false
def mX (cf:Cf) (o:Oper) (a:Act) (hp:HP) (nh:Nat) (β:Nat->Addr):yp->Prop
 | .val x=>x.lt nh/\∀ w,(zi o.op=true->∃ σ A,dy cf σ hp A β w)->(execOp a.eval o).run cf.P w=.ok (.value (x.den β)) w
 | .new e cs x=>(∀ c∈cs,c.lt nh)/\(x=.p nh 0\/∃ n,x=.sl nh n) /\
   ∀ w,(execOp a.eval o).run cf.P w=.ok (.value (x.den (Qn β nh w))) (w.alloc (.cells (cs.map (AT.den β)).toArray e))
 | .put i e cs=>(∀ c∈cs,c.lt nh)/\(∃ Uj,hp.get i=some (.loc e,Uj)) /\
   ∀ σ A w,dy cf σ hp A β w->(execOp a.eval o).run cf.P w=.ok .skip (w.setRow (β i).block (cs.map (AT.den β)).toArray)
theorem map_some{α β:Type}{f:α->β}{o:Option α}{y:β}(h:o.map f=some y): ∃ x,o=some x/\f x=y:=by
 cases o with
 | none=>cases h
 | some x=>exact⟨x,rfl,by injection h⟩
theorem bind_some{α β:Type}{f:α->Option β}{o:Option α}{y:β}(h:o.bind f=some y): ∃ x,o=some x/\f x=some y:=by
 cases o with
 | none=>cases h
 | some x=>exact⟨x,rfl,h⟩
theorem nA{α:Type}{b:Bool}{o:Option α}{y:α}(h:(bif b then o else none)=some y): b=true/\o=some y:=by
 cases b with
 | false=>cases h
 | true=>exact⟨rfl,h⟩
section
variable {cf:Cf} {T:List (Nat×TI)} {env:Env} {hp:HP} {nh:Nat} {β:Nat->Addr} {a:Act} {o:Oper}
variable (hT:cu cf.P T) (ha:nc cf env β a) (hb:Bd env hp nh)
include ha hb
theorem U6{x:Operand}(ho:o.op=.move x){mM:yp}(h:(bP env x).map yp.val=some mM): mX cf o a hp nh β mM:=by
 obtain⟨y,hy,rfl⟩:=map_some h
 exact⟨ja hb hy,fun w _=>by simp only[execOp,ho,aD ha hy];rfl⟩
theorem OH{x:Operand}(ho:o.op=.assign x){mM:yp}(h:(bP env x).map yp.val=some mM): mX cf o a hp nh β mM:=by
 obtain⟨y,hy,rfl⟩:=map_some h
 exact⟨ja hb hy,fun w _=>by simp only[execOp,ho,aD ha hy];rfl⟩
omit ha hb in
theorem Re{c:Bool}{x y z:AT}(h:IN c x y=some z)(β:Nat->Addr): z.den β=(if c then x.den β else y.den β):=by
 unfold IN at h
 split at h<;>first
  | (cases h;done)
  | (injection h with h;subst h;cases c<;>simp[AT.den])
omit ha hb in
theorem Rf{c:Bool}{x y z:AT}(h:IN c x y=some z)(n:Nat): z.lt n:=by
 unfold IN at h
 split at h<;>first
  | (cases h;done)
  | (injection h with h;subst h;trivial)
theorem U5{c x y:Operand}(ho:o.op=.pick c x y){mM:yp}(h:ev T (.pick c x y) env hp nh=some mM): mX cf o a hp nh β mM:=by
 simp only[ev] at h
 split at h
 ·rename_i hc
  obtain⟨v,hv,rfl⟩:=map_some h
  exact⟨ja hb hv,fun w _=>by simp[execOp,ho,aD ha hv,aD ha hc,SV.den,AT.den,asBool]⟩
 ·rename_i hc
  obtain⟨v,hv,rfl⟩:=map_some h
  exact⟨ja hb hv,fun w _=>by simp[execOp,ho,aD ha hv,aD ha hc,SV.den,AT.den,asBool]⟩
 ·rename_i q hc
  split at h
  ·rename_i u v hu hv
   obtain⟨z,hz,rfl⟩:=map_some h
   refine⟨Rf hz nh,fun w _=>?_⟩
   have h1:a.eval c=.bool q:=aD ha hc
   have h2:a.eval x=u.den β:=aD ha hu
   have h3:a.eval y=v.den β:=aD ha hv
   have h4:(SV.a z).den β=(if q then u.den β else v.den β):=Re hz β
   simp only[execOp,ho,h1,h2,h3,asBool,Sem.run_bind,Sem.run_pure,Result.andThen_ok,h4]
  ·cases h
 ·cases h
omit ha hb in
theorem zero_den{P:Program}{t:TypeId}{ti:TI}{i:TypeInfo}{d:TypeDesc}{z:Value}(h:TI.Of P t ti i d z)(β:Nat->Addr): (ti.zero.map (AT.den β)).toArray=z.cells:=by
 rw[<-h.KI]
 simp only[jm]
 have:(AT.den β ∘ Mo)=id:=by funext x;exact TE β x
 rw[this]
 simp
omit ha hb in
theorem MC{P:Program}{t:TypeId}{ti:TI}{i:TypeInfo}{d:TypeDesc}{z:Value}(h:TI.Of P t ti i d z)(n:Nat): ∀ c∈ti.zero,c.lt n:=by
 rw[<-h.KI]
 intro c hc
 obtain⟨x,_,rfl⟩:=bL.1 hc
 exact Wi x n
omit ha hb in
theorem nM(β:Nat->Addr)(nh:Nat)(w:World): Qn β nh w nh=⟨w.heap.size,0,none⟩:=by unfold Qn;rw[au rfl]
include hT in
omit ha hb in
theorem Rv{t:TypeId}(ho:o.op=.alloc t){mM:yp}(h:ev T (.alloc t) env hp nh=some mM): mX cf o a hp nh β mM:=by
 simp only[ev] at h
 obtain⟨ti,yv,rfl⟩:=map_some h
 obtain⟨i,d,z,hs⟩:=bK (hT _ _ yv)
 refine⟨MC hs nh,.inl rfl,fun w=>?_⟩
 simp only[execOp,ho,Instr.alloc,newVar,newRow,Sem.run_bind,pg hs.info hs.zero,Result.andThen_ok,run_newObj,Sem.run_pure,zero_den hs β,AT.den,nM,Addr.add_zero']
 rfl
theorem XO{t:TypeId}{x:Operand}(ho:o.op=.box t x){mM:yp}(h:ev T (.box t x) env hp nh=some mM): mX cf o a hp nh β mM:=by
 simp only[ev] at h
 obtain⟨cs,lY,rfl⟩:=map_some h
 obtain⟨y,hy,WO⟩:=bind_some lY
 refine⟨yd WO (ja hb hy),.inl rfl,fun w=>?_⟩
 simp only[execOp,ho,Instr.box,newVar,newRow,Sem.run_bind,aD ha hy,Result.andThen_ok,run_newObj,Sem.run_pure,vM (β:=β) WO,AT.den,nM,Addr.add_zero']
 rfl
omit ha in
theorem K4{i:Nat}{k:HK}{cs:List AT}(h:hp.get i=some (k,cs)): ∀ c∈cs,c.lt nh:=(hb.hp i k cs h).2
include hT in
theorem MV{t:TypeId}{x:Operand}(ho:o.op=.load t x){mM:yp}(h:ev T (.load t x) env hp nh=some mM): mX cf o a hp nh β mM:=by
 simp only[ev] at h
 split at h
 ·rename_i i off ti hx yv
  obtain⟨inf,d,z,hs⟩:=bK (hT _ _ yv)
  split at h
  ·rename_i k cs bU
   cases yz:ti.agg with
   | true =>
    rw[yz] at h
    obtain⟨l,hl,rfl⟩:=map_some h
    obtain⟨lJ,Hw⟩:=nn cs off ti.size l hl
    refine⟨yD hl (K4 hb bU),fun w hw=>?_⟩
    obtain⟨σ,A,hw⟩:=hw (by rw[ho];rfl)
    have pO:∀ j v,(l.map (AT.den β))[j]?=some v->w.cell? (((β i).add off).add j)=some v:=by
     intro j v hv
     rw[aO] at hv
     obtain⟨c,hc,rfl⟩:=map_some hv
     rw[Addr.add_add]
     refine hw.cell bU ?_
     rw[lJ,fE] at hc
     split at hc
     ·rw[fF] at hc;exact hc
     ·cases hc
    have hlen:(l.map (AT.den β)).length=inf.size:=by simp[Hw,hs.size]
    have ed:=run_loadCells_list (P:=cf.P) (w:=w) ((β i).add off) (l.map (AT.den β)) pO
    rw[hlen] at ed
    simp only[execOp,ho,Instr.loadAt,aD ha hx,SV.den,AT.den,Instr.sureAddr,loadVar,Sem.run_bind,Sem.run_pure,Result.andThen_ok,jK hs.qx,hs.agg,yz,if_true,gO hs.info,ed]
   | false =>
    rw[yz] at h
    obtain⟨c,hc,rfl⟩:=map_some h
    rw[CG] at hc
    refine⟨K4 hb bU c (aC hc),fun w hw=>?_⟩
    obtain⟨σ,A,hw⟩:=hw (by rw[ho];rfl)
    have mV:w.cell? ((β i).add off)=some (c.den β):=hw.cell bU hc
    simp only[execOp,ho,Instr.loadAt,aD ha hx,SV.den,AT.den,Instr.sureAddr,loadVar,Sem.run_bind,Sem.run_pure,Result.andThen_ok,jK hs.qx,hs.agg,yz,if_false,dI,run_load,mV]
  ·cases h
 ·cases h
include hT in
theorem Rq{t:TypeId}{x y:Operand}(ho:o.op=.store t x y){mM:yp}(h:ev T (.store t x y) env hp nh=some mM): mX cf o a hp nh β mM:=by
 simp only[ev] at h
 split at h
 ·rename_i i off ti ns hx yv hy
  obtain⟨v,hv,hvc⟩:=bind_some hy
  obtain⟨inf,d,z,hs⟩:=bK (hT _ _ yv)
  split at h
  ·rename_i e cs bU
   obtain⟨W9,h⟩:=nA h
   obtain⟨l,hl,rfl⟩:=map_some h
   simp only[aQ] at W9
   obtain⟨hlen,mU⟩:=W9
   have hlen:=dX hlen
   obtain⟨lJ,Hw⟩:=uK cs off ns l hl
   refine⟨RW hl (K4 hb bU) (yd hvc (ja hb hv)),⟨cs,bU⟩,fun σ A w hw=>?_⟩
   obtain⟨h1,h2,_⟩:=hw.loc i e cs bU
   have Uc:=vM (β:=β) hvc
   have pL:=run_storeCells_at cf.P (β i).block off e (ns.map (AT.den β)) 0 (cs.map (AT.den β)).toArray w h2 (by simp;omega)
    (fun u hu=>by obtain⟨c,hc,rfl⟩:=bL.1 hu;exact AT.one_den β (dc.1 mU c hc))
   simp only[eM] at pL
   have Ny:(β i).add off=⟨(β i).block,off,none⟩:=by rw[h1,jM]
   have Eo:a.eval x=.pointer (some ((β i).add off)):=aD ha hx
   have Zx:a.eval y=v.den β:=aD ha hv
   have jZ:(List.map (AT.den β) ns).toArray.size=inf.size:=by simp[hlen,hs.size]
   simp only[execOp,ho,Instr.storeAt,Eo,Zx,Instr.sureAddr,storeVar,Sem.run_bind,Sem.run_pure,Result.andThen_ok,Uc,gO hs.info,jZ,ne_eq,not_true,if_false,Ny,Sem.run_ite,pL]
   rw[Hw]
   simp
  ·cases h
 ·cases h
theorem IV{x:Operand}(ho:o.op=.nilCheck x){mM:yp}(h:ev T (.nilCheck x) env hp nh=some mM): mX cf o a hp nh β mM:=by
 simp only[ev] at h
 split at h
 ·rename_i i off hx
  injection h with h;subst h
  exact⟨ja hb hx,fun w _=>by simp[execOp,ho,aD ha hx,SV.den,AT.den]⟩
 ·rename_i p hx
  injection h with h;subst h
  exact⟨ja hb hx,fun w _=>by simp[execOp,ho,aD ha hx,SV.den,AT.den]⟩
 ·rename_i f c hx
  injection h with h;subst h
  exact⟨ja hb hx,fun w _=>by simp[execOp,ho,aD ha hx,SV.den,AT.den]⟩
 ·cases h
omit ha hb in
theorem Wc{P:Program}{op:BinOp}{t:TypeId}{x y:Operand}{k:IntKind}{m n:Int}{r:Bool}(h:Y5 op m n=some r)(w:World):
  (do eqGuard op t x y (.int k m) (.int k n);binOp op t (.int k m) (.int k n):Sem Value).run P w=.ok (.bool r) w:=by
 unfold Y5 at h
 split at h<;>first
  | (cases h;done)
  | (injection h with h;subst h
     simp only[eqGuard_at_int,Sem.run_bind,Sem.run_pure,Result.andThen_ok,binOp,Op.intCmp,ne_eq,not_true,if_false]
     try (by_cases O5:m=n<;>simp[O5]))
omit ha hb in
theorem toList_inj{a b:ByteArray}: a.toList=b.toList↔a=b:=by
 constructor
 ·intro h
  have h':a.data.toList=b.data.toList:=by rw[<-ByteArray.toList_eq,<-ByteArray.toList_eq];exact h
  cases a;cases b
  simp only[ByteArray.mk.injEq]
  exact Array.toList_inj.1 h'
 ·intro h;rw[h]
omit ha hb in
theorem Wb{P:Program}{op:BinOp}{t:TypeId}{x y:Operand}{m n:ByteArray}{r:Bool}(h:Y4 op m n=some r)(w:World):
  (do eqGuard op t x y (.string m) (.string n);binOp op t (.string m) (.string n):Sem Value).run P w=.ok (.bool r) w:=by
 have he:(m.toList == n.toList)=decide (m=n):=by
  by_cases O5:m=n
  ·simp[O5]
  ·simp[O5,mt toList_inj.1 O5]
 unfold Y4 at h
 split at h<;>first
  | (cases h;done)
  | (injection h with h;subst h
     simp only[eqGuard_at_string,Sem.run_bind,Sem.run_pure,Result.andThen_ok,binOp_string_eql,binOp_string_neq,binOp_string_lss,he])
omit ha hb in
theorem Wd{P:Program}{op:BinOp}{t:TypeId}{x y:Operand}{m n:Bool}{r:Bool}(ht:P.underlying t=some .bool)(h:Y6 op m n=some r)(w:World):
  (do eqGuard op t x y (.bool m) (.bool n);binOp op t (.bool m) (.bool n):Sem Value).run P w=.ok (.bool r) w:=by
 unfold Y6 at h
 split at h<;>first
  | (cases h;done)
  | (injection h with h;subst h
     simp only[eqGuard_at_bool,Sem.run_bind,Sem.run_pure,Result.andThen_ok,run_eql_bool w t m n ht,run_neq_bool w t m n ht]
     try rfl)
omit ha hb in
theorem DC{x:AT}{p:Bool}(h:G9 x=some p)(β:Nat->Addr): x.den β=.bool p:=by
 unfold G9 at h
 split at h<;>first | (cases h;done) | (injection h with h;subst h;rfl)
include hT in
omit hb in
theorem Ru{op:BinOp}{t u:TypeId}{x y:Operand}(ho:o.op=.binOp op t x y u){mM:yp}(h:ev T (.binOp op t x y u) env hp nh=some mM): mX cf o a hp nh β mM:=by
 simp only[ev] at h
 split at h
 ·rename_i p q hx hy
  split at h
  ·rename_i bp bq nF zk
   split at h
   ·rename_i ti yv
    obtain⟨hk,h⟩:=nA h
    obtain⟨r,hr,rfl⟩:=map_some h
    obtain⟨inf,d,z,hs⟩:=bK (hT _ _ yv)
    have hd:cf.P.underlying t=some .bool:=by
     have h1:=hs.kind
     have h2:=hs.qx
     cases d<;>first
      | exact h2
      | (simp only[fx] at h1;rw[<-h1] at hk;cases hk)
    refine⟨trivial,fun w _=>?_⟩
    simp only[execOp,ho,aD ha hx,aD ha hy,SV.den,DC nF β,DC zk β]
    rw[Sem.run_bind,Wd hd hr w]
    rfl
   ·cases h
  ·obtain⟨r,hr,rfl⟩:=map_some h
   refine⟨trivial,fun w _=>?_⟩
   simp only[execOp,ho,aD ha hx,aD ha hy,SV.den]
   unfold ag6 at hr
   split at hr
   ·obtain⟨hk,uo⟩:=nA hr
    have hk:=OZ hk
    subst hk
    simp only[AT.den]
    rw[Sem.run_bind,Wc uo w]
    rfl
   ·simp only[AT.den]
    rw[Sem.run_bind,Wb hr w]
    rfl
   ·cases hr
 ·cases h
omit hb in
theorem XM{t:TypeId}{x:Operand}(ho:o.op=.unOp .not t x){mM:yp}(h:ev T (.unOp .not t x) env hp nh=some mM): mX cf o a hp nh β mM:=by
 simp only[ev] at h
 split at h<;>first
  | (cases h;done)
  | (rename_i hx
     injection h with h;subst h
     exact⟨trivial,fun w _=>by simp[execOp,ho,aD ha hx,SV.den,AT.den,Op.unary]⟩)
omit ha hb in
theorem yF{P:Program}{t:TypeId}{ti:TI}{i:TypeInfo}{d:TypeDesc}{z:Value}(hs:TI.Of P t ti i d z)(hk:ti.kind=.struct):
  ∃ fs,P.underlying t=some (.struct fs)/\ti.fields=fs.toList.map (fun f=>(f.offset,P.cellsOf f.type,(P.underlying f.type).map AY)):=by
 have h1:=hs.kind
 rw[hk] at h1
 have h2:=hs.qx
 have h3:=hs.fields
 cases d<;>first
  | exact⟨_,h2,h3.symm⟩
  | (simp only[fx] at h1;cases h1)
include hT in
theorem Gs{t:TypeId}{x:Operand}{f:Nat}(ho:o.op=.fieldAddr t x f){mM:yp}(h:ev T (.fieldAddr t x f) env hp nh=some mM): mX cf o a hp nh β mM:=by
 have key:∀(ti:TI) (fo size:Nat) (ag:Option Bool) (ad:Addr) (w:World),eX T t=some ti->ti.kind=.struct->Gv ti.fields f=some (fo,size,ag)->Nat.beq size 0=false ->
   a.eval x=.pointer (some ad)->(execOp a.eval o).run cf.P w=.ok (.value (.pointer (some (ad.add fo)))) w:=by
  intro ti fo size ag ad w yv hk hf hz hx
  obtain⟨inf,d,z,hs⟩:=bK (hT _ _ yv)
  obtain⟨fs,hu,ZO⟩:=yF hs hk
  rw[Bi,ZO,aO] at hf
  obtain⟨YX,YG,heq⟩:=map_some hf
  simp only[cC] at heq
  obtain⟨rfl,rfl,_⟩:=heq
  have Nu:fs[f]?=some YX:=by simpa using YG
  have jZ:(sizeOf YX.type).run cf.P w=.ok (cf.P.cellsOf YX.type) w:=by
   cases hi:cf.P.info? YX.type with
   | none=>simp[Program.cellsOf,hi] at hz
   | some i=>rw[gO hi];simp[Program.cellsOf,hi]
  have jv:cf.P.cellsOf YX.type≠0:=by intro e;rw[e] at hz;simp at hz
  simp only[execOp,ho,hx,Instr.fieldAt,Instr.sureAddr,fieldPlace,Sem.run_bind,run_underlying hu,Result.andThen_ok,Nu,Sem.run_pure,jZ,ai jv]
 simp only[ev] at h
 split at h
 ·rename_i i off ti hx yv
  split at h
  ·rename_i fo size ag hk hf
   cases hz:Nat.beq size 0 with
   | true=>rw[hz] at h;cases h
   | false =>
    rw[hz] at h
    injection h with h;subst h
    refine⟨by simpa[SV.lt,AT.lt] using ja hb hx,fun w _=>?_⟩
    have:=key ti fo size ag _ w yv hk hf hz (aD ha hx)
    rw[this,Addr.add_add]
    rfl
  ·cases h
 ·rename_i ad ti hx yv
  split at h
  ·rename_i fo size ag hk hf
   cases hz:Nat.beq size 0 with
   | true=>rw[hz] at h;cases h
   | false =>
    rw[hz] at h
    injection h with h;subst h
    exact⟨trivial,fun w _=>key ti fo size ag _ w yv hk hf hz (aD ha hx)⟩
  ·cases h
 ·cases h
include hT in
theorem Rr{t:TypeId}{x:Operand}{f:Nat}(ho:o.op=.field t x f){mM:yp}(h:ev T (.field t x f) env hp nh=some mM): mX cf o a hp nh β mM:=by
 simp only[ev] at h
 split at h
 ·rename_i cs ti hx yv
  obtain⟨inf,d,z,hs⟩:=bK (hT _ _ yv)
  split at h
  ·rename_i fo size ag hk hf
   obtain⟨fs,hu,ZO⟩:=yF hs hk
   rw[Bi,ZO,aO] at hf
   obtain⟨YX,YG,heq⟩:=map_some hf
   simp only[cC] at heq
   obtain⟨rfl,rfl,an3⟩:=heq
   have Nu:fs[f]?=some YX:=by simpa using YG
   obtain⟨fd,Hy,rfl⟩:=map_some an3
   have lY:∀ c∈cs,c.lt nh:=ja hb hx
   cases yz:AY fd with
   | true =>
    rw[yz] at h
    obtain⟨l,hl,rfl⟩:=map_some h
    obtain⟨lJ,Hw⟩:=nn cs _ _ l hl
    refine⟨yD hl lY,fun w _=>?_⟩
    simp only[execOp,ho,aD ha hx,SV.den,Instr.field,asAgg,part,Sem.run_bind,run_underlying hu,Result.andThen_ok,Nu,Sem.run_pure,jK Hy,yz,if_true,oO rfl Hy]
    rw[lJ]
    simp[List.extract_eq_take_drop,dG,dR]
   | false =>
    rw[yz] at h
    obtain⟨c,hc,rfl⟩:=map_some h
    rw[CG] at hc
    refine⟨lY c (aC hc),fun w _=>?_⟩
    simp only[execOp,ho,aD ha hx,SV.den,Instr.field,asAgg,part,Sem.run_bind,run_underlying hu,Result.andThen_ok,Nu,Sem.run_pure,jK Hy,yz,if_false,dI,eE,aO,hc,Option.map_some]
  ·cases h
 ·cases h
theorem Lf{x:Operand}{f:Nat}(ho:o.op=.extract x f){mM:yp}(h:ev T (.extract x f) env hp nh=some mM): mX cf o a hp nh β mM:=by
 simp only[ev] at h
 split at h
 ·rename_i vs hx
  obtain⟨z,hz,rfl⟩:=map_some h
  rw[M4] at hz
  have dj:∀ x∈vs,x.lt nh:=ja hb hx
  have Jw:=dj z (aC hz)
  refine⟨by cases z<;>exact Jw,fun w _=>?_⟩
  have am9:z.sv.den β=z.den β:=by cases z<;>rfl
  have Eo:a.eval x=.tuple (vs.map (S1.den β)).toArray:=aD ha hx
  simp only[execOp,ho,Eo,Instr.extract,eE,aO,hz,Option.map_some,am9]
  rfl
 ·cases h
include hT in
omit hb in
theorem yW{t:TypeId}{x:Operand}(ho:o.op=.makeInterface t x){mM:yp}(h:ev T (.makeInterface t x) env hp nh=some mM): mX cf o a hp nh β mM:=by
 simp only[ev] at h
 split at h
 ·rename_i y ti hx yv
  obtain⟨inf,d,z,hs⟩:=bK (hT _ _ yv)
  cases hk:Ju ti.kind with
  | true=>rw[hk] at h;cases h
  | false =>
   rw[hk] at h
   injection h with h;subst h
   refine⟨trivial,fun w _=>?_⟩
   simp only[execOp,ho,aD ha hx,SV.den,AT.den,Instr.makeInterface,Sem.run_bind,run_underlying hs.qx,Result.andThen_ok]
   have h1:=hs.kind
   cases d<;>first
    | rfl
    | (simp only[fx] at h1;rw[<-h1] at hk;cases hk)
 ·cases h
omit ha hb in
theorem Cq(ha:nc cf env β a)(hb:Bd env hp nh): ∀(xs:List Operand) (l:List PT),E5 env xs=some l->(xs.map a.eval)=l.map (PT.den β)/\∀ p∈l,p.lt nh
 | [],l,h=>by simp only[E5,bf] at h;subst h;simp
 | x::xs,l,h=>by
  simp only[E5] at h
  split at h
  ·rename_i i off hx
   obtain⟨m,hm,rfl⟩:=map_some h
   obtain⟨h1,h2⟩:=Cq ha hb xs m hm
   refine⟨by simp[aD ha hx,SV.den,AT.den,PT.den,h1],?_⟩
   intro p nF
   cases nF with
   | head=>exact ja hb hx
   | tail _ nF=>exact h2 p nF
  ·rename_i y hx
   obtain⟨m,hm,rfl⟩:=map_some h
   obtain⟨h1,h2⟩:=Cq ha hb xs m hm
   refine⟨by simp[aD ha hx,SV.den,AT.den,PT.den,h1],?_⟩
   intro p nF
   cases nF with
   | head=>trivial
   | tail _ nF=>exact h2 p nF
  ·cases h
theorem IW{f:Fn}{first captured:Array Operand}(ho:o.op=.makeFunc f first captured){mM:yp}(h:ev T (.makeFunc f first captured) env hp nh=some mM): mX cf o a hp nh β mM:=by
 simp only[ev] at h
 split at h
 ·rename_i hf
  obtain⟨l,hl,rfl⟩:=map_some h
  obtain⟨h1,h2⟩:=Cq ha hb _ _ hl
  refine⟨h2,fun w _=>?_⟩
  have hf':first=#[]:=by cases first;simpa using hf
  have hc:captured.map a.eval=(l.map (PT.den β)).toArray:=by rw[<-h1];cases captured;simp
  simp only[execOp,ho,Instr.makeFunc,hf',hc,SV.den,AT.den,kY,gi]
  rfl
 ·cases h
include hT in
omit hb in
theorem Lg{s d:TypeId}{x:Operand}(ho:o.op=.convert s d x){mM:yp}(h:ev T (.convert s d x) env hp nh=some mM): mX cf o a hp nh β mM:=by
 simp only[ev] at h
 split at h
 ·rename_i y ts ti hx O4 yv
  obtain⟨hk,h⟩:=nA h
  injection h with h;subst h
  simp only[aQ] at hk
  obtain⟨i1,d1,z1,m1⟩:=bK (hT _ _ O4)
  obtain⟨i2,d2,z2,mR⟩:=bK (hT _ _ yv)
  have str:∀ {t:TypeId} {ti:TI} {i:TypeInfo} {d:TypeDesc} {z:Value},TI.Of cf.P t ti i d z->LD ti.kind=true->cf.P.underlying t=some .string:=by
   intro t ti i d z hs hk
   have h1:=hs.kind
   have h2:=hs.qx
   cases d<;>first
    | exact h2
    | (simp only[fx] at h1;rw[<-h1] at hk;cases hk)
  refine⟨trivial,fun w _=>?_⟩
  simp only[execOp,ho,aD ha hx,SV.den,AT.den,convert,Sem.run_bind,run_underlying (str m1 hk.2),run_underlying (str mR hk.1),Result.andThen_ok]
  rfl
 ·cases h
include hT in
omit hb in
theorem XN{c:Call}(ho:o.op=.call c){mM:yp}(h:ev T (.call c) env hp nh=some mM): mX cf o a hp nh β mM:=by
 simp only[ev] at h
 split at h
 ·rename_i x t su fi tv
  split at h
  ·rename_i y ti hx yv
   obtain⟨n,hn,rfl⟩:=map_some h
   obtain⟨inf,d,z,hs⟩:=bK (hT _ _ yv)
   refine⟨trivial,fun w _=>?_⟩
   have hc:c={ callee:=.builtin .len,args:=#[x],argTypes:=#[t] }:=by
    cases c with
    | mk cal ar ty =>
     simp only at su fi tv
     subst su
     have e1:ar=#[x]:=by cases ar;simp only at fi;rw[fi]
     have e2:ty=#[t]:=by cases ty;simp only at tv;rw[tv]
     rw[e1,e2]
   have h1:=hs.kind
   simp only[execOp,ho,hc,resolve,invoke,builtin,Sem.run_bind,Sem.run_pure,Result.andThen_ok,kY,bx,gi,aD ha hx,SV.den]
   unfold ab6 at hn
   split at hn<;>first
    | (cases hn;done)
    | (injection hn with hn;subst hn
       rename_i ZK
       rw[ZK] at h1
       cases d<;>first
        | (simp[fx] at h1;done)
        | simp[Builtin.len_,run_underlying hs.qx,AT.den,goInt])
  ·cases h
 ·cases h
omit ha hb in
theorem JW{place:Nat->Option (Nat×Nat)}{cells:Array Value}{i off size:Nat}{v:Value}{rest:List (Nat×Value)}(hp:place i=some (off,size))(hs:v.cells.size=size)(lj:off+size<=cells.size):
  Instr.fill place cells ((i,v)::rest)=Instr.fill place (cells.toList.take off++v.cells.toList++cells.toList.drop (off+size)).toArray rest:=by
 have key:∀(l:List Value) (k:Nat) (cs:Array Value),off+k+l.length<=cs.size ->
   (l.zipIdx k).foldl (fun cs (p:Value×Nat)=>cs.setIfInBounds (off+p.2) p.1) cs=(cs.toList.take (off+k)++l++cs.toList.drop (off+k+l.length)).toArray:=by
  intro l
  induction l with
  | nil=>intro k cs _;simp
  | cons x l ih =>
   intro k cs hk
   simp only[List.zipIdx_cons,List.foldl_cons]
   rw[ih (k+1) _ (by simp at hk ⊢;omega)]
   congr 1
   have dj:off+k<cs.toList.length:=by simp at hk ⊢;omega
   simp only[Array.toList_setIfInBounds]
   apply List.ext_getElem?
   intro j
   simp only[List.length_cons] at hk
   simp only[List.getElem?_append,af,aE,dh,fE,fF,eZ,cZ,List.length_cons]
   have e1:min (off+(k+1)) cs.size=off+k+1:=by omega
   have e2:min (off+k) cs.size=off+k:=by omega
   rw[e1,e2]
   rcases Nat.lt_trichotomy j (off+k) with hj | hj | hj
   ·rw[au Zo,au Zo,au Zo,ai Zo,au Zo,au Zo,au Zo]
   ·subst hj
    rw[au Zo,au Zo,au Zo,au rfl,au Zo,au Zo,ai Zo]
    simp
   ·by_cases hj2:j<off+k+1+l.length
    ·rw[au Zo,ai Zo,au Zo,ai Zo]
     obtain⟨m,rfl⟩:∃ m,j=off+k+1+m:=⟨j - (off+k+1),by omega⟩
     have e3:off+k+1+m - (off+k)=m+1:=by omega
     rw[e3,bg]
     congr 1
     omega
    ·rw[ai Zo,ai Zo]
     rw[ai Zo]
     congr 1
     omega
 simp only[Instr.fill,hp]
 rw[ai (by simp[hs,lj])]
 have:=key v.cells.toList 0 cells (by simp[hs];omega)
 simp only[eM] at this
 congr 1
 have e:v.cells.zipIdx.foldl (fun cs (x:Value×Nat)=>cs.setIfInBounds (off+x.2) x.1) cells=(v.cells.toList.zipIdx).foldl (fun cs (p:Value×Nat)=>cs.setIfInBounds (off+p.2) p.1) cells:=by
  rw[<-Array.foldl_toList,Array.toList_zipIdx]
 refine Eq.trans ?_ (this.trans ?_)
 ·exact e
 ·simp[hs]
omit ha hb in
theorem JX(ha:nc cf env β a)(hb:Bd env hp nh)(fields:List (Nat×Nat×Option Bool)):
  ∀(parts:List (Nat×Operand)) (cs l:List AT),(∀ c∈cs,c.lt nh)->JY env fields cs parts=some l ->
   Instr.fill (fun i=>(fields[i]?).map fun f=>(f.1,f.2.1)) (cs.map (AT.den β)).toArray (parts.map fun p=>(p.1,a.eval p.2))=some (l.map (AT.den β)).toArray/\∀ c∈l,c.lt nh
 | [],cs,l,lY,h=>by simp only[JY,bf] at h;subst h;exact⟨by simp[Instr.fill],lY⟩
 | (i,x)::rest,cs,l,lY,h=>by
  simp only[JY] at h
  split at h
  ·rename_i off size ag ns hf hx
   obtain⟨y,hy,WO⟩:=bind_some hx
   obtain⟨hlen,h⟩:=nA h
   have hlen:=dX hlen
   obtain⟨AU,VL,h⟩:=bind_some h
   obtain⟨lJ,Hw⟩:=uK cs off ns AU VL
   rw[Bi] at hf
   have Uc:=vM (β:=β) WO
   obtain⟨h1,h2⟩:=JX ha hb fields rest AU l (RW VL lY (yd WO (ja hb hy))) h
   refine⟨?_,h2⟩
   simp only[bx,aD ha hy]
   rw[JW (off:=off) (size:=size) (by simp[hf]) (by rw[Uc];simp[hlen]) (by simp;omega)]
   rw[<-h1]
   congr 2
   rw[Hw,Uc]
   simp[hlen]
  ·cases h
end
end Go.Sy
namespace Go.Sy
section
variable {cf:Cf} {T:List (Nat×TI)} {env:Env} {hp:HP} {nh:Nat} {β:Nat->Addr} {a:Act} {o:Oper}
variable (hT:cu cf.P T) (ha:nc cf env β a) (hb:Bd env hp nh)
theorem run_places{P:Program}(w:World): ∀(fs:List Field),(∀ f∈fs,∃ d,P.underlying f.type=some d) ->
  (fs.mapM fun f=>do pure (f.offset,<-sizeOf f.type):Sem (List (Nat×Nat))).run P w=.ok (fs.map fun f=>(f.offset,P.cellsOf f.type)) w
 | [],_=>rfl
 | f::fs,h=>by
  obtain⟨d,hd⟩:=h f (a8 ..)
  simp only[List.mapM_cons,Sem.run_bind,oO rfl hd,Result.andThen_ok,Sem.run_pure,run_places w fs (fun g hg=>h g (ba _ hg)),bx]
include hT ha hb in
theorem Rs{t:TypeId}{parts:Array (Nat×Operand)}(ho:o.op=.build t parts){mM:yp}(h:ev T (.build t parts) env hp nh=some mM): mX cf o a hp nh β mM:=by
 simp only[ev] at h
 split at h
 ·rename_i ti yv
  obtain⟨inf,d,z,hs⟩:=bK (hT _ _ yv)
  split at h
  ·rename_i hk
   obtain⟨mD,h⟩:=nA h
   obtain⟨l,hl,rfl⟩:=map_some h
   obtain⟨fs,hu,ZO⟩:=yF hs hk
   obtain⟨h1,h2⟩:=JX ha hb ti.fields parts.toList ti.zero l (MC hs nh) hl
   refine⟨h2,fun w _=>?_⟩
   have aj5:∀ f∈fs.toList,∃ d,cf.P.underlying f.type=some d:=by
    intro f hf
    have:=dc.1 mD (f.offset,cf.P.cellsOf f.type,(cf.P.underlying f.type).map AY) (by rw[ZO];exact bL.2 ⟨f,hf,rfl⟩)
    cases hd:cf.P.underlying f.type with
    | none=>simp[hd] at this
    | some d=>exact⟨d,rfl⟩
   have px:=run_places w fs.toList aj5
   have hz:=zero_den hs β
   simp only[execOp,ho,Instr.build,Sem.run_bind,pg hs.info hs.zero,Result.andThen_ok,run_underlying hu,Array.mapM_eq_mapM_toList,Sem.run_map,px]
   have C1:(parts.map fun(x:Nat×Operand)=>(x.1,a.eval x.2)).toList=parts.toList.map fun p=>(p.1,a.eval p.2):=by simp
   have Yi:(fun(i:Nat)=>((fs.toList.map fun f=>(f.offset,cf.P.cellsOf f.type)).toArray)[i]?)=fun(i:Nat)=>(ti.fields[i]?).map fun(f:Nat×Nat×Option Bool)=>(f.1,f.2.1):=by
    funext i
    rw[ZO]
    simp only[eE,aO,Option.map_map]
    rfl
   rw[hz,<-Yi] at h1
   have Bp:(Array.map (fun x=>match x with | (i,x)=>(i,a.eval x)) parts).toList=parts.toList.map fun p=>(p.1,a.eval p.2):=C1
   rw[Bp]
   simp only[h1]
   rfl
  ·cases h
 ·cases h
include ha hb in
theorem x6(size:Nat): ∀(parts:List (Nat×Operand)) (k:Nat) (l:List AT),FE env size k parts=some l ->
  l.length=parts.length*size/\(∀ c∈l,c.lt nh)/\∀ cs:Array Value,cs.size=(k+parts.length)*size ->
   Instr.fill (fun i=>some (i*size,size)) cs (parts.map fun p=>(p.1,a.eval p.2))=some (cs.toList.take (k*size)++l.map (AT.den β)).toArray
 | [],k,l,h=>by
  simp only[FE,bf] at h
  subst h
  refine⟨by simp,by simp,fun cs lY=>?_⟩
  simp only[List.length_nil,eM] at lY
  have:cs.toList.take (k*size)=cs.toList:=bY (by simp[lY])
  simp[Instr.fill,this]
 | (i,x)::rest,k,l,h=>by
  simp only[FE] at h
  split at h
  ·rename_i ns hx
   obtain⟨y,hy,WO⟩:=bind_some hx
   obtain⟨hc,h⟩:=nA h
   simp only[aQ] at hc
   have hi:=dX hc.1
   have hlen:=dX hc.2
   subst hi
   obtain⟨m,hm,rfl⟩:=map_some h
   obtain⟨h1,h2,h3⟩:=x6 size rest (i+1) m hm
   have Uc:=vM (β:=β) WO
   refine⟨by simp[hlen,h1,eC];omega,?_,fun cs lY=>?_⟩
   ·intro c hcc
    rcases bz.1 hcc with hcc | hcc
    ·exact yd WO (ja hb hy) c hcc
    ·exact h2 c hcc
   ·have e1:(i+(rest.length+1))*size=i*size+size+rest.length*size:=by simp[eC];omega
    simp only[List.length_cons] at lY
    rw[e1] at lY
    simp only[bx,aD ha hy]
    rw[JW (off:=i*size) (size:=size) rfl (by rw[Uc];simp[hlen]) Zo]
    rw[h3 _ (by simp[Uc,hlen,eC];omega)]
    congr 2
    simp only[eC,Nat.one_mul,Uc,aF]
    have e2:(cs.toList.take (i*size)++ns.map (AT.den β)).length=i*size+size:=by simp[hlen];omega
    rw[<-av,fY (by rw[e2];exact aq _),bY (by rw[e2];exact aq _)]
  ·cases h
include hT ha hb in
theorem Eb{t:TypeId}{n:Nat}{parts:Array (Nat×Operand)}(ho:o.op=.buildSlice t n parts){mM:yp}(h:ev T (.buildSlice t n parts) env hp nh=some mM): mX cf o a hp nh β mM:=by
 simp only[ev] at h
 split at h
 ·rename_i ti yv
  obtain⟨inf,d,z,hs⟩:=bK (hT _ _ yv)
  split at h
  ·rename_i e hk
   split at h
   ·rename_i te qf
    obtain⟨ie,de,ze,Ep⟩:=bK (hT _ _ qf)
    obtain⟨hc,h⟩:=nA h
    simp only[aQ] at hc
    have hlen:=dX hc.1
    have hle:=bh hc.2
    obtain⟨l,hl,rfl⟩:=map_some h
    obtain⟨h1,h2,h3⟩:=x6 ha hb te.size parts.toList 0 l hl
    have hu:cf.P.underlying t=some (.slice e):=by
     have h1:=hs.kind
     rw[hk] at h1
     have h2:=hs.qx
     cases d<;>first
      | (simp only[fx,TK.slice.injEq] at h1;subst h1;exact h2)
      | (simp only[fx] at h1;cases h1)
    refine⟨h2,.inr ⟨n,rfl⟩,fun w=>?_⟩
    have C1:(parts.map fun(x:Nat×Operand)=>(x.1,a.eval x.2)).toList=parts.toList.map fun p=>(p.1,a.eval p.2):=by simp
    have Bp:(Array.map (fun x=>match x with | (i,x)=>(i,a.eval x)) parts).toList=parts.toList.map fun p=>(p.1,a.eval p.2):=C1
    have mD:∀ zc:Array Value,Instr.fill (fun i=>some (i*te.size,te.size)) ((Array.range (n*te.size)).map fun j=>zc[j % zc.size]!) (parts.toList.map fun p=>(p.1,a.eval p.2))=some (l.map (AT.den β)).toArray:=by
     intro zc
     have hf:=h3 ((Array.range (n*te.size)).map fun j=>zc[j % zc.size]!) (by simp[hlen])
     simpa only[Nat.zero_mul,fv,cF] using hf
    simp only[execOp,ho,Instr.buildSlice,Sem.run_bind,run_underlying hu,Result.andThen_ok,gO Ep.info,Ep.size]
    rw[ai Zo]
    by_cases h0:n*te.size=0
    ·have:=mD #[]
     simp only[au h0,Sem.run_bind,Sem.run_pure,Result.andThen_ok,Bp,this]
     simp only[newRow,Sem.run_bind,run_newObj,Sem.run_pure,Result.andThen_ok,AT.den,nM]
     rfl
    ·have:=mD ze.cells
     simp only[ai h0,Sem.run_bind,pg Ep.info Ep.zero,Sem.run_pure,Result.andThen_ok,Bp,this]
     simp only[newRow,Sem.run_bind,run_newObj,Sem.run_pure,Result.andThen_ok,AT.den,nM]
     rfl
   ·cases h
  ·cases h
 ·cases h
include hT ha hb in
theorem k9{mM:yp}(h:ev T o.op env hp nh=some mM): mX cf o a hp nh β mM:=by
 generalize ho:o.op=op at h
 cases op with
 | move x=>exact U6 ha hb ho (by simpa only[ev] using h)
 | assign x=>exact OH ha hb ho (by simpa only[ev] using h)
 | pick c x y=>exact U5 ha hb ho h
 | alloc t=>exact Rv hT ho h
 | box t x=>exact XO ha hb ho h
 | build t ps=>exact Rs hT ha hb ho h
 | buildSlice t n ps=>exact Eb hT ha hb ho h
 | load t x=>exact MV hT ha hb ho h
 | store t x y=>exact Rq hT ha hb ho h
 | nilCheck x=>exact IV ha hb ho h
 | binOp op t x y u=>exact Ru hT ha ho h
 | unOp op t x =>
  cases op with
  | not=>exact XM ha ho h
  | _=>simp only[ev] at h;cases h
 | convert s d x=>exact Lg hT ha ho h
 | makeInterface t x=>exact yW hT ha ho h
 | makeFunc f x y=>exact IW ha hb ho h
 | fieldAddr t x f=>exact Gs hT ha hb ho h
 | field t x f=>exact Rr hT ha hb ho h
 | extract x f=>exact Lf ha hb ho h
 | call c=>exact XN hT ha ho h
 | _=>simp only[ev] at h;cases h
end
def xr:SV:=.ik []
def bt (g:Option (Option Nat×Bool)) (env:Env):Option Bool :=
 match g with
 | none=>some true
 | some (none,_)=>some false
 | some (some t,b) =>
  match env.get t with
  | some (.a .tt)=>some b
  | some (.a .ff)=>some (!b)
  | some (.ik _)=>some false
  | _=>none
def zt {R:Type}:List AT->(List AT->R)->R
 | [],k=>k []
 | x::xs,k=>zt xs fun ys=>k (x::ys)
theorem vH{R:Type}: ∀(l:List AT) (k:List AT->R),zt l k=k l
 | [],_=>rfl
 | x::xs,k=>by simp only[zt,vH xs]
def uU {R:Type} (e:yp) (k:yp->R):R :=
 match e with
 | .val (.agg cs)=>zt cs fun cs=>k (.val (.agg cs))
 | .val (.a x)=>k (.val (.a x))
 | .val (.ik vs)=>k (.val (.ik vs))
 | .new e cs x=>zt cs fun cs=>k (.new e cs x)
 | .put h e cs=>zt cs fun cs=>k (.put h e cs)
theorem JO{R:Type}(e:yp)(k:yp->R): uU e k=k e:=by
 cases e with
 | val x=>cases x<;>simp only[uU,vH]
 | new e cs x=>simp only[uU,vH]
 | put h e cs=>simp only[uU,vH]
inductive Out where
 | mk (l:List Item) (env:Env) (hp:HP) (nh:Nat)
 | no
def FQ (d:Option Tmp) (N:Nat) (x:SV) (env:Env) (k:Env->Out) (stop:Out):Out :=
 match d with
 | none=>k env
 | some d=>bif Nat.blt d N then k ((d,x)::env) else stop
def G6:Tag->Op->Bool
 | .pure,op=>!zi op
 | _,_=>true
def Tw:Tag->Bool
 | .quiet | .pure=>false
 | _=>true
def Tv:Tag->Bool
 | .free | .sink=>true
 | _=>false
def exec (T:List (Nat×TI)) (N:Nat):List Item->Env->HP->Nat->Out
 | [],env,hp,nh=>.mk [] env hp nh
 | it::rest,env,hp,nh =>
  match bt it.guard env with
  | none=>.mk (it::rest) env hp nh
  | some false=>FQ it.o.dst N xr env (fun kb=>exec T N rest kb hp nh) (.mk (it::rest) env hp nh)
  | some true =>
   match ev T it.o.op env hp nh with
   | none=>.mk (it::rest) env hp nh
   | some mM=>uU mM fun
    | .val x=>bif G6 it.tag it.o.op then FQ it.o.dst N x env (fun kb=>exec T N rest kb hp nh) (.mk (it::rest) env hp nh) else .mk (it::rest) env hp nh
    | .new e cs x=>bif Tw it.tag then FQ it.o.dst N (.a x) env (fun kb=>exec T N rest kb ((nh,.loc e,cs)::hp) (nh+1)) (.mk (it::rest) env hp nh) else .mk (it::rest) env hp nh
    | .put i e cs=>bif Tv it.tag then FQ it.o.dst N xr env (fun kb=>exec T N rest kb ((i,.loc e,cs)::hp) nh) (.mk (it::rest) env hp nh) else .mk (it::rest) env hp nh
structure OJ (cf:Cf) (l:List Item) (Q:Exit->Act->World->Prop) (σ:al) (env:Env) (hp:HP) (A:List AE) (nh:Nat):Prop where
 run:Bd env hp nh->∀ a β,nc cf env β a->(∃ w,dy cf σ hp A β w)->RunT cf.P Q l (fun w=>dy cf σ hp A β w) (fun w=>dy cf σ hp A β w) a
theorem da{cf:Cf}{env:Env}{β:Nat->Addr}{a:Act}(ha:nc cf env β a){g:Option (Option Nat×Bool)}{b:Bool}(h:bt g env=some b): vb g a=b:=by
 unfold bt at h
 unfold vb
 split at h
 ·injection h
 ·injection h
 ·rename_i t b'
  split at h
  ·rename_i ht
   have:=ha.env _ _ ht
   simp only[this,SV.den,AT.den]
   injection h with h
   subst h
   cases b'<;>rfl
  ·rename_i ht
   have:=ha.env _ _ ht
   simp only[this,SV.den,AT.den]
   injection h with h
   subst h
   cases b'<;>rfl
  ·rename_i ht
   have:=ha.env _ _ ht
   simp only[this,SV.den]
   injection h
  ·cases h
theorem nc.put{cf:Cf}{env:Env}{β:Nat->Addr}{a:Act}(ha:nc cf env β a){d:Nat}(hd:d<cf.N)(x:SV): nc cf ((d,x)::env) β (a.put (some d) (x.den β)):=by
 refine⟨by simp[Act.put,ha.size],ha.defers,fun i y hy=>?_⟩
 rw[Env.ee] at hy
 by_cases hi:d=i
 ·subst hi
  rw[au rfl] at hy
  injection hy with hy
  subst hy
  simp[Act.put,ha.size,hd]
 ·rw[ai hi] at hy
  simp only[Act.put,Array.getElem?_setIfInBounds_ne hi]
  exact ha.env i y hy
theorem nc.congr{cf:Cf}{env:Env}{β nD:Nat->Addr}{a:Act}{hp:HP}{nh:Nat}(ha:nc cf env β a)(hb:Bd env hp nh)(h:∀ i,i<nh->nD i=β i): nc cf env nD a :=
 ⟨ha.size,ha.defers,fun i x hx=>by rw[SV.dM h (hb.env i x hx)];exact ha.env i x hx⟩
theorem Bd.put{env:Env}{hp:HP}{nh:Nat}(hb:Bd env hp nh){x:SV}(hx:x.lt nh)(d:Nat): Bd ((d,x)::env) hp nh:=by
 refine⟨fun i y hy=>?_,hb.hp⟩
 rw[Env.ee] at hy
 by_cases hi:d=i
 ·rw[au hi] at hy;injection hy with hy;subst hy;exact hx
 ·rw[ai hi] at hy;exact hb.env i y hy
theorem Bd.mono{env:Env}{hp:HP}{n m:Nat}(hb:Bd env hp n)(h:n<=m): Bd env hp m :=
 ⟨fun i x hx=>SV.eT h (hb.env i x hx),fun i k cs hi=>⟨fC (hb.hp i k cs hi).1 h,fun c hc=>AT.eT h ((hb.hp i k cs hi).2 c hc)⟩⟩
theorem Bd.row{env:Env}{hp:HP}{nh:Nat}(hb:Bd env hp nh){i:Nat}{k:HK}{cs:List AT}(hi:i<nh)(lY:∀ c∈cs,c.lt nh): Bd env ((i,k,cs)::hp) nh:=by
 refine⟨hb.env,fun j k' AU hj=>?_⟩
 rw[HP.ee] at hj
 by_cases iP:i=j
 ·rw[au iP] at hj
  injection hj with hj
  simp only[cC] at hj
  obtain⟨_,rfl⟩:=hj
  exact⟨iP▸hi,lY⟩
 ·rw[ai iP] at hj;exact hb.hp j k' AU hj
theorem oF.dP{cf:Cf}{σ:al}{w w':World}{E:AE}(h:oF cf σ w E)(hk:∀ g,E.rS=some g->w'.heap[g]?=w.heap[g]?): oF cf σ w' E:=by
 refine⟨h.1,?_⟩
 rcases h.2 with h2 | ⟨g,cur,h3,h4,h5⟩
 ·exact .inl h2
 ·exact .inr ⟨g,cur,h3,by rw[hk g (by simp[AE.rS,h3])];exact h4,h5⟩
theorem oF.lt{cf:Cf}{σ:al}{w:World}{E:AE}(h:oF cf σ w E){g:Nat}(hg:E.rS=some g): g<w.heap.size/\σ g=none/\PV cf g:=by
 rcases h.2 with h2 | ⟨g',cur,h3,h4,_,_,_,_,h8,h9⟩
 ·simp[AE.rS,h2.1] at hg
 ·simp only[AE.rS,h3,Option.map_some,bf] at hg
  subst hg
  exact⟨(bH.1 h4).1,h8,h9⟩
theorem dy.alloc{cf:Cf}{σ:al}{hp:HP}{A:List AE}{β:Nat->Addr}{w:World}(h:dy cf σ hp A β w){env:Env}{nh:Nat}(hb:Bd env hp nh){e:TypeId}{cs:List AT}(lY:∀ c∈cs,c.lt nh): dy cf σ ((nh,.loc e,cs)::hp) A (Qn β nh w) (w.alloc (.cells (cs.map (AT.den β)).toArray e)):=by
 have hold:∀ b,b<w.heap.size->(w.alloc (.cells (cs.map (AT.den β)).toArray e)).heap[b]?=w.heap[b]?:=fun b hb=>by show(w.heap.push _)[b]?=_;rw[jq,ai (Nat.ne_of_lt hb)]
 have qY:σ w.heap.size=none:=by
  cases hs:σ w.heap.size with
  | none=>rfl
  | some ob =>
   have:=h.cQ _ _ hs
   have:=(bH.1 this).1
   omega
 have iG:∀ {i:Nat} {k:HK} {l:List AT},HP.get ((nh,HK.loc e,cs)::hp) i=some (k,l)->(i=nh/\k=.loc e/\l=cs)\/(i<nh/\hp.get i=some (k,l)):=by
  intro i k l hi
  rw[HP.ee] at hi
  by_cases O9:nh=i
  ·rw[au O9] at hi
   injection hi with hi
   simp only[cC] at hi
   exact .inl ⟨O9.symm,hi.1.symm,hi.2.symm⟩
  ·rw[ai O9] at hi
   exact .inr ⟨(hb.hp i k l hi).1,hi⟩
 have Sm:∀ {i:Nat} {e':TypeId} {l:List AT},hp.get i=some (.loc e',l)->(β i).block<w.heap.size:=fun hi=>(bH.1 (h.loc _ _ _ hi).2.1).1
 refine⟨h.os,h.tape,h.output,by have:=h.size;simp only[World.alloc,Array.size_push];omega,fun b hb hm=>?_,fun b ob hs=>?_,h.le,h.grow,fun i e' l hi=>?_,fun i l hi=>?_,fun i j e1 e2 l1 l2 hi hj iP=>?_,fun i E hE=>?_,h.iR,fun i j E e' l hE hj=>?_⟩
 ·rw[hold b (fC hb h.size)];exact h.fr b hb hm
 ·have:=h.cQ b ob hs
  rw[hold b (bH.1 this).1];exact this
 ·rcases iG hi with⟨rfl,hk,rfl⟩ | ⟨dj,hi⟩
  ·injection hk with hk
   subst hk
   refine⟨by rw[nM],?_,?_,.inl (by rw[nM];exact h.size)⟩
   ·rw[nM,AT.jU (mu β i w) lY];exact Go.heap_alloc_new w _
   ·rw[nM];exact qY
  ·rw[mu β nh w i dj,AT.jU (mu β nh w) (hb.hp i _ l hi).2]
   obtain⟨h1,h2,h3⟩:=h.loc i e' l hi
   exact⟨h1,by rw[hold _ (Sm hi)];exact h2,h3⟩
 ·rcases iG hi with⟨_,hk,_⟩ | ⟨dj,hi⟩
  ·cases hk
  ·intro j c hc
   rw[mu β nh w i dj,AT.dM (mu β nh w) ((hb.hp i _ l hi).2 c (aC hc))]
   exact h.ro i l hi j c hc
 ·rcases iG hi with⟨ei,_,_⟩ | ⟨dj,rU⟩<;>rcases iG hj with⟨ej,_,_⟩ | ⟨C3,tC⟩
  ·exact ei.trans ej.symm
  ·rw[ei,nM,mu β nh w j C3] at iP
   have:=Sm tC
   simp only at iP
   omega
  ·rw[ej,nM,mu β nh w i dj] at iP
   have:=Sm rU
   simp only at iP
   omega
  ·rw[mu β nh w i dj,mu β nh w j C3] at iP
   exact h.inj i j _ _ _ _ rU tC iP
 ·exact(h.arr i E hE).dP fun g hg=>hold g ((h.arr i E hE).lt hg).1
 ·intro hc
  rcases iG hj with⟨rfl,_,_⟩ | ⟨dj,hj⟩
  ·rw[nM] at hc
   have:=((h.arr i E hE).lt hc).1
   simp only at this
   omega
  ·rw[mu β nh w j dj] at hc
   exact h.iL i j E e' l hE hj hc
theorem dy.store{cf:Cf}{σ:al}{hp:HP}{A:List AE}{β:Nat->Addr}{w:World}(h:dy cf σ hp A β w){i:Nat}{e:TypeId}{Uj cs:List AT}(hi:hp.get i=some (.loc e,Uj)):
  dy cf σ ((i,.loc e,cs)::hp) A β (w.setRow (β i).block (cs.map (AT.den β)).toArray):=by
 obtain⟨h1,h2,h3,h4⟩:=h.loc i e Uj hi
 have tz:∀ b,b≠(β i).block->(w.setRow (β i).block (cs.map (AT.den β)).toArray).heap[b]?=w.heap[b]?:=fun b hb=>setRow_other w _ b _ hb
 refine⟨h.os,h.tape,h.output,by have:=h.size;simpa using this,fun b hb hm=>?_,fun b ob hs=>?_,h.le,h.grow,fun j e' l hj=>?_,fun j l hj=>?_,fun j k e1 e2 l1 l2 hj hk zn=>?_,fun j E hE=>?_,h.iR,fun j k E e' l hE hk=>?_⟩
 ·rw[tz b (fun hc=>by subst hc;rcases h4 with h4 | h4<;>first | omega | exact hm h4)];exact h.fr b hb hm
 ·rw[tz b (fun hc=>by subst hc;rw[h3] at hs;cases hs)];exact h.cQ b ob hs
 ·rw[HP.ee] at hj
  by_cases iP:i=j
  ·rw[au iP] at hj
   injection hj with hj
   simp only[cC,HK.loc.injEq] at hj
   obtain⟨rfl,rfl⟩:=hj
   subst iP
   exact⟨h1,setRow_heap w _ _ _ _ _ h2,h3,h4⟩
  ·rw[ai iP] at hj
   obtain⟨g1,g2,g3⟩:=h.loc j e' l hj
   exact⟨g1,by rw[tz _ (fun hc=>iP (h.inj j i _ _ _ _ hj hi hc).symm)];exact g2,g3⟩
 ·rw[HP.ee] at hj
  by_cases iP:i=j
  ·rw[au iP] at hj;injection hj with hj;simp at hj
  ·rw[ai iP] at hj;exact h.ro j l hj
 ·rw[HP.ee] at hj hk
  by_cases iP:i=j<;>by_cases KE:i=k
  ·exact iP.symm.trans KE
  ·rw[ai KE] at hk;subst iP;exact h.inj i k _ _ _ _ hi hk zn
  ·rw[ai iP] at hj;subst KE;exact h.inj j i _ _ _ _ hj hi zn
  ·rw[ai iP] at hj;rw[ai KE] at hk;exact h.inj j k _ _ _ _ hj hk zn
 ·exact(h.arr j E hE).dP fun g hg=>tz g (fun hc=>h.iL j i E e Uj hE hi (hc▸hg))
 ·rw[HP.ee] at hk
  by_cases KE:i=k
  ·subst KE;exact h.iL j i E e Uj hE hi
  ·rw[ai KE] at hk;exact h.iL j k E e' l hE hk
theorem H0(n:Nat): xr.lt n:=fun x hx=>by cases hx
theorem yg{cf:Cf}{d:Option Tmp}{x:SV}{env:Env}{k:Env->Out}{stop:Out}(R:Out->Prop)(hr:R (FQ d cf.N x env k stop)):
  R stop\/(d=none/\R (k env))\/∃ t,d=some t/\t<cf.N/\R (k ((t,x)::env)):=by
 unfold FQ at hr
 cases d with
 | none=>exact .inr (.inl ⟨rfl,hr⟩)
 | some t =>
  simp only at hr
  cases dj:Nat.blt t cf.N with
  | false=>rw[dj] at hr;exact .inl hr
  | true =>
   rw[dj] at hr
   exact .inr (.inr ⟨t,rfl,by simpa[fD] using dj,hr⟩)
def TV (cf:Cf) (Q:Exit->Act->World->Prop) (σ:al) (A:List AE):Out->Prop
 | .mk l env hp nh=>OJ cf l Q σ env hp A nh
 | .no=>False
theorem qh{cf:Cf}{T:List (Nat×TI)}(hT:cu cf.P T){Q:Exit->Act->World->Prop}{σ:al}{A:List AE}: ∀(l:List Item) (env:Env) (hp:HP) (nh:Nat),
  TV cf Q σ A (exec T cf.N l env hp nh)->OJ cf l Q σ env hp A nh
 | [],env,hp,nh,h=>h
 | it::rest,env,hp,nh,h=>by
  simp only[exec] at h
  split at h
  ·exact h
  ·rename_i hg
   rcases yg (cf:=cf) (fun o=>TV cf Q σ A o) h with h | ⟨hd,h⟩ | ⟨t,hd,ht,h⟩
   ·exact h
   ·refine⟨fun hb a β ha hex=>?_⟩
    have h':=(qh hT rest _ _ _ h).run hb a β ha hex
    simp only[RunT]
    rw[ai (by rw[da ha hg];simp),hd]
    exact h'
   ·refine⟨fun hb a β ha hex=>?_⟩
    have h':=(qh hT rest _ _ _ h).run (hb.put (H0 nh) t) (a.put (some t) undef) β (ha.put ht xr) hex
    simp only[RunT]
    rw[ai (by rw[da ha hg];simp),hd]
    exact h'
  ·rename_i hg
   split at h
   ·exact h
   ·rename_i mM YJ
    rw[JO] at h
    cases mM with
    | val x =>
     cases sr:G6 it.tag it.o.op with
     | false=>rw[sr] at h;exact h
     | true =>
     rw[sr] at h
     simp only[cond_true] at h
     have fin:∀ kb,(∀ a β,nc cf env β a->Bd env hp nh->x.lt nh->Bd kb hp nh/\nc cf kb β (a.put it.o.dst (x.den β)))->OJ cf rest Q σ kb hp A nh->OJ cf (it::rest) Q σ env hp A nh:=by
      intro kb LO h
      refine⟨fun hb a β ha hex=>?_⟩
      obtain⟨hx,ed⟩:=k9 (o:=it.o) hT ha hb YJ
      obtain⟨uR,GR⟩:=LO a β ha hb hx
      have h':=h.run uR _ β GR hex
      simp only[RunT]
      rw[au (da ha hg)]
      cases ec:it.tag with
      | pure =>
       rw[ec] at sr
       have wk:zi it.o.op=false:=by simpa[G6] using sr
       exact⟨_,fun w=>.inl (ed w (fun h=>by rw[wk] at h;cases h)),h'⟩
      | quiet=>exact⟨_,fun w hw=>.inl (ed w fun _=>⟨σ,A,hw⟩),h'⟩
      | dP=>exact fun w hw=>wp_of_quiet (.inl (ed w fun _=>⟨σ,A,hw⟩)) ⟨_,_,hw,fun _ h=>h,fun _ h=>h,h'⟩
      | sink=>exact fun w hw=>wp_of_quiet (.inl (ed w fun _=>⟨σ,A,hw⟩)) ⟨_,_,hw,fun _ h=>h,h'⟩
      | free=>exact fun w hw=>wp_of_quiet (.inl (ed w fun _=>⟨σ,A,hw⟩)) ⟨_,_,hw,fun _ h=>h,h'⟩
     rcases yg (cf:=cf) (fun o=>TV cf Q σ A o) h with h | ⟨hd,h⟩ | ⟨t,hd,ht,h⟩
     ·exact h
     ·exact fin env (fun a β ha hb _=>⟨hb,by rw[hd];exact ha⟩) (qh hT rest _ _ _ h)
     ·exact fin _ (fun a β ha hb hx=>⟨hb.put hx t,by rw[hd];exact ha.put ht x⟩) (qh hT rest _ _ _ h)
    | new e cs x =>
     cases sr:Tw it.tag with
     | false=>rw[sr] at h;exact h
     | true =>
      rw[sr] at h
      simp only[cond_true] at h
      have fin:∀ kb,(∀ a β,nc cf env β a->Bd env hp nh->(SV.a x).lt (nh+1)->Bd kb hp (nh+1)/\nc cf kb β (a.put it.o.dst ((SV.a x).den β))) ->
        OJ cf rest Q σ kb ((nh,.loc e,cs)::hp) A (nh+1)->OJ cf (it::rest) Q σ env hp A nh:=by
       intro kb LO h
       refine⟨fun hb a β ha _=>?_⟩
       obtain⟨lY,hx,ed⟩:=k9 (o:=it.o) hT ha hb YJ
       have pa:(SV.a x).lt (nh+1):=by
        rcases hx with rfl | ⟨n,rfl⟩<;>exact db nh
       have goal:∀ w,dy cf σ hp A β w->∀(K:Act->World->Prop) (Q':Exit->Act->World->Prop),
         (∀ w' nD,(∀ i,i<nh->nD i=β i)->dy cf σ ((nh,.loc e,cs)::hp) A nD w'->K (a.put it.o.dst ((SV.a x).den nD)) w')->it.o.wq cf.P a w K Q':=by
        intro w hw K Q' hK
        unfold Oper.wq
        rw[ed w]
        exact hK _ _ (mu β nh w) (hw.alloc hb lY)
       have cont:∀ nD,(∀ i,i<nh->nD i=β i)->(∃ w,dy cf σ ((nh,.loc e,cs)::hp) A nD w)->RunT cf.P Q rest (fun w=>dy cf σ ((nh,.loc e,cs)::hp) A nD w) (fun w=>dy cf σ ((nh,.loc e,cs)::hp) A nD w) (a.put it.o.dst ((SV.a x).den nD)):=by
        intro nD jF hex
        obtain⟨uR,GR⟩:=LO a nD (ha.congr hb jF) hb pa
        exact h.run (uR.row (db nh) fun c hc=>AT.eT (kT nh) (lY c hc)) _ nD GR hex
       have Nb:∀ nD,(∀ i,i<nh->nD i=β i)->∀ w',dy cf σ ((nh,.loc e,cs)::hp) A nD w'->dy cf σ hp A β w':=by
        intro nD jF w' gQ
        have sQ:∀ {i k l},hp.get i=some (k,l)->HP.get ((nh,HK.loc e,cs)::hp) i=some (k,l):=by
         intro i k l hi
         rw[HP.ee,ai (fun hc=>by have:=(hb.hp i k l hi).1;omega)];exact hi
        have dj:∀ {i k l},hp.get i=some (k,l)->i<nh:=fun hi=>(hb.hp _ _ _ hi).1
        refine⟨gQ.os,gQ.tape,gQ.output,gQ.size,gQ.fr,gQ.cQ,gQ.le,gQ.grow,fun i e' l hi=>?_,fun i l hi j c hc=>?_,fun i j e1 e2 l1 l2 hi hj iP=>?_,gQ.arr,gQ.iR,fun i j E e' l hE hj=>?_⟩
        ·have:=gQ.loc i e' l (sQ hi)
         rw[jF i (dj hi),AT.jU jF (hb.hp i _ l hi).2] at this
         exact this
        ·have:=gQ.ro i l (sQ hi) j c hc
         rw[jF i (dj hi),AT.dM jF ((hb.hp i _ l hi).2 c (aC hc))] at this
         exact this
        ·refine gQ.inj i j _ _ _ _ (sQ hi) (sQ hj) ?_
         rw[jF i (dj hi),jF j (dj hj)];exact iP
        ·have:=gQ.iL i j E e' l hE (sQ hj)
         rw[jF j (dj hj)] at this
         exact this
       simp only[RunT]
       rw[au (da ha hg)]
       cases ec:it.tag with
       | pure=>rw[ec] at sr;cases sr
       | quiet=>rw[ec] at sr;cases sr
       | dP=>exact fun w hw=>goal w hw _ _ fun w' nD jF gQ=>⟨_,_,gQ,fun _ h=>h,fun x hx=>Nb nD jF x hx,cont nD jF ⟨_,gQ⟩⟩
       | sink=>exact fun w hw=>goal w hw _ _ fun w' nD jF gQ=>⟨_,_,gQ,fun _ h=>h,cont nD jF ⟨_,gQ⟩⟩
       | free=>exact fun w hw=>goal w hw _ _ fun w' nD jF gQ=>⟨_,_,gQ,fun _ h=>h,cont nD jF ⟨_,gQ⟩⟩
      rcases yg (cf:=cf) (fun o=>TV cf Q σ A o) h with h | ⟨hd,h⟩ | ⟨t,hd,ht,h⟩
      ·exact h
      ·exact fin env (fun a β ha hb _=>⟨hb.mono (kT nh),by rw[hd];exact ha⟩) (qh hT rest _ _ _ h)
      ·exact fin _ (fun a β ha hb hx=>⟨(hb.mono (kT nh)).put hx t,by rw[hd];exact ha.put ht _⟩) (qh hT rest _ _ _ h)
    | put i e cs =>
     cases sr:Tv it.tag with
     | false=>rw[sr] at h;exact h
     | true =>
      rw[sr] at h
      simp only[cond_true] at h
      have fin:∀ kb,(∀ a β,nc cf env β a->Bd env hp nh->Bd kb hp nh/\nc cf kb β (a.put it.o.dst undef)) ->
        OJ cf rest Q σ kb ((i,.loc e,cs)::hp) A nh->OJ cf (it::rest) Q σ env hp A nh:=by
       intro kb LO h
       refine⟨fun hb a β ha _=>?_⟩
       obtain⟨lY,⟨Uj,hi⟩,ed⟩:=k9 (o:=it.o) hT ha hb YJ
       obtain⟨uR,GR⟩:=LO a β ha hb
       have h':=fun hex=>h.run (uR.row (hb.hp i _ _ hi).1 lY) _ β GR hex
       have goal:∀ w,dy cf σ hp A β w->∀(K:Act->World->Prop) (Q':Exit->Act->World->Prop),
         (∀ w',dy cf σ ((i,.loc e,cs)::hp) A β w'->K (a.put it.o.dst undef) w')->it.o.wq cf.P a w K Q':=by
        intro w hw K Q' hK
        unfold Oper.wq
        rw[ed σ A w hw]
        exact hK _ (hw.store hi)
       simp only[RunT]
       rw[au (da ha hg)]
       cases ec:it.tag with
       | pure=>rw[ec] at sr;cases sr
       | quiet=>rw[ec] at sr;cases sr
       | dP=>rw[ec] at sr;cases sr
       | sink=>exact fun w hw=>goal w hw _ _ fun w' gQ=>⟨_,_,gQ,fun _ h=>h,h' ⟨_,gQ⟩⟩
       | free=>exact fun w hw=>goal w hw _ _ fun w' gQ=>⟨_,_,gQ,fun _ h=>h,h' ⟨_,gQ⟩⟩
      rcases yg (cf:=cf) (fun o=>TV cf Q σ A o) h with h | ⟨hd,h⟩ | ⟨t,hd,ht,h⟩
      ·exact h
      ·exact fin env (fun a β ha hb=>⟨hb,by rw[hd];exact ha⟩) (qh hT rest _ _ _ h)
      ·exact fin _ (fun a β ha hb=>⟨hb.put (H0 nh) t,by rw[hd];exact ha.put ht xr⟩) (qh hT rest _ _ _ h)
end Go.Sy
namespace Go.Sy
structure CJ (cf:Cf) (c:Code) (Q:Exit->Act->World->Prop) (σ:al) (env:Env) (hp:HP) (A:List AE) (nh:Nat):Prop where
 run:Bd env hp nh->∀ a β w,nc cf env β a->dy cf σ hp A β w->P3 cf.rd cf.P c Q a w
structure NJ (cf:Cf) (e:Exit) (Q:Exit->Act->World->Prop) (σ:al) (env:Env) (hp:HP) (A:List AE) (nh:Nat):Prop where
 run:Bd env hp nh->∀ a β w,nc cf env β a->dy cf σ hp A β w->Q e a w
section
variable {cf:Cf} {Q:Exit->Act->World->Prop} {σ:al} {env:Env} {hp:HP} {A:List AE} {nh:Nat}
theorem gz{x y:Code}(h:CJ cf x (Exit.then (P3 cf.rd cf.P y Q) Q) σ env hp A nh): CJ cf (.seq x y) Q σ env hp A nh :=
 ⟨fun hb a β w ha hw=>wpIn_seq (h.run hb a β w ha hw)⟩
theorem rD(h:NJ cf .normal Q σ env hp A nh): CJ cf .skip Q σ env hp A nh:=⟨fun hb a β w ha hw=>wpIn_skip (h.run hb a β w ha hw)⟩
theorem Ke{l:Nat}(h:NJ cf .normal Q σ env hp A nh): CJ cf (.label l) Q σ env hp A nh:=⟨fun hb a β w ha hw=>wpIn_label (h.run hb a β w ha hw)⟩
theorem BA{id:Nat}(h:NJ cf (.exit id) Q σ env hp A nh): CJ cf (.exit id) Q σ env hp A nh:=⟨fun hb a β w ha hw=>wpIn_exit (h.run hb a β w ha hw)⟩
theorem xd(h:NJ cf .ret Q σ env hp A nh): CJ cf .ret Q σ env hp A nh:=⟨fun hb a β w ha hw=>wpIn_ret (h.run hb a β w ha hw)⟩
theorem qS{id:Nat}{c:Code}(h:CJ cf c (Exit.inBlock id Q) σ env hp A nh): CJ cf (.block id c) Q σ env hp A nh :=
 ⟨fun hb a β w ha hw=>wpIn_block (h.run hb a β w ha hw)⟩
theorem iD{id:Nat}{ops:Array Oper}(h:OJ cf (SR ops) Q σ env hp A nh)(hd:AL cf.rd ops=true:=by rfl): CJ cf (.region id ops false) Q σ env hp A nh :=
 ⟨fun hb a β _ ha hw=>HJ hd hw (h.run hb a β ha ⟨_,hw⟩)⟩
theorem dy.drew{β:Nat->Addr}{w:World}(h:dy cf σ hp A β w): dy cf σ hp A β { w with drawn:=w.drawn+1 } :=
 ⟨h.os,h.tape,h.output,h.size,h.fr,h.cQ,h.le,h.grow,h.loc,h.ro,h.inj,h.arr,h.iR,h.iL⟩
theorem ck{id:Nat}{ops:Array Oper}(l:List (Nat×Tag))(hm:cf.P.follows .mixedOrders=true)(hB:Be ops l=true)(h:OJ cf (qe ops l) Q σ env hp A nh)(hd:AL cf.rd ops=true:=by rfl): CJ cf (.region id ops true) Q σ env hp A nh :=
 ⟨fun hb a β _ ha hw=>zQ l hm hB hd (fun _ h=>h) hw.drew (h.run hb a β ha ⟨_,hw⟩)⟩
theorem aG{c:Operand}{x y:Code}{b:Bool}(hc:bP env c=some (.a (.b b)))(ht:b=true->CJ cf x Q σ env hp A nh)(hf:b=false->CJ cf y Q σ env hp A nh):
  CJ cf (.cond c x y) Q σ env hp A nh:=by
 refine⟨fun hb a β w ha hw=>?_⟩
 have he:a.eval c=.bool b:=aD ha hc
 exact wpIn_cond_split he (fun h=>(ht h).run hb a β w ha hw) (fun h=>(hf h).run hb a β w ha hw)
theorem By{c:Operand}{x y:Code}(hc:bP env c=some (.a .tt))(ht:CJ cf x Q σ env hp A nh): CJ cf (.cond c x y) Q σ env hp A nh:=by
 exact⟨fun hb a β w ha hw=>wpIn_cond_true (aD ha hc) (ht.run hb a β w ha hw)⟩
theorem Bz{c:Operand}{x y:Code}(hc:bP env c=some (.a .ff))(ht:CJ cf y Q σ env hp A nh): CJ cf (.cond c x y) Q σ env hp A nh:=by
 exact⟨fun hb a β w ha hw=>wpIn_cond_false (aD ha hc) (ht.run hb a β w ha hw)⟩
theorem uC(h:NJ cf .normal Q σ env hp A nh): OJ cf [] Q σ env hp A nh:=⟨fun hb a β ha _ w hw=>h.run hb a β w ha hw⟩
theorem iu{y:Code}(h:CJ cf y Q σ env hp A nh): OJ cf [] (Exit.then (P3 cf.rd cf.P y Q) Q) σ env hp A nh:=⟨fun hb a β ha _ w hw=>h.run hb a β w ha hw⟩
theorem nT{y:Code}(h:CJ cf y Q σ env hp A nh): NJ cf .normal (Exit.then (P3 cf.rd cf.P y Q) Q) σ env hp A nh:=⟨h.run⟩
theorem p9{id:Nat}{K:Act->World->Prop}(h:NJ cf (.exit id) Q σ env hp A nh): NJ cf (.exit id) (Exit.then K Q) σ env hp A nh:=⟨h.run⟩
theorem pj{K:Act->World->Prop}(h:NJ cf .ret Q σ env hp A nh): NJ cf .ret (Exit.then K Q) σ env hp A nh:=⟨h.run⟩
theorem uG{id:Nat}(h:NJ cf .normal Q σ env hp A nh): NJ cf .normal (Exit.inBlock id Q) σ env hp A nh:=⟨h.run⟩
theorem nV{id:Nat}(h:NJ cf .ret Q σ env hp A nh): NJ cf .ret (Exit.inBlock id Q) σ env hp A nh:=⟨h.run⟩
theorem qa{id:Nat}(h:NJ cf .normal Q σ env hp A nh): NJ cf (.exit id) (Exit.inBlock id Q) σ env hp A nh:=by
 refine⟨fun hb a β w ha hw=>?_⟩
 simp only[Exit.inBlock,if_true]
 exact h.run hb a β w ha hw
theorem Aa{id id':Nat}(jv:Nat.beq id' id=false)(h:NJ cf (.exit id') Q σ env hp A nh): NJ cf (.exit id') (Exit.inBlock id Q) σ env hp A nh:=by
 refine⟨fun hb a β w ha hw=>?_⟩
 have:id'≠id:=fun e=>by subst e;simp at jv
 simp only[Exit.inBlock,ai this]
 exact h.run hb a β w ha hw
def Og (e1 e2:Env):Prop:=∀ i x,e1.get i=some x->e2.get i=some x
def yE (h1 h2:HP):Prop:=∀ i x,h1.get i=some x->h2.get i=some x
theorem nc.sub{β:Nat->Addr}{a:Act}{kb:Env}(h:Og kb env)(ha:nc cf env β a): nc cf kb β a:=⟨ha.size,ha.defers,fun i x hx=>ha.env i x (h i x hx)⟩
theorem dy.sub{β:Nat->Addr}{w:World}{nF:HP}(h:yE nF hp)(hw:dy cf σ hp A β w): dy cf σ nF A β w :=
 ⟨hw.os,hw.tape,hw.output,hw.size,hw.fr,hw.cQ,hw.le,hw.grow,fun i e cs hi=>hw.loc i e cs (h i _ hi),fun i cs hi=>hw.ro i cs (h i _ hi),
  fun i j e e' cs AU hi hj=>hw.inj i j e e' cs AU (h i _ hi) (h j _ hj),hw.arr,hw.iR,fun i j E e cs hE hj=>hw.iL i j E e cs hE (h j _ hj)⟩
theorem Bd.sub{kb:Env}{nF:HP}(he:Og kb env)(hh:yE nF hp)(hb:Bd env hp nh): Bd kb nF nh :=
 ⟨fun i x hx=>hb.env i x (he i x hx),fun i k cs hi=>hb.hp i k cs (hh i _ hi)⟩
theorem To{c:Code}{kb:Env}{nF:HP}(he:Og kb env)(hh:yE nF hp)(h:CJ cf c Q σ kb nF A nh): CJ cf c Q σ env hp A nh :=
 ⟨fun hb a β w ha hw=>h.run (hb.sub he hh) a β w (ha.sub he) (hw.sub hh)⟩
structure LS where
 σ:al
 env:Env
 hp:HP
 A:List AE
 nh:Nat
def Zp (cf:Cf) (s:LS) (a:Act) (w:World):Prop:=Bd s.env s.hp s.nh/\∃ β,nc cf s.env β a/\dy cf s.σ s.hp s.A β w
def DS {α:Type} (cf:Cf) (I:α->Prop) (μ:α->Nat) (AI:α->al) (sE:α->Env) (sH:α->HP) (sA:α->List AE) (sn:Nat) (n:Nat) (a:Act) (w:World):Prop :=
 ∃ x,I x/\μ x<n/\Zp cf ⟨AI x,sE x,sH x,sA x,sn⟩ a w
theorem F4{rd:Option Nat}{P:Program}{c:Code}{Q:Exit->Act->World->Prop}{a:Act}{w:World}(R:Nat->Act->World->Prop)(n0:Nat)(h0:R n0 a w)(round:∀ n a w,R n a w->P3 rd P c (Exit.then (fun a' w'=>∃ m,m<n/\R m a' w') Q) a w): P3 rd P (.loop c) Q a w:=by
 intro b k cs hro hb hr
 have key:∀ n a w,R n a w->∃ e a' w',Q e a' w'/\ArrivesIn (Machine.fenced P (FR rd)) P (lone (b.atR a (.code c::.inLoop c::k)) cs w) b k cs e a' w':=by
  intro n
  induction n using Nat.strongRecOn with
  | _ n ih =>
   intro a w hR
   obtain⟨e,PL,N6,hq,JJ⟩:=round n a w hR b (.inLoop c::k) cs hro hb hr
   cases e with
   | normal =>
    obtain⟨m,dj,ag0⟩:=hq
    obtain⟨an9,ao8,ah6,ad7,VQ⟩:=ih m dj PL N6 ag0
    exact⟨an9,ao8,ah6,ad7,.of_steps (StepsIn.trans JJ (.one (fenced_calm hb hr rfl) stepR_inLoop)) VQ⟩
   | exit id=>exact⟨_,PL,N6,hq,.pass (x:=.inLoop c) rfl (fun _ _=>.inl (by simp)) JJ⟩
   | goto l=>exact⟨_,PL,N6,hq,.pass (x:=.inLoop c) rfl (fun _ _=>.inl (by simp)) JJ⟩
   | ret=>exact⟨_,PL,N6,hq,.pass (x:=.inLoop c) rfl (fun _ _=>.inl (by simp)) JJ⟩
   | panic ch=>exact⟨_,PL,N6,hq,.pass (x:=.inLoop c) rfl (fun _ _=>.inl (by simp)) JJ⟩
   | outgrown=>exact⟨_,PL,N6,hq,.pass (x:=.inLoop c) rfl (fun _ _=>.inl (by simp)) JJ⟩
 obtain⟨e,a',w',hq,JJ⟩:=key n0 a w h0
 exact⟨e,a',w',hq,.of_steps (.one (fenced_calm hb hr rfl) stepR_loop) JJ⟩
def DL:Env->Env->Prop
 | [],_=>True
 | (i,x)::l,e=>e.get i=some x/\DL l e
def DK:HP->HP->Prop
 | [],_=>True
 | (i,x)::l,e=>e.get i=some x/\DK l e
theorem xx: ∀ {l e:Env},DL l e->Og l e
 | [],_,_,_,_,h=>by cases h
 | (j,y)::l,e,⟨h1,h2⟩,i,x,h=>by
  rw[Env.ee] at h
  by_cases wY:j=i
  ·rw[au wY] at h;injection h with h;subst h;subst wY;exact h1
  ·rw[ai wY] at h;exact xx h2 i x h
theorem fT: ∀ {l e:HP},DK l e->yE l e
 | [],_,_,_,_,h=>by cases h
 | (j,k,cs)::l,e,⟨h1,h2⟩,i,x,h=>by
  rw[HP.ee] at h
  by_cases wY:j=i
  ·rw[au wY] at h;injection h with h;subst h;subst wY;exact h1
  ·rw[ai wY] at h;exact fT h2 i x h
def wz (n:Nat):Env->Prop
 | []=>True
 | (_,x)::l=>x.lt n/\wz n l
def TZ (n:Nat):HP->Prop
 | []=>True
 | (i,_,cs)::l=>(i<n/\∀ c∈cs,c.lt n)/\TZ n l
theorem Bd.of{env:Env}{hp:HP}{n:Nat}(h1:wz n env)(h2:TZ n hp): Bd env hp n:=by
 constructor
 ·intro i x hx
  induction env with
  | nil=>cases hx
  | cons e l ih =>
   obtain⟨j,y⟩:=e
   rw[Env.ee] at hx
   by_cases wY:j=i
   ·rw[au wY] at hx;injection hx with hx;subst hx;exact h1.1
   ·rw[ai wY] at hx;exact ih h1.2 hx
 ·intro i k cs hx
  induction hp with
  | nil=>cases hx
  | cons e l ih =>
   obtain⟨j,q,ds⟩:=e
   rw[HP.ee] at hx
   by_cases wY:j=i
   ·rw[au wY] at hx
    injection hx with hx
    simp only[cC] at hx
    obtain⟨_,rfl⟩:=hx
    subst wY
    exact h2.1
   ·rw[ai wY] at hx;exact ih h2.2 hx
theorem bX{α:Type}{c:Code}(AI:α->al)(sE:α->Env)(sH:α->HP)(sA:α->List AE)(sn:Nat)(I:α->Prop)(μ:α->Nat)(x0:α)(h0:I x0)(qY:AI x0=σ)(he:DL (sE x0) env)(hh:DK (sH x0) hp)(hA:sA x0=A)(hl:wz sn (sE x0))(AS:TZ sn (sH x0))(C0:∀ x,I x->CJ cf c (Exit.then (DS cf I μ AI sE sH sA sn (μ x)) Q) (AI x) (sE x) (sH x) (sA x) sn): CJ cf (.loop c) Q σ env hp A nh:=by
 refine⟨fun _ a β w ha hw=>?_⟩
 have Zv:Zp cf ⟨AI x0,sE x0,sH x0,sA x0,sn⟩ a w:=⟨Bd.of hl AS,β,ha.sub (xx he),by rw[qY,hA];exact hw.sub (fT hh)⟩
 exact F4 (fun n a w=>∃ x,I x/\μ x=n/\Zp cf ⟨AI x,sE x,sH x,sA x,sn⟩ a w) (μ x0) ⟨x0,h0,rfl,Zv⟩ fun n a w ⟨x,hI,hμ,hb,β,ha,hw⟩=>by
  subst hμ
  exact Code.wpIn_mono (fun e a w q=>by
   cases e with
   | normal=>obtain⟨y,h1,h2,h3⟩:=q;exact⟨μ y,h2,y,h1,rfl,h3⟩
   | _=>exact q) ((C0 x hI).run hb a β w ha hw)
theorem an{α:Type}{I:α->Prop}{μ:α->Nat}{AI:α->al}{sE:α->Env}{sH:α->HP}{sA:α->List AE}{sn:Nat}{n:Nat}(x:α)(hI:I x)(hμ:μ x<n)(qY:AI x=σ)(he:DL (sE x) env)(hh:DK (sH x) hp)(hA:sA x=A)(hl:wz sn (sE x))(AS:TZ sn (sH x)): NJ cf .normal (Exit.then (DS cf I μ AI sE sH sA sn n) Q) σ env hp A nh :=
 ⟨fun _ _ β _ ha hw=>⟨x,hI,hμ,Bd.of hl AS,β,ha.sub (xx he),by rw[qY,hA];exact hw.sub (fT hh)⟩⟩
theorem Tq{α:Type}{x y:Code}(AI:α->al)(sE:α->Env)(sH:α->HP)(sA:α->List AE)(sn:Nat)(I:α->Prop)(hx:CJ cf x (Exit.then (DS cf I (fun _=>0) AI sE sH sA sn 1) Q) σ env hp A nh)(hy:∀ i,I i->CJ cf y Q (AI i) (sE i) (sH i) (sA i) sn): CJ cf (.seq x y) Q σ env hp A nh:=by
 refine⟨fun hb a β w ha hw=>wpIn_seq (Code.wpIn_mono (fun e a w q=>?_) (hx.run hb a β w ha hw))⟩
 cases e with
 | normal =>
  obtain⟨i,hI,_,hb,β,ha,hw⟩:=q
  exact(hy i hI).run hb a β w ha hw
 | _=>exact q
theorem XQ{l:List Item}{kb:Env}{nF:HP}(he:Og kb env)(hh:yE nF hp)(hS:∀ β w,dy cf σ nF A β w->dy cf σ hp A β w)(h:OJ cf l Q σ kb nF A nh): OJ cf l Q σ env hp A nh:=by
 refine⟨fun hb a β ha hex=>?_⟩
 have e:(fun w=>dy cf σ hp A β w)=fun w=>dy cf σ nF A β w:=by
  funext w
  exact propext ⟨fun hw=>hw.sub hh,hS β w⟩
 rw[e]
 obtain⟨w,hw⟩:=hex
 exact h.run (hb.sub he hh) a β (ha.sub he) ⟨w,hw.sub hh⟩
theorem U7{l:List Item}{kb:Env}(he:Og kb env)(h:OJ cf l Q σ kb hp A nh): OJ cf l Q σ env hp A nh:=XQ he (fun _ _ h=>h) (fun _ _ h=>h) h
end
end Go.Sy
