/- Parts of the proof of CStreamsValues: SyA, SyB, SyC. No conditions. -/
import Derived.Orders
import Derived.Tactics
import Derived.OrdersIn
import Derived.TacticsIn
import Derived.WalkKit
import Derived.MapKept
import Derived.RangeFuncRecord
import Derived.Test.YtlonlnagmfdlbaaGreatDoorProg
import Derived.KernelRfl
import Derived.Scope
import Derived.Laws.MakeOwn
import Derived.Laws.IdiomStrings
import Derived.Lib.BufferRead
import Derived.Shelf.Strings.Replace
import Derived.Laws.Externs
import Derived.Lib.BytesEntry
import Derived.Carry
import Derived.RowKit
import Derived.ChangeStays
import Derived.ChangeSame
import Derived.ReadAgain
import Derived.SizedLaws
import Derived.Deep.DeepHandedRow
import Derived.ProofKit
import Derived.OpenShut
import Derived.Lay
import Derived.SevenTiedAt
import Derived.Stop.Joined
import Derived.Test.YtlonlnagmfdlbaaGreatDoorCards
import Derived.Test.YtlonlnagmfdlbaaGreatDoorTie
import Derived.Shelf.Vars
/- The runs of a region, operation by operation, over a class of worlds; and that one order serves every order that a region may draw. No program in sight. -/
namespace Go.Sy
def FR (rd:Option Nat):Fence:={ fn:=fun _=>True,depth:=none,alive:=false,round:=rd }
theorem fenced_FR (rd:Option Nat) (P:Program) (m:Machine):m.fenced P (FR rd):=by
  intro g _
  refine ⟨fun h=>?_,Or.inl trivial,fun _ _=>trivial,fun _ h=>?_⟩
  · simp [FR] at h
  · simp [FR] at h
theorem room_FR (rd:Option Nat) (n:Nat):(FR rd).room n:=fun _ h=>by simp [FR] at h
theorem stepsIn_FR {rd:Option Nat} {P:Program} {m m':Machine}:StepsIn (Machine.fenced P (FR rd)) P m m'↔Steps P m m' :=
  ⟨StepsIn.steps,fun h=>(StepsIn.of_steps h).mono fun m _=>fenced_FR rd P m⟩
theorem comesIn_FR {rd:Option Nat} {P:Program} {m m':Machine} {e:Ending}:ComesIn (Machine.fenced P (FR rd)) P m m' e↔Comes P m m' e:=by
  cases e with
  | returned v=>exact stepsIn_FR
  | panicked chain=>exact stepsIn_FR
  | outgrown=>exact Iff.rfl
theorem callsIn_FR {rd:Option Nat} {n:Nat} {P:Program} {f:FuncId} {args:Array Value} {w:World} {R:Ending->World->Prop}:CallsIn (FR rd) n P f args w R↔Calls P f args w R :=
  ⟨fun h cs=>let ⟨e,w',fr,r,s,x⟩:=h.2 cs (room_FR rd _);⟨e,w',fr,r,comesIn_FR.1 s,x⟩,
   fun h=>⟨trivial,fun cs _=>let ⟨e,w',fr,r,s,x⟩:=h cs;⟨e,w',fr,r,comesIn_FR.2 s,x⟩⟩⟩
def _root_.Go.Oper.wq (P:Program) (o:Oper) (a:Act) (w:World) (next:Act->World->Prop) (Q:Exit->Act->World->Prop):Prop :=
  o.uponIn (FR none) 0 P a next Q ((execOp a.eval o).run P w)
theorem wq_mono {P:Program} {o:Oper} {a:Act} {w:World} {K K':Act->World->Prop} {Q:Exit->Act->World->Prop} (h:∀ a w,K a w->K' a w) (hh:o.wq P a w K Q):o.wq P a w K' Q:=by
  unfold Oper.wq at *
  generalize (execOp a.eval o).run P w=r at *
  cases r with
  | ok x w' =>
    cases x<;>simp only [Oper.uponIn] at hh ⊢ <;>
      first
        | exact h _ _ hh
        | exact ⟨hh.1,CallsIn.mono hh.2 (fun e w'' he=>by cases e<;>first | exact h _ _ he | exact he)⟩
        | exact ⟨hh.1,RowsIn.mono hh.2 (fun _ _ he=>h _ _ he)⟩
        | exact ⟨hh.1,RoundIn.mono hh.2 (fun e w'' he=>by cases e<;>first | exact h _ _ he | exact he)⟩
  | halt x w'=>cases x<;>simp only [Oper.uponIn] at hh ⊢<;>exact hh
inductive Tag where
  | free | pure | quiet | keep | sink
structure Item where
  tag:Tag
  guard:Option (Option Nat×Bool)
  o:Oper
def NoPanic (Q:Exit->Act->World->Prop):Exit->Act->World->Prop
  | .panic _,_,_=>False
  | e,a,w=>Q e a w
def wantedS (g:Option (Option Nat×Bool)) (a:Act):Bool :=
  match g with
  | none=>true
  | some (none,_)=>false
  | some (some t,b) =>
    match a.tmps[t]? with
    | some (.bool x)=>x == b
    | _=>false
def slotOf (ops:Array Oper) (o:Oper):Option (Option Nat×Bool) :=
  match o.guard with
  | none=>none
  | some (j,b)=>some ((ops[j]?).bind (·.dst),b)
theorem wantedS_slotOf (ops:Array Oper) (o:Oper) (a:Act):wantedS (slotOf ops o) a=Region.wanted o (yielded ops a.tmps):=by
  unfold wantedS slotOf Region.wanted
  cases hg:o.guard with
  | none=>rfl
  | some p =>
    obtain ⟨j,b⟩:=p
    simp only [yielded]
    cases hd:(ops[j]?).bind (·.dst) with
    | none=>simp
    | some t =>
      simp only [Option.bind_some]
      cases ht:a.tmps[t]? with
      | none=>simp
      | some v=>cases v<;>simp
def quietAt (P:Program) (o:Oper) (a:Act) (w:World) (v:Value):Prop :=
  (execOp a.eval o).run P w=.ok (.value v) w\/((execOp a.eval o).run P w=.ok .skip w/\v=undef)
def RunT (P:Program) (Q:Exit->Act->World->Prop):List Item->(World->Prop)->(World->Prop)->Act->Prop
  | [],_,S,a=>∀ w,S w->Q .normal a w
  | it::rest,E,S,a =>
    if wantedS it.guard a then
      match it.tag with
      | .pure=>∃ v,(∀ w,quietAt P it.o a w v)/\RunT P Q rest E S (a.put it.o.dst v)
      | .quiet=>∃ v,(∀ w,E w->quietAt P it.o a w v)/\RunT P Q rest E S (a.put it.o.dst v)
      | .keep=>∀ w,S w->it.o.wq P a w (fun a' w'=>∃ E' S':World->Prop,S' w'/\(∀ x,S' x->E' x)/\(∀ x,E' x->E x)/\RunT P Q rest E' S' a') (NoPanic Q)
      | .sink=>∀ w,S w->it.o.wq P a w (fun a' w'=>∃ E' S':World->Prop,S' w'/\(∀ x,S' x->E' x)/\RunT P Q rest E' S' a') (NoPanic Q)
      | .free=>∀ w,S w->it.o.wq P a w (fun a' w'=>∃ E' S':World->Prop,S' w'/\(∀ x,S' x->E' x)/\RunT P Q rest E' S' a') Q
    else RunT P Q rest E S (a.put it.o.dst undef)
def frees (ops:Array Oper):List Item:=ops.toList.map fun o=>⟨.free,slotOf ops o,o⟩
abbrev wpR (rd:Option Nat) (P:Program) (c:Code) (Q:Exit->Act->World->Prop) (a:Act) (w:World):Prop:=c.wpIn (FR rd) 0 P Q a w
theorem wpR_none {P:Program} {c:Code} {Q:Exit->Act->World->Prop} {a:Act} {w:World} (h:wpR none P c Q a w):c.wp P Q a w:=(wpIn_wide (n:=0)).1 h
def noDefer (o:Oper):Bool :=
  match o.op with
  | .defer _=>false
  | _=>true
def okRd (rd:Option Nat) (ops:Array Oper):Bool :=
  match rd with
  | none=>true
  | some _=>ops.all noDefer
theorem round_FR {rd rd':Option Nat} {n n':Nat} {P:Program} {l:Nat} {f:FuncId} {tmps:Array Value} {assign body:Code} {w:World} {R:Ending->World->Prop} (h:RoundIn (FR rd) n P l f tmps assign body w R):RoundIn (FR rd') n' P l f tmps assign body w R:=by
  refine ⟨trivial,fun c cs _=>?_⟩
  obtain ⟨e,w',r,s⟩:=h.2 c cs (room_FR rd _)
  exact ⟨e,w',r,comesIn_FR.2 (comesIn_FR.1 s)⟩
theorem oper_in {rd:Option Nat} {P:Program} {o:Oper} {a:Act} {w:World} {K:Act->World->Prop} {Q:Exit->Act->World->Prop} (hd:rd=none\/noDefer o=true) (h:o.wq P a w K Q):o.wpIn (FR rd) 0 P a w K Q:=by
  have hs:o.semAt (FR rd).round a.eval=execOp a.eval o:=by
    show o.semAt rd a.eval=_
    rcases hd with rfl | hd
    · rfl
    · exact Oper.semAt_eq rd _ _ (fun c hc=>by simp [noDefer,hc] at hd)
  refine ⟨fun _ _=>trivial,?_⟩
  rw [hs]
  unfold Oper.wq at h
  generalize (execOp a.eval o).run P w=r at *
  cases r with
  | ok n w' =>
    cases n<;>simp only [Oper.uponIn] at h ⊢
    case enter f args=>exact ⟨fun h=>(by cases h),callsIn_FR.2 (callsIn_FR.1 h.2)⟩
    case row row args=>exact ⟨fun h=>(by cases h),fun c cs _=>let ⟨v,w',r,s⟩:=h.2 c cs (room_FR _ _);⟨v,w',r,stepsIn_FR.2 (stepsIn_FR.1 s)⟩⟩
    case round l f tmps assign body=>exact ⟨fun h=>(by cases h),round_FR h.2⟩
    all_goals exact h
  | halt x w'=>cases x<;>simp only [Oper.uponIn] at h ⊢<;>exact h
theorem okRd_mem {rd:Option Nat} {ops:Array Oper} (h:okRd rd ops=true):rd=none\/∀ o∈ops,noDefer o=true:=by
  cases rd with
  | none=>exact .inl rfl
  | some l =>
    refine .inr fun o ho=>?_
    simp only [okRd] at h
    exact Array.all_eq_true'.1 h o ho
theorem wpListIn_of_run {rd:Option Nat} {P:Program} {Q:Exit->Act->World->Prop} {ops:Array Oper}:∀ (l:List Oper) (E S:World->Prop) (a:Act) (w:World),(rd=none\/∀ o∈l,noDefer o=true) ->
    RunT P Q (l.map fun o=>⟨.free,slotOf ops o,o⟩) E S a->S w->wpListIn (FR rd) 0 P ops Q l a w
  | [],_,_,_,w,_,h,hS=>h w hS
  | o::l,E,S,a,w,hd,h,hS=>by
    have hd1:rd=none\/noDefer o=true:=hd.imp (fun h=>h) fun h=>h o (List.mem_cons_self ..)
    have hd2:rd=none\/∀ o∈l,noDefer o=true:=hd.imp (fun h=>h) fun h o ho=>h o (List.mem_cons_of_mem _ ho)
    simp only [List.map_cons,RunT,wantedS_slotOf] at h
    simp only [wpListIn]
    split
    · rename_i hw
      rw [if_pos hw] at h
      exact oper_in hd1 (wq_mono (fun a' w' ⟨E',S',hS',_,hr⟩=>wpListIn_of_run l E' S' a' w' hd2 hr hS') (h w hS))
    · rename_i hw
      rw [if_neg hw] at h
      exact ⟨fun _ _=>trivial,wpListIn_of_run l E S _ w hd2 h hS⟩
theorem wp_of_frees {rd:Option Nat} {P:Program} {Q:Exit->Act->World->Prop} {id:Nat} {ops:Array Oper} {a:Act} {w:World} {E S:World->Prop} (hd:okRd rd ops=true) (hS:S w)
    (h:RunT P Q (frees ops) E S a):wpR rd P (.region id ops false) Q a w :=
  wpIn_region_list (wpListIn_of_run ops.toList E S a w ((okRd_mem hd).imp (fun h=>h) fun h o ho=>h o (by simpa using ho)) h hS)
section
variable {P:Program} {ops:Array Oper} {Q:Exit->Act->World->Prop}
def Closed (ops:Array Oper) (listed:Array Bool):Prop :=
  listed.size=ops.size/\∀ j oj,ops[j]?=some oj->listed.getD j false=true->∀ e∈oj.after,Region.binds .any e=true->listed.getD e.on false=true
def Sink (ops:Array Oper) (U:List Nat) (j:Nat):Prop :=
  ∀ listed,Closed ops listed->j∈Region.ready .any ops listed->∀ i∈Region.ready .any ops listed,i∉U->i=j
def stepC (P:Program) (ops:Array Oper) (U:List Nat) (Q:Exit->Act->World->Prop) (j:Nat) (K:Act->(World->Prop)->(World->Prop)->Prop) (a:Act) (E S:World->Prop):Prop :=
  match ops[j]? with
  | none=>K a E S
  | some o =>
    if Region.wanted o (yielded ops a.tmps) then
      ∀ w,S w->o.wq P a w (fun a' w'=>∃ E' S':World->Prop,S' w'/\(∀ x,S' x->E' x)/\((∀ x,E' x->E x)\/Sink ops U j)/\K a' E' S') (NoPanic Q)
    else K (a.put o.dst undef) E S
def wpAnyC (P:Program) (ops:Array Oper) (U:List Nat) (Q:Exit->Act->World->Prop):Nat->Array Bool->Act->(World->Prop)->(World->Prop)->Prop
  | 0,listed,a,_,S=>Region.ready .any ops listed=[]/\∀ w,S w->Q .normal a w
  | fuel+1,listed,a,E,S =>
    (Region.ready .any ops listed=[]->∀ w,S w->Q .normal a w) /\
    ∀ j∈Region.ready .any ops listed,stepC P ops U Q j (wpAnyC P ops U Q fuel (listed.setIfInBounds j true)) a E S
theorem wp_noPanic {o:Oper} {a:Act} {w:World} {K:Act->World->Prop} (h:o.wq P a w K (NoPanic Q)):o.wq P a w K Q:=by
  unfold Oper.wq at *
  generalize (execOp a.eval o).run P w=r at *
  cases r with
  | ok n w' =>
    cases n<;>simp only [Oper.uponIn] at h ⊢ <;>
      first
        | exact h
        | exact ⟨h.1,CallsIn.mono h.2 (fun e w'' he=>by cases e<;>first | exact he | exact he.elim)⟩
        | exact ⟨h.1,RoundIn.mono h.2 (fun e w'' he=>by cases e<;>first | exact he | exact he.elim)⟩
  | halt x w'=>cases x<;>simp only [Oper.uponIn] at h ⊢<;>exact h.elim
variable {U:List Nat}
theorem wpAnyIn_of_C {rd:Option Nat} (hd:rd=none\/∀ o∈ops,noDefer o=true):∀ (fuel:Nat) (listed:Array Bool) (a:Act) (E S:World->Prop) (w:World),S w ->
    wpAnyC P ops U Q fuel listed a E S->wpAnyIn (FR rd) 0 P .any ops Q fuel listed a w
  | 0,_,_,_,_,w,hS,h=>⟨h.1,h.2 w hS⟩
  | fuel+1,listed,a,E,S,w,hS,h=>by
    refine ⟨fun h0=>h.1 h0 w hS,fun j hj=>?_⟩
    have hj':=h.2 j hj
    unfold stepC at hj'
    unfold wpOpIn
    split
    · rename_i ho
      simp only [ho] at hj'
      exact wpAnyIn_of_C hd fuel _ a E S w hS hj'
    · rename_i o ho
      simp only [ho] at hj'
      split
      · rename_i hw
        rw [if_pos hw] at hj'
        exact oper_in (hd.imp (fun h=>h) fun h=>h o (Array.mem_of_getElem? ho)) (wq_mono (fun a' w' ⟨E',S',hS',_,_,hr⟩=>wpAnyIn_of_C hd fuel _ a' E' S' w' hS' hr) (wp_noPanic (hj' w hS)))
      · rename_i hw
        rw [if_neg hw] at hj'
        exact ⟨fun _ _=>trivial,wpAnyIn_of_C hd fuel _ _ E S w hS hj'⟩
def YieldsC (P:Program) (ops:Array Oper) (E:World->Prop) (o:Oper) (v:Value) (a:Act):Prop :=
  (Region.wanted o (yielded ops a.tmps)=true/\∀ w,E w->quietAt P o a w v) \/
  (Region.wanted o (yielded ops a.tmps)=false/\v=undef)
theorem YieldsC.of_same {E E':World->Prop} {o:Oper} {v:Value} {a a':Act} (hy:YieldsC P ops E o v a) (hE:∀ x,E' x->E x)
    (he:execOp a'.eval o=execOp a.eval o) (hw:Region.wanted o (yielded ops a'.tmps)=Region.wanted o (yielded ops a.tmps)):YieldsC P ops E' o v a':=by
  unfold YieldsC quietAt at *
  rw [he,hw]
  exact hy.imp (fun ⟨h1,h2⟩=>⟨h1,fun w hw=>h2 w (hE w hw)⟩) id
theorem wp_of_quiet {o:Oper} {a:Act} {w:World} {v:Value} {K:Act->World->Prop} {Q':Exit->Act->World->Prop} (hq:quietAt P o a w v)
    (h:K (a.put o.dst v) w):o.wq P a w K Q':=by
  unfold Oper.wq
  rcases hq with hq | ⟨hq,rfl⟩
  · rw [hq];exact h
  · rw [hq];exact h
def YieldsU (P:Program) (ops:Array Oper) (U:List Nat) (i:Nat) (E:World->Prop) (o:Oper) (v:Value) (a:Act):Prop :=
  YieldsC P ops E o v a/\(i∈U->YieldsC P ops (fun _=>True) o v a)
theorem YieldsU.step {E S:World->Prop} {i:Nat} {o:Oper} {v:Value} {a:Act} (hi:ops[i]?=some o) (hES:∀ x,S x->E x) (hy:YieldsU P ops U i E o v a)
    {K:Act->(World->Prop)->(World->Prop)->Prop} (h:K (a.put o.dst v) E S):stepC P ops U Q i K a E S:=by
  unfold stepC
  simp only [hi]
  rcases hy.1 with ⟨hw,hv⟩ | ⟨hw,rfl⟩
  · rw [if_pos hw]
    exact fun w hS=>wp_of_quiet (hv w (hES w hS)) ⟨E,S,hS,hES,.inl fun _ h=>h,h⟩
  · rw [if_neg (by simp [hw])];exact h
theorem stepC_put {i j:Nat} {oi oj:Oper} {v:Value} {E S:World->Prop} (hj:ops[j]?=some oj) (hap:oi.apart ops oj=true)
    (hsi:∀ cs b,oi.op≠.select cs b) (hsj:∀ cs b,oj.op≠.select cs b) (hns:Sink ops U j->i∈U)
    {K:Act->(World->Prop)->(World->Prop)->Prop} {a:Act} (hES:∀ x,S x->E x) (hy:YieldsU P ops U i E oi v a) (h:stepC P ops U Q j K (a.put oi.dst v) E S) :
    stepC P ops U Q j (fun a' E' S'=>(∀ x,S' x->E' x)/\YieldsU P ops U i E' oi v a'/\K (a'.put oi.dst v) E' S') a E S:=by
  obtain ⟨h1,h2,h3⟩:=Oper.apart_spec hap
  have keepC:∀ (a:Act) (E E':World->Prop),(∀ x,E' x->E x)->YieldsC P ops E oi v a->∀ u,YieldsC P ops E' oi v (a.put oj.dst u):=fun a E E' hE hy u =>
    hy.of_same hE (execOp_put oi hsi a oj.dst u h3) (wanted_put oi a oj.dst u h3)
  have keep:∀ (a:Act) (E':World->Prop),((∀ x,E' x->E x)\/Sink ops U j)->YieldsU P ops U i E oi v a->∀ u,YieldsU P ops U i E' oi v (a.put oj.dst u):=by
    intro a E' hE hy u
    refine ⟨?_,fun hU=>keepC a _ _ (fun _ h=>h) (hy.2 hU) u⟩
    rcases hE with hE | hE
    · exact keepC a E E' hE hy.1 u
    · exact keepC a _ E' (fun _ _=>trivial) (hy.2 (hns hE)) u
  have keepD:∀ d,YieldsU P ops U i E oi v { a with defers:=d::a.defers }:=fun d=>⟨hy.1.of_same (fun _ h=>h) rfl rfl,fun hU=>(hy.2 hU).of_same (fun _ h=>h) rfl rfl⟩
  unfold stepC at *
  simp only [hj] at *
  rw [wanted_put oj a oi.dst v h1] at h
  split
  · rename_i hw
    simp only [hw,if_true] at h
    intro w hS
    have h:=h w hS
    unfold Oper.wq at *
    rw [execOp_put oj hsj a oi.dst v h1] at h
    generalize (execOp a.eval oj).run P w=r at *
    cases r with
    | ok n w' =>
      cases n<;>simp only [Oper.uponIn] at h ⊢
      case value u =>
        obtain ⟨E',S',hS',hsub,hE,hK⟩:=h
        exact ⟨E',S',hS',hsub,hE,hsub,keep a E' hE hy u,by rw [<-Act.put_comm a v u h2];exact hK⟩
      case skip =>
        obtain ⟨E',S',hS',hsub,hE,hK⟩:=h
        exact ⟨E',S',hS',hsub,hE,hsub,keep a E' hE hy _,by rw [<-Act.put_comm a v undef h2];exact hK⟩
      case defer d =>
        obtain ⟨E',S',hS',hsub,hE,hK⟩:=h
        refine ⟨E',S',hS',hsub,hE,hsub,keep _ E' hE (keepD d) _,?_⟩
        rw [<-Act.put_comm _ v undef h2,<-Act.put_defers]
        exact hK
      case enter f args =>
        refine ⟨h.1,CallsIn.mono h.2 fun e w'' he=>?_⟩
        cases e with
        | returned u =>
          obtain ⟨E',S',hS',hsub,hE,hK⟩:=he
          exact ⟨E',S',hS',hsub,hE,hsub,keep a E' hE hy u,by rw [<-Act.put_comm a v u h2];exact hK⟩
        | panicked c=>exact he.elim
        | outgrown=>exact he
      case round l f tmps assign body =>
        refine ⟨h.1,RoundIn.mono h.2 fun e w'' he=>?_⟩
        cases e with
        | returned u =>
          obtain ⟨E',S',hS',hsub,hE,hK⟩:=he
          exact ⟨E',S',hS',hsub,hE,hsub,keep a E' hE hy u,by rw [<-Act.put_comm a v u h2];exact hK⟩
        | panicked c=>exact he.elim
        | outgrown=>exact he
      case row row args =>
        refine ⟨h.1,RowsIn.mono h.2 fun u w'' he=>?_⟩
        obtain ⟨E',S',hS',hsub,hE,hK⟩:=he
        exact ⟨E',S',hS',hsub,hE,hsub,keep a E' hE hy u,by rw [<-Act.put_comm a v u h2];exact hK⟩
    | halt x w' =>
      cases x<;>simp only [Oper.uponIn] at h ⊢
      case panic u=>exact h.elim
  · rename_i hw
    simp only [hw] at h
    exact ⟨hES,keep a E (.inl fun _ h=>h) hy _,by rw [<-Act.put_comm a v undef h2];exact h⟩
theorem stepC_mono {j:Nat} {a:Act} {E S:World->Prop} {K K':Act->(World->Prop)->(World->Prop)->Prop} (h:∀ a E S,K a E S->K' a E S)
    (hh:stepC P ops U Q j K a E S):stepC P ops U Q j K' a E S:=by
  unfold stepC at *
  split
  · rename_i ho;simp only [ho] at hh;exact h _ _ _ hh
  · rename_i o ho
    simp only [ho] at hh
    split
    · rename_i hw
      rw [if_pos hw] at hh
      exact fun w hS=>wq_mono (fun a' w' ⟨E',S',h1,h2,h3,h4⟩=>⟨E',S',h1,h2,h3,h _ _ _ h4⟩) (hh w hS)
    · rename_i hw;rw [if_neg hw] at hh;exact h _ _ _ hh
theorem Closed.set {listed:Array Bool} {i:Nat} (hc:Closed ops listed) (hi:i∈Region.ready .any ops listed):Closed ops (listed.setIfInBounds i true):=by
  obtain ⟨_,oi,hoi,hall⟩:=mem_ready.1 hi
  refine ⟨by simp [hc.1],fun j oj hj hl e he hb=>?_⟩
  by_cases hij:i=j
  · subst hij
    have:oj=oi:=Option.some.inj (hj.symm.trans hoi)
    subst this
    exact getD_set_true (hall e he hb)
  · rw [getD_set_ne false hij] at hl
    exact getD_set_true (hc.2 j oj hj hl e he hb)
theorem wpAnyC_first {i:Nat} {oi:Oper} {v:Value} (hi:ops[i]?=some oi) (hsel:∀ (j:Nat) (o:Oper) cs b,ops[j]?=some o->o.op≠.select cs b) :
    ∀ (fuel:Nat) (listed:Array Bool) (a:Act) (E S:World->Prop),Closed ops listed->(∀ x,S x->E x) ->
      (∀ j oj,ops[j]?=some oj->j≠i->listed.getD j true=false->(∀ e∈oj.after,Region.binds .any e=true->e.on≠i)->oi.apart ops oj=true) ->
      i∈Region.ready .any ops listed->YieldsU P ops U i E oi v a ->
      wpAnyC P ops U Q fuel (listed.setIfInBounds i true) (a.put oi.dst v) E S->wpAnyC P ops U Q (fuel+1) listed a E S:=by
  intro fuel
  induction fuel with
  | zero =>
    intro listed a E S hc hES _ hr hy H
    refine ⟨fun h=>(by rw [h] at hr;cases hr),fun j hj=>?_⟩
    by_cases hji:j=i
    · subst hji;exact hy.step hi hES H
    · have:=ready_mono hj hji
      rw [H.1] at this
      cases this
  | succ fuel ih =>
    intro listed a E S hc hES hfree hr hy H
    refine ⟨fun h=>(by rw [h] at hr;cases hr),fun j hj=>?_⟩
    by_cases hji:j=i
    · subst hji;exact hy.step hi hES H
    · have h1:=H.2 j (ready_mono hj hji)
      obtain ⟨hjun,oj,hoj,hall⟩:=mem_ready.1 hj
      have hnot:∀ e∈oj.after,Region.binds .any e=true->e.on≠i:=fun e he hb heq=>by
        have h1:=hall e he hb
        have h0:=(mem_ready.1 hr).1
        rw [heq] at h1
        rcases Nat.lt_or_ge i listed.size with h' | h'
        · simp [h'] at h0 h1;rw [h0] at h1;cases h1
        · simp [Array.getElem?_eq_none h'] at h1
      have hns:Sink ops U j->i∈U:=fun hs=>Classical.byContradiction fun hu=>hji (hs listed hc hj i hr hu).symm
      have h2:=stepC_put hoj (hfree j oj hoj hji hjun hnot) (fun cs b=>hsel i oi cs b hi) (fun cs b=>hsel j oj cs b hoj) hns hES hy h1
      have hfree':∀ k ok,ops[k]?=some ok->k≠i->(listed.setIfInBounds j true).getD k true=false ->
          (∀ e∈ok.after,Region.binds .any e=true->e.on≠i)->oi.apart ops ok=true:=fun k ok hk hki hun hno=>by
        refine hfree k ok hk hki ?_ hno
        by_cases hjk:j=k
        · subst hjk;exact hjun
        · rw [getD_set_ne true hjk] at hun;exact hun
      refine stepC_mono (fun a' E' S' h3=>ih (listed.setIfInBounds j true) a' E' S' (hc.set hj) h3.1 hfree' (ready_mono hr (Ne.symm hji)) h3.2.1 ?_) h2
      rw [Array.setIfInBounds_comm _ _ hji]
      exact h3.2.2
def waits (ops:Array Oper) (k i:Nat):Bool :=
  match ops[k]? with
  | some ok=>ok.after.any fun e=>Region.binds .any e&&e.on == i
  | none=>false
theorem waits_spec {k i:Nat} (h:waits ops k i=true):∃ ok,ops[k]?=some ok/\∃ e∈ok.after,Region.binds .any e=true/\e.on=i:=by
  unfold waits at h
  split at h
  · rename_i ok hk
    obtain ⟨e,he,hb⟩:=Array.any_eq_true'.1 h
    simp only [Bool.and_eq_true,beq_iff_eq] at hb
    exact ⟨ok,hk,e,he,hb.1,hb.2⟩
  · cases h
def allBefore (ops:Array Oper) (j:Nat):List Nat->Bool
  | []=>true
  | i::rest=>(waits ops j i||rest.any fun k=>waits ops k i)&&allBefore ops j rest
def allAfter (ops:Array Oper) (j:Nat):List Nat->List Nat->Bool
  | _,[]=>true
  | met,k::rest=>(waits ops k j||met.any fun m=>waits ops k m)&&allAfter ops j (k::met) rest
theorem listed_of_waits {k i:Nat} {listed:Array Bool} (hc:Closed ops listed) (h:waits ops k i=true) (hk:listed.getD k false=true):listed.getD i false=true:=by
  obtain ⟨ok,hok,e,he,hb,rfl⟩:=waits_spec h
  exact hc.2 k ok hok hk e he hb
theorem listed_of_waits_ready {k i:Nat} {listed:Array Bool} (h:waits ops k i=true) (hk:k∈Region.ready .any ops listed):listed.getD i false=true:=by
  obtain ⟨ok,hok,e,he,hb,rfl⟩:=waits_spec h
  obtain ⟨_,o,ho,hall⟩:=mem_ready.1 hk
  have:o=ok:=Option.some.inj (ho.symm.trans hok)
  subst this
  exact hall e he hb
theorem allBefore_listed {j:Nat} {listed:Array Bool} (hc:Closed ops listed) (hj:j∈Region.ready .any ops listed):∀ (l:List Nat),
    allBefore ops j l=true->∀ i∈l,listed.getD i false=true
  | [],_,_,hi=>by cases hi
  | x::l,h,i,hi=>by
    simp only [allBefore,Bool.and_eq_true,Bool.or_eq_true] at h
    have ih:=allBefore_listed hc hj l h.2
    cases hi with
    | tail _ hi=>exact ih i hi
    | head =>
      rcases h.1 with h1 | h1
      · exact listed_of_waits_ready h1 hj
      · obtain ⟨k,hk,hw⟩:=List.any_eq_true.1 h1
        exact listed_of_waits hc hw (ih k hk)
theorem allAfter_not {j:Nat} {listed:Array Bool} (hc:Closed ops listed) (hj:listed.getD j false=false):∀ (l met:List Nat),
    (∀ m∈met,listed.getD m false=false)->allAfter ops j met l=true->∀ k∈l,k∉Region.ready .any ops listed
  | [],_,_,_,_,hk=>by cases hk
  | x::l,met,hmet,h,k,hk=>by
    simp only [allAfter,Bool.and_eq_true,Bool.or_eq_true] at h
    have hx:listed.getD x false=false:=by
      cases hx:listed.getD x false with
      | false=>rfl
      | true =>
        rcases h.1 with h1 | h1
        · rw [listed_of_waits hc h1 hx] at hj;cases hj
        · obtain ⟨m,hm,hw⟩:=List.any_eq_true.1 h1
          have:=listed_of_waits hc hw hx
          rw [hmet m hm] at this;cases this
    cases hk with
    | head =>
      intro hr
      rcases h.1 with h1 | h1
      · rw [listed_of_waits_ready h1 hr] at hj;cases hj
      · obtain ⟨m,hm,hw⟩:=List.any_eq_true.1 h1
        have:=listed_of_waits_ready hw hr
        rw [hmet m hm] at this;cases this
    | tail _ hk =>
      exact allAfter_not hc hj l (x::met) (fun m hm=>by cases hm with | head=>exact hx | tail _ hm=>exact hmet m hm) h.2 k hk
theorem getD_tf {listed:Array Bool} {i:Nat} (h:listed.getD i true=false):listed.getD i false=false:=by
  rcases Nat.lt_or_ge i listed.size with h' | h'
  · simp [h'] at h ⊢;exact h
  · simp [Array.getElem?_eq_none h'] at h
theorem getD_tt {listed:Array Bool} {i:Nat} (h:listed.getD i false=true):listed.getD i true=true:=by
  rcases Nat.lt_or_ge i listed.size with h' | h'
  · simp [h'] at h ⊢;exact h
  · simp [Array.getElem?_eq_none h'] at h
theorem sink_of {j:Nat} {bef aft:List Nat} (h1:allBefore ops j bef=true) (h2:allAfter ops j [] aft=true)
    (hall:∀ i,i<ops.size->i∈bef\/i=j\/i∈aft\/i∈U):Sink ops U j:=by
  intro listed hc hj i hi hu
  have hlt:i<ops.size:=by
    obtain ⟨_,o,ho,_⟩:=mem_ready.1 hi
    exact (Array.getElem?_eq_some_iff.1 ho).1
  rcases hall i hlt with h | h | h | h
  · have h3:=allBefore_listed hc hj bef h1 i h
    have h4:=(mem_ready.1 hi).1
    rw [getD_tt h3] at h4;cases h4
  · exact h
  · exact absurd hi (allAfter_not hc (getD_tf (mem_ready.1 hj).1) aft [] (fun m hm=>by cases hm) h2 i h)
  · exact absurd h hu
def isPure:Tag->Bool
  | .pure=>true
  | _=>false
def heeds (l:List (Nat×Tag)):List Nat:=(l.filter fun p=>!isPure p.2).map (·.1)
def heedless (l:List (Nat×Tag)):List Nat:=(l.filter fun p=>isPure p.2).map (·.1)
def anc (ops:Array Oper) (j:Nat):List Nat->List Nat
  | []=>[]
  | k::rest=>if waits ops j k||(anc ops j rest).any fun m=>waits ops m k then k::anc ops j rest else anc ops j rest
def desc (ops:Array Oper) (j:Nat) (met:List Nat):List Nat->List Nat
  | []=>[]
  | k::rest=>if waits ops k j||met.any fun m=>waits ops k m then k::desc ops j (k::met) rest else desc ops j met rest
def sinkB (ops:Array Oper) (U:List Nat) (j:Nat) (bef aft:List Nat):Bool :=
  allBefore ops j (anc ops j bef)&&allAfter ops j [] (desc ops j [] aft) &&
  ((List.range ops.size).all fun k=>(anc ops j bef).contains k||k == j||(desc ops j [] aft).contains k||U.contains k)
def orderFrom (ops:Array Oper) (U:List Nat) (bef:List Nat):List (Nat×Tag)->Array Bool->Bool
  | [],listed=>(Region.ready .any ops listed).isEmpty
  | (i,.pure)::rest,listed=>U.contains i&&(Region.ready .any ops listed).contains i&&Region.free .any ops listed i&&orderFrom ops U (bef++[i]) rest (listed.setIfInBounds i true)
  | (i,.quiet)::rest,listed=>!U.contains i&&(Region.ready .any ops listed).contains i&&Region.free .any ops listed i&&orderFrom ops U (bef++[i]) rest (listed.setIfInBounds i true)
  | (i,.keep)::rest,listed=>(Region.ready .any ops listed == [i])&&orderFrom ops U (bef++[i]) rest (listed.setIfInBounds i true)
  | (i,.sink)::rest,listed=>(Region.ready .any ops listed == [i])&&sinkB ops U i bef (rest.map (·.1))&&orderFrom ops U (bef++[i]) rest (listed.setIfInBounds i true)
  | (_,.free)::_,_=>false
def orderOk (ops:Array Oper) (l:List (Nat×Tag)):Bool :=
  Region.noSelect ops&&(l.length == ops.size)&&(l.all fun p=>decide (p.1<ops.size))&&orderFrom ops (heedless l) [] l (Array.replicate ops.size false)
def itemsOf (ops:Array Oper) (l:List (Nat×Tag)):List Item :=
  l.filterMap fun (i,t)=>(ops[i]?).map fun o=>⟨t,slotOf ops o,o⟩
theorem run_order (hs:Region.noSelect ops=true):∀ (l:List (Nat×Tag)) (bef:List Nat) (listed:Array Bool) (a:Act) (E S:World->Prop),Closed ops listed->(∀ x,S x->E x) ->
    (∀ p∈l,p.1<ops.size)->orderFrom ops U bef l listed=true->RunT P Q (itemsOf ops l) E S a->wpAnyC P ops U Q l.length listed a E S
  | [],_,_,_,_,_,_,_,_,hB,h=>⟨by simpa [orderFrom] using hB,h⟩
  | (i,t)::l,bef,listed,a,E,S,hc,hES,hlt,hB,h=>by
    have hi:i<ops.size:=hlt (i,t) (List.mem_cons_self ..)
    have h0:ops[i]?=some ops[i]:=Array.getElem?_eq_getElem hi
    have hlt':∀ p∈l,p.1<ops.size:=fun p hp=>hlt p (List.mem_cons_of_mem _ hp)
    simp only [itemsOf,List.filterMap_cons,h0,Option.map_some] at h
    simp only [RunT,wantedS_slotOf] at h
    cases t with
    | free=>simp [orderFrom] at hB
    | pure =>
      simp only [orderFrom,Bool.and_eq_true] at hB
      obtain ⟨⟨⟨hU,hr⟩,hf⟩,hB'⟩:=hB
      have hr':i∈Region.ready .any ops listed:=by simpa using hr
      by_cases hw:Region.wanted ops[i] (yielded ops a.tmps)=true
      · rw [if_pos hw] at h
        obtain ⟨v,hv,hrest⟩:=h
        exact wpAnyC_first h0 (Region.noSelect_spec hs) l.length listed a E S hc hES (Region.free_spec h0 hf) hr' ⟨.inl ⟨hw,fun w _=>hv w⟩,fun _=>.inl ⟨hw,fun w _=>hv w⟩⟩
          (run_order hs l (bef++[i]) _ _ E S (hc.set hr') hES hlt' hB' hrest)
      · rw [if_neg hw] at h
        have hw':Region.wanted ops[i] (yielded ops a.tmps)=false:=by simpa using hw
        exact wpAnyC_first h0 (Region.noSelect_spec hs) l.length listed a E S hc hES (Region.free_spec h0 hf) hr' ⟨.inr ⟨hw',rfl⟩,fun _=>.inr ⟨hw',rfl⟩⟩
          (run_order hs l (bef++[i]) _ _ E S (hc.set hr') hES hlt' hB' h)
    | quiet =>
      simp only [orderFrom,Bool.and_eq_true,Bool.not_eq_true'] at hB
      obtain ⟨⟨⟨hU,hr⟩,hf⟩,hB'⟩:=hB
      have hr':i∈Region.ready .any ops listed:=by simpa using hr
      have hU':i∉U:=by simpa using hU
      by_cases hw:Region.wanted ops[i] (yielded ops a.tmps)=true
      · rw [if_pos hw] at h
        obtain ⟨v,hv,hrest⟩:=h
        exact wpAnyC_first h0 (Region.noSelect_spec hs) l.length listed a E S hc hES (Region.free_spec h0 hf) hr' ⟨.inl ⟨hw,hv⟩,fun hu=>absurd hu hU'⟩
          (run_order hs l (bef++[i]) _ _ E S (hc.set hr') hES hlt' hB' hrest)
      · rw [if_neg hw] at h
        exact wpAnyC_first h0 (Region.noSelect_spec hs) l.length listed a E S hc hES (Region.free_spec h0 hf) hr' ⟨.inr ⟨by simpa using hw,rfl⟩,fun hu=>absurd hu hU'⟩
          (run_order hs l (bef++[i]) _ _ E S (hc.set hr') hES hlt' hB' h)
    | keep =>
      simp only [orderFrom,Bool.and_eq_true,beq_iff_eq] at hB
      obtain ⟨hr,hB'⟩:=hB
      have hr':i∈Region.ready .any ops listed:=by rw [hr];exact List.mem_cons_self ..
      refine ⟨fun h0=>(by rw [h0] at hr;cases hr),fun j hj=>?_⟩
      rw [hr] at hj
      have hji:j=i:=by simpa using hj
      subst hji
      unfold stepC
      simp only [h0]
      split
      · rename_i hw
        rw [if_pos hw] at h
        exact fun w hS=>wq_mono (fun a' w' ⟨E',S',h1,h2,h3,h4⟩=>⟨E',S',h1,h2,.inl h3,run_order hs l _ _ a' E' S' (hc.set hr') h2 hlt' hB' h4⟩) (h w hS)
      · rename_i hw
        rw [if_neg hw] at h
        exact run_order hs l _ _ _ E S (hc.set hr') hES hlt' hB' h
    | sink =>
      simp only [orderFrom,Bool.and_eq_true,beq_iff_eq] at hB
      obtain ⟨⟨hr,hb⟩,hB'⟩:=hB
      simp only [sinkB,Bool.and_eq_true] at hb
      obtain ⟨⟨hb1,hb2⟩,hall⟩:=hb
      have hr':i∈Region.ready .any ops listed:=by rw [hr];exact List.mem_cons_self ..
      have hsink:Sink ops U i:=sink_of hb1 hb2 fun k hk=>by
        have:=List.all_eq_true.1 hall k (List.mem_range.2 hk)
        rw [Bool.or_eq_true,Bool.or_eq_true,Bool.or_eq_true,beq_iff_eq,List.contains_iff_mem,List.contains_iff_mem,List.contains_iff_mem] at this
        rcases this with ((h | h) | h) | h
        · exact .inl h
        · exact .inr (.inl h)
        · exact .inr (.inr (.inl h))
        · exact .inr (.inr (.inr h))
      refine ⟨fun h0=>(by rw [h0] at hr;cases hr),fun j hj=>?_⟩
      rw [hr] at hj
      have hji:j=i:=by simpa using hj
      subst hji
      unfold stepC
      simp only [h0]
      split
      · rename_i hw
        rw [if_pos hw] at h
        exact fun w hS=>wq_mono (fun a' w' ⟨E',S',h1,h2,h4⟩=>⟨E',S',h1,h2,.inr hsink,run_order hs l _ _ a' E' S' (hc.set hr') h2 hlt' hB' h4⟩) (h w hS)
      · rename_i hw
        rw [if_neg hw] at h
        exact run_order hs l _ _ _ E S (hc.set hr') hES hlt' hB' h
theorem wp_of_order {rd:Option Nat} {id:Nat} {a:Act} {w:World} {E S:World->Prop} (l:List (Nat×Tag)) (hm:P.follows .mixedOrders=true) (hB:orderOk ops l=true) (hd:okRd rd ops=true) (hES:∀ x,S x->E x)
    (hS:S { w with drawn:=w.drawn+1 }) (h:RunT P Q (itemsOf ops l) E S a):wpR rd P (.region id ops true) Q a w:=by
  simp only [orderOk,Bool.and_eq_true,beq_iff_eq] at hB
  obtain ⟨⟨⟨hs,hl⟩,hlt⟩,hB⟩:=hB
  refine wpIn_region_any hm ?_
  have hc:Closed ops (Array.replicate ops.size false):=⟨by simp,fun j oj _ hl=>by
    exfalso
    rcases Nat.lt_or_ge j ops.size with h | h
    · simp [h] at hl
    · simp [h] at hl⟩
  have:=run_order (P:=P) (Q:=Q) hs l [] _ a E S hc hES (fun p hp=>by simpa using List.all_eq_true.1 hlt p hp) hB h
  rw [<-hl]
  exact wpAnyIn_of_C (okRd_mem hd) _ _ _ E S _ hS (by rw [<-hl] at this;exact this)
end
end Go.Sy
/- A region's operations on data at hand are reckoned by a function; what it reckons is what the model does. No program in sight. -/
namespace Go.Sy
inductive PT where
  | loc (i off:Nat)
  | val (x:Value)
inductive AT where
  | v (x:Value)
  | b (x:Bool)
  | tt | ff
  | p (h off:Nat)
  | sl (h len:Nat)
  | fn (f:Fn) (c:List PT)
inductive S1 where
  | a (x:AT)
  | agg (cs:List AT)
inductive SV where
  | a (x:AT)
  | agg (cs:List AT)
  | tup (vs:List S1)
def PT.den (β:Nat->Addr):PT->Value
  | .loc i off=>.pointer (some ((β i).add off))
  | .val x=>x
def AT.den (β:Nat->Addr):AT->Value
  | .v x=>x
  | .b x=>.bool x
  | .tt=>.bool true
  | .ff=>.bool false
  | .p h off=>.pointer (some ((β h).add off))
  | .sl h len=>.slice (some (β h)) len len
  | .fn f c=>.func f #[] (c.map (PT.den β)).toArray
def S1.den (β:Nat->Addr):S1->Value
  | .a x=>x.den β
  | .agg cs=>.agg (cs.map (AT.den β)).toArray
def SV.den (β:Nat->Addr):SV->Value
  | .a x=>x.den β
  | .agg cs=>.agg (cs.map (AT.den β)).toArray
  | .tup vs=>.tuple (vs.map (S1.den β)).toArray
def PT.lt (n:Nat):PT->Prop
  | .loc i _=>i<n
  | .val _=>True
def AT.lt (n:Nat):AT->Prop
  | .p h _=>h<n
  | .sl h _=>h<n
  | .fn _ c=>∀ x∈c,x.lt n
  | _=>True
def S1.lt (n:Nat):S1->Prop
  | .a x=>x.lt n
  | .agg cs=>∀ x∈cs,x.lt n
def SV.lt (n:Nat):SV->Prop
  | .a x=>x.lt n
  | .agg cs=>∀ x∈cs,x.lt n
  | .tup vs=>∀ x∈vs,x.lt n
theorem PT.lt_mono {n m:Nat} (h:n<=m):∀ {x:PT},x.lt n->x.lt m
  | .loc _ _,hx=>Nat.lt_of_lt_of_le hx h
  | .val _,_=>trivial
theorem AT.lt_mono {n m:Nat} (h:n<=m):∀ {x:AT},x.lt n->x.lt m
  | .v _,_ | .b _,_ | .tt,_ | .ff,_=>trivial
  | .p _ _,hx=>Nat.lt_of_lt_of_le hx h
  | .sl _ _,hx=>Nat.lt_of_lt_of_le hx h
  | .fn _ _,hx=>fun x hm=>PT.lt_mono h (hx x hm)
theorem S1.lt_mono {n m:Nat} (h:n<=m):∀ {x:S1},x.lt n->x.lt m
  | .a _,hx=>AT.lt_mono h hx
  | .agg _,hx=>fun x hm=>AT.lt_mono h (hx x hm)
theorem SV.lt_mono {n m:Nat} (h:n<=m):∀ {x:SV},x.lt n->x.lt m
  | .a _,hx=>AT.lt_mono h hx
  | .agg _,hx=>fun x hm=>AT.lt_mono h (hx x hm)
  | .tup _,hx=>fun x hm=>S1.lt_mono h (hx x hm)
section
variable {β β':Nat->Addr} {n:Nat} (h:∀ i,i<n->β' i=β i)
include h
theorem PT.den_congr:∀ {x:PT},x.lt n->x.den β'=x.den β
  | .loc i _,hx=>by simp only [PT.den,h i hx]
  | .val _,_=>rfl
theorem AT.den_congr:∀ {x:AT},x.lt n->x.den β'=x.den β
  | .v _,_ | .b _,_ | .tt,_ | .ff,_=>rfl
  | .p i _,hx=>by simp only [AT.den,h i hx]
  | .sl i _,hx=>by simp only [AT.den,h i hx]
  | .fn _ c,hx=>by simp only [AT.den];rw [List.map_congr_left fun x hm=>PT.den_congr h (hx x hm)]
theorem AT.denL_congr {l:List AT} (hl:∀ x∈l,x.lt n):l.map (AT.den β')=l.map (AT.den β):=List.map_congr_left fun x hm=>AT.den_congr h (hl x hm)
theorem S1.den_congr:∀ {x:S1},x.lt n->x.den β'=x.den β
  | .a _,hx=>AT.den_congr h hx
  | .agg _,hx=>by simp only [S1.den,AT.denL_congr h hx]
theorem SV.den_congr:∀ {x:SV},x.lt n->x.den β'=x.den β
  | .a _,hx=>AT.den_congr h hx
  | .agg _,hx=>by simp only [SV.den,AT.denL_congr h hx]
  | .tup vs,hx=>by simp only [SV.den];rw [List.map_congr_left fun x hm=>S1.den_congr h (hx x hm)]
end
def AT.one:AT->Bool
  | .v x=>x.oneCell'
  | _=>true
theorem AT.one_den {x:AT} (β:Nat->Addr) (h:x.one=true):(x.den β).oneCell'=true:=by
  cases x<;>first | exact h | rfl
theorem beq_ne {i j:Nat} (h:i≠j):Nat.beq i j=false:=by
  cases hb:Nat.beq i j with
  | false=>rfl
  | true=>exact absurd (Nat.eq_of_beq_eq_true hb) h
abbrev Env:=List (Nat×SV)
def Env.get:Env->Nat->Option SV
  | [],_=>none
  | (j,x)::l,i=>bif Nat.beq j i then some x else Env.get l i
inductive HK where
  | loc (e:TypeId)
  | ro
abbrev HP:=List (Nat×HK×List AT)
def HP.get:HP->Nat->Option (HK×List AT)
  | [],_=>none
  | (j,k,cs)::l,i=>bif Nat.beq j i then some (k,cs) else HP.get l i
theorem Env.get_cons (j i:Nat) (x:SV) (l:Env):Env.get ((j,x)::l) i=if j=i then some x else Env.get l i:=by
  simp only [Env.get]
  by_cases h:j=i
  · subst h;simp
  · rw [if_neg h,beq_ne h];rfl
theorem HP.get_cons (j i:Nat) (k:HK) (cs:List AT) (l:HP):HP.get ((j,k,cs)::l) i=if j=i then some (k,cs) else HP.get l i:=by
  simp only [HP.get]
  by_cases h:j=i
  · subst h;simp
  · rw [if_neg h,beq_ne h];rfl
def svOf:Value->SV
  | .bool true=>.a .tt
  | .bool false=>.a .ff
  | .agg cs=>.agg (cs.toList.map AT.v)
  | x=>.a (.v x)
theorem svOf_den (β:Nat->Addr) (x:Value):(svOf x).den β=x:=by
  unfold svOf
  split
  · rfl
  · rfl
  · rename_i cs
    simp [SV.den,AT.den,Function.comp_def]
  · rfl
theorem svOf_lt (x:Value) (n:Nat):(svOf x).lt n:=by
  unfold svOf
  split
  · trivial
  · trivial
  · intro x hx;obtain ⟨y,_,rfl⟩:=List.mem_map.1 hx;trivial
  · trivial
def evalO (env:Env):Operand->Option SV
  | .tmp t=>env.get t
  | .const v=>some (svOf v)
  | .global g=>some (.a (.v (.pointer (some ⟨g,0,none⟩))))
  | .func f=>some (.a (.fn (.func f) []))
inductive TK where
  | bool | int (k:IntKind) | str | slice (e:Nat) | struct | ptr (e:Nat) | map (k e:Nat) | iface | func | array (n e:Nat) | other
structure TI where
  size:Nat
  agg:Bool
  zero:List AT
  fields:List (Nat×Nat×Option Bool)
  kind:TK
  bytes:Nat
def atOf:Value->AT
  | .bool true=>.tt
  | .bool false=>.ff
  | x=>.v x
theorem atOf_den (β:Nat->Addr) (x:Value):(atOf x).den β=x:=by unfold atOf;split<;>rfl
theorem atOf_lt (x:Value) (n:Nat):(atOf x).lt n:=by unfold atOf;split<;>trivial
def aggD:TypeDesc->Bool
  | .struct _ | .array _ _=>true
  | _=>false
def kindD:TypeDesc->TK
  | .bool=>.bool
  | .int k=>.int k
  | .string=>.str
  | .slice e=>.slice e
  | .struct _=>.struct
  | .pointer e=>.ptr e
  | .map k e=>.map k e
  | .interface _=>.iface
  | .func _ _ _=>.func
  | .array n e=>.array n e
  | _=>.other
def tiOf (P:Program) (t:TypeId):Option TI :=
  match P.info? t,P.underlying t with
  | some i,some d =>
    match i.zero with
    | some z=>some { size:=i.size,agg:=aggD d,zero:=z.cells.toList.map atOf,fields:=(match d with | .struct fs=>fs.toList.map fun f=>(f.offset,P.cellsOf f.type,(P.underlying f.type).map aggD) | _=>[]),kind:=kindD d,bytes:=i.bytes }
    | none=>none
  | _,_=>none
def tget:List (Nat×TI)->Nat->Option TI
  | [],_=>none
  | (j,x)::l,i=>bif Nat.beq j i then some x else tget l i
def TTok (P:Program) (T:List (Nat×TI)):Prop:=∀ t ti,tget T t=some ti->tiOf P t=some ti
theorem TTok.nil (P:Program):TTok P []:=fun _ _ h=>by cases h
theorem TTok.cons {P:Program} {T:List (Nat×TI)} {t:Nat} {ti:TI} (h:tiOf P t=some ti) (hT:TTok P T):TTok P ((t,ti)::T):=by
  intro u tu hu
  simp only [tget] at hu
  by_cases e:t=u
  · subst e;simp at hu;subst hu;exact h
  · rw [beq_ne e] at hu;exact hT u tu hu
structure TI.Of (P:Program) (t:TypeId) (ti:TI) (i:TypeInfo) (d:TypeDesc) (z:Value):Prop where
  info:P.info? t=some i
  und:P.underlying t=some d
  zero:i.zero=some z
  size:i.size=ti.size
  agg:aggD d=ti.agg
  zcells:z.cells.toList.map atOf=ti.zero
  fields:(match d with | .struct fs=>fs.toList.map fun f=>(f.offset,P.cellsOf f.type,(P.underlying f.type).map aggD) | _=>[])=ti.fields
  kind:kindD d=ti.kind
  bytes:i.bytes=ti.bytes
theorem tiOf_spec {P:Program} {t:TypeId} {ti:TI} (h:tiOf P t=some ti):∃ i d z,TI.Of P t ti i d z:=by
  unfold tiOf at h
  split at h
  · rename_i i d hi hd
    split at h
    · rename_i z hz
      injection h with h
      subst h
      exact ⟨i,d,z,{ info:=hi,und:=hd,zero:=hz,size:=rfl,agg:=rfl,zcells:=rfl,fields:=by cases d<;>rfl,kind:=rfl,bytes:=rfl }⟩
    · cases h
  · cases h
inductive Eff where
  | val (x:SV)
  | new (e:TypeId) (cs:List AT) (x:AT)
  | put (h:Nat) (e:TypeId) (cs:List AT)
def SV.cells:SV->Option (List AT)
  | .a x=>bif x.one then some [x] else none
  | .agg cs=>some cs
  | .tup _=>none
def lay:List AT->Nat->List AT->Option (List AT)
  | cs,0,[]=>some cs
  | [],0,_::_=>none
  | _::cs,0,n::ns=>(lay cs 0 ns).map (n::·)
  | [],_+1,_=>none
  | c::cs,off+1,ns=>(lay cs off ns).map (c::·)
def takeAt:List AT->Nat->Nat->Option (List AT)
  | _,0,0=>some []
  | [],0,_+1=>none
  | c::cs,0,n+1=>(takeAt cs 0 n).map (c::·)
  | [],_+1,_=>none
  | _::cs,off+1,n=>takeAt cs off n
def nthAt:List AT->Nat->Option AT
  | [],_=>none
  | c::_,0=>some c
  | _::cs,n+1=>nthAt cs n
def nthF:List (Nat×Nat×Option Bool)->Nat->Option (Nat×Nat×Option Bool)
  | [],_=>none
  | c::_,0=>some c
  | _::cs,n+1=>nthF cs n
def nthS:List S1->Nat->Option S1
  | [],_=>none
  | c::_,0=>some c
  | _::cs,n+1=>nthS cs n
def S1.sv:S1->SV
  | .a x=>.a x
  | .agg cs=>.agg cs
def boolOf:AT->Option Bool
  | .tt=>some true
  | .ff=>some false
  | .b x=>some x
  | _=>none
def pickB (c:Bool):AT->AT->Option AT
  | .tt,.b y=>some (.b (c||y))
  | .tt,.ff=>some (.b c)
  | .ff,.tt=>some (.b (!c))
  | .b x,.ff=>some (.b (c&&x))
  | .b x,.b y=>some (.b (bif c then x else y))
  | .b x,.tt=>some (.b (!c||x))
  | .ff,.b y=>some (.b (!c&&y))
  | .tt,.tt=>some .tt
  | .ff,.ff=>some .ff
  | _,_=>none
def kindEq:IntKind->IntKind->Bool
  | .i8,.i8 | .i16,.i16 | .i32,.i32 | .i64,.i64 | .u8,.u8 | .u16,.u16 | .u32,.u32 | .u64,.u64=>true
  | _,_=>false
theorem kindEq_eq {j k:IntKind} (h:kindEq j k=true):j=k:=by cases j<;>cases k<;>first | rfl | cases h
def cmpI:BinOp->Int->Int->Option Bool
  | .eql,a,b=>some (decide (a=b))
  | .neq,a,b=>some (!decide (a=b))
  | .lss,a,b=>some (decide (a<b))
  | .leq,a,b=>some (decide (a<=b))
  | .gtr,a,b=>some (decide (b<a))
  | .geq,a,b=>some (decide (b<=a))
  | _,_,_=>none
def cmpS:BinOp->ByteArray->ByteArray->Option Bool
  | .eql,a,b=>some (decide (a=b))
  | .neq,a,b=>some (!decide (a=b))
  | .lss,a,b=>some (Op.bytesLess a.toList b.toList)
  | _,_,_=>none
def cmpB:BinOp->Bool->Bool->Option Bool
  | .eql,a,b=>some (a == b)
  | .neq,a,b=>some (a != b)
  | _,_,_=>none
def isBoolK:TK->Bool
  | .bool=>true
  | _=>false
def binA (op:BinOp):AT->AT->Option Bool
  | .v (.int j a),.v (.int k b)=>bif kindEq j k then cmpI op a b else none
  | .v (.string a),.v (.string b)=>cmpS op a b
  | _,_=>none
def isStrK:TK->Bool
  | .str=>true
  | _=>false
def isIfaceK:TK->Bool
  | .iface=>true
  | _=>false
def ptsOf (env:Env):List Operand->Option (List PT)
  | []=>some []
  | x::xs =>
    match evalO env x with
    | some (.a (.p h o))=>(ptsOf env xs).map (PT.loc h o::·)
    | some (.a (.v y))=>(ptsOf env xs).map (PT.val y::·)
    | _=>none
def fillA (env:Env) (fields:List (Nat×Nat×Option Bool)):List AT->List (Nat×Operand)->Option (List AT)
  | cs,[]=>some cs
  | cs,(i,x)::rest =>
    match nthF fields i,(evalO env x).bind SV.cells with
    | some (off,size,_),some ns =>
      bif Nat.beq ns.length size then (lay cs off ns).bind fun cs'=>fillA env fields cs' rest else none
    | _,_=>none
def fillS (env:Env) (size:Nat):Nat->List (Nat×Operand)->Option (List AT)
  | _,[]=>some []
  | k,(i,x)::rest =>
    match (evalO env x).bind SV.cells with
    | some ns=>bif Nat.beq i k&&Nat.beq ns.length size then (fillS env size (k+1) rest).map (ns++·) else none
    | none=>none
def lenA:TK->AT->Option Int
  | .slice _,.sl _ n=>some n
  | .slice _,.v (.slice _ n _)=>some n
  | .str,.v (.string s)=>some s.size
  | _,_=>none
def stepOp (T:List (Nat×TI)) (op:Op) (env:Env) (hp:HP) (nh:Nat):Option Eff :=
  match op with
  | .move x | .assign x=>(evalO env x).map .val
  | .pick c a b =>
    match evalO env c with
    | some (.a .tt)=>(evalO env a).map .val
    | some (.a .ff)=>(evalO env b).map .val
    | some (.a (.b c)) =>
      match evalO env a,evalO env b with
      | some (.a x),some (.a y)=>(pickB c x y).map fun z=>.val (.a z)
      | _,_=>none
    | _=>none
  | .alloc t=>(tget T t).map fun ti=>.new t ti.zero (.p nh 0)
  | .box t x=>((evalO env x).bind SV.cells).map fun cs=>.new t cs (.p nh 0)
  | .build t parts =>
    match tget T t with
    | some ti =>
      match ti.kind with
      | .struct=>bif ti.fields.all (fun f=>f.2.2.isSome) then (fillA env ti.fields ti.zero parts.toList).map fun cs=>.val (.agg cs) else none
      | _=>none
    | none=>none
  | .buildSlice t n parts =>
    match tget T t with
    | some ti =>
      match ti.kind with
      | .slice e =>
        match tget T e with
        | some te=>bif Nat.beq parts.toList.length n&&Nat.ble (n*te.size) 16777216 then (fillS env te.size 0 parts.toList).map fun cs=>.new e cs (.sl nh n) else none
        | none=>none
      | _=>none
    | none=>none
  | .load t a =>
    match evalO env a,tget T t with
    | some (.a (.p h off)),some ti =>
      match hp.get h with
      | some (_,cs)=>bif ti.agg then (takeAt cs off ti.size).map fun l=>.val (.agg l) else (nthAt cs off).map fun c=>.val (.a c)
      | none=>none
    | _,_=>none
  | .store t a x =>
    match evalO env a,tget T t,(evalO env x).bind SV.cells with
    | some (.a (.p h off)),some ti,some ns =>
      match hp.get h with
      | some (.loc e,cs)=>bif Nat.beq ns.length ti.size&&ns.all AT.one then (lay cs off ns).map fun l=>.put h e l else none
      | _=>none
    | _,_,_=>none
  | .nilCheck x =>
    match evalO env x with
    | some (.a (.p h o))=>some (.val (.a (.p h o)))
    | some (.a (.v (.pointer (some a))))=>some (.val (.a (.v (.pointer (some a)))))
    | some (.a (.fn (.func f) c))=>some (.val (.a (.fn (.func f) c)))
    | _=>none
  | .binOp op xt x y _ =>
    match evalO env x,evalO env y with
    | some (.a a),some (.a b) =>
      match boolOf a,boolOf b with
      | some p,some q =>
        match tget T xt with
        | some ti=>bif isBoolK ti.kind then (cmpB op p q).map fun r=>.val (.a (.b r)) else none
        | none=>none
      | _,_=>(binA op a b).map fun r=>.val (.a (.b r))
    | _,_=>none
  | .unOp .not _ x =>
    match evalO env x with
    | some (.a .tt)=>some (.val (.a .ff))
    | some (.a .ff)=>some (.val (.a .tt))
    | some (.a (.b c))=>some (.val (.a (.b (!c))))
    | _=>none
  | .fieldAddr t x i =>
    match evalO env x,tget T t with
    | some (.a (.p h off)),some ti =>
      match ti.kind,nthF ti.fields i with
      | .struct,some (o,size,_)=>bif Nat.beq size 0 then none else some (.val (.a (.p h (off+o))))
      | _,_=>none
    | some (.a (.v (.pointer (some ad)))),some ti =>
      match ti.kind,nthF ti.fields i with
      | .struct,some (o,size,_)=>bif Nat.beq size 0 then none else some (.val (.a (.v (.pointer (some (ad.add o))))))
      | _,_=>none
    | _,_=>none
  | .field t x i =>
    match evalO env x,tget T t with
    | some (.agg cs),some ti =>
      match ti.kind,nthF ti.fields i with
      | .struct,some (o,size,some ag)=>bif ag then (takeAt cs o size).map fun l=>.val (.agg l) else (nthAt cs o).map fun c=>.val (.a c)
      | _,_=>none
    | _,_=>none
  | .extract t i =>
    match evalO env t with
    | some (.tup vs)=>(nthS vs i).map fun z=>.val z.sv
    | _=>none
  | .makeInterface t x =>
    match evalO env x,tget T t with
    | some (.a (.v y)),some ti=>bif isIfaceK ti.kind then none else some (.val (.a (.v (.iface t y))))
    | _,_=>none
  | .makeFunc f first captured =>
    match first.toList with
    | []=>(ptsOf env captured.toList).map fun l=>.val (.a (.fn f l))
    | _=>none
  | .convert s d x =>
    match evalO env x,tget T s,tget T d with
    | some (.a (.v (.string y))),some ts,some ti=>bif isStrK ti.kind&&isStrK ts.kind then some (.val (.a (.v (.string y)))) else none
    | _,_,_=>none
  | .call c =>
    match c.callee,c.args.toList,c.argTypes.toList with
    | .builtin .len,[x],[t] =>
      match evalO env x,tget T t with
      | some (.a y),some ti=>(lenA ti.kind y).map fun n=>.val (.a (.v (.int .i64 n)))
      | _,_=>none
    | _,_,_=>none
  | _=>none
end Go.Sy
/- What the reckoning of a region's operations says is what the model does. No program in sight. -/
namespace Go.Sy
abbrev Snap:=Nat->Option Obj
structure Cf where
  P:Program
  w0:World
  σ0:Snap
  M:Nat->Prop
  N:Nat
  ds:List Deferred
  rd:Option Nat
def Snap.cell (σ:Snap) (a:Addr):Option Value :=
  match σ a.block with
  | some (.cells c _ _)=>if a.spot.isSome then none else c[a.off]?
  | _=>none
structure AE where
  ao:Option Addr
  n:Nat
  cap:Nat
  e:TypeId
  sz:Nat
  xs:List Value
def AE.blk (E:AE):Option Nat:=E.ao.map (·.block)
def Own (cf:Cf) (b:Nat):Prop:=cf.w0.heap.size<=b\/cf.M b
def ArrOk (cf:Cf) (σ:Snap) (w:World) (E:AE):Prop :=
  E.xs.length=E.n*E.sz /\
  ((E.ao=none/\E.n=0/\E.cap=0) \/
   ∃ g cur,E.ao=some ⟨g,0,none⟩/\w.heap[g]?=some (.cells cur E.e (0,0))/\E.n<=E.cap/\E.cap<=maxLen/\cur.size=E.cap*E.sz /\
     cur.toList.take (E.n*E.sz)=E.xs/\σ g=none/\Own cf g)
structure StW (cf:Cf) (σ:Snap) (hp:HP) (A:List AE) (β:Nat->Addr) (w:World):Prop where
  os:w.os=cf.w0.os
  tape:w.tape=cf.w0.tape
  output:w.output=cf.w0.output
  size:cf.w0.heap.size<=w.heap.size
  fr:∀ b,b<cf.w0.heap.size->¬ cf.M b->w.heap[b]?=cf.w0.heap[b]?
  sealed:∀ b o,σ b=some o->w.heap[b]?=some o
  le:∀ b o,cf.σ0 b=some o->σ b=some o
  grow:∀ b,σ b≠none->cf.σ0 b≠none\/Own cf b
  loc:∀ i e cs,hp.get i=some (.loc e,cs)->β i=⟨(β i).block,0,none⟩/\w.heap[(β i).block]?=some (.cells (cs.map (AT.den β)).toArray e (0,0)) /\
    σ (β i).block=none/\Own cf (β i).block
  ro:∀ i cs,hp.get i=some (.ro,cs)->∀ j c,cs[j]?=some c->σ.cell ((β i).add j)=some (c.den β)
  inj:∀ i j e e' cs cs',hp.get i=some (.loc e,cs)->hp.get j=some (.loc e',cs')->(β i).block=(β j).block->i=j
  arr:∀ (i:Nat) E,A[i]?=some E->ArrOk cf σ w E
  arrd:∀ (i j:Nat) E F,A[i]?=some E->A[j]?=some F->i≠j->∀ g,E.blk=some g->F.blk≠some g
  arrh:∀ (i:Nat) j E e cs,A[i]?=some E->hp.get j=some (.loc e,cs)->E.blk≠some (β j).block
structure StA (cf:Cf) (env:Env) (β:Nat->Addr) (a:Act):Prop where
  size:a.tmps.size=cf.N
  defers:a.defers=cf.ds
  env:∀ i x,env.get i=some x->a.tmps[i]?=some (x.den β)
structure Bd (env:Env) (hp:HP) (nh:Nat):Prop where
  env:∀ i x,env.get i=some x->x.lt nh
  hp:∀ i k cs,hp.get i=some (k,cs)->i<nh/\∀ c∈cs,c.lt nh
theorem Snap.cell_sealed {cf:Cf} {σ:Snap} {hp:HP} {A:List AE} {β:Nat->Addr} {w:World} (h:StW cf σ hp A β w) {a:Addr} {v:Value} (hv:σ.cell a=some v):w.cell? a=some v:=by
  unfold Snap.cell at hv
  unfold World.cell?
  split at hv
  · rename_i c e f hc
    rw [h.sealed _ _ hc]
    exact hv
  · cases hv
theorem add0 (g n:Nat):(⟨g,0,none⟩:Addr).add n=⟨g,n,none⟩:=by rw [Addr.add_lit,Nat.zero_add]
theorem StW.cell {cf:Cf} {σ:Snap} {hp:HP} {A:List AE} {β:Nat->Addr} {w:World} (h:StW cf σ hp A β w) {i:Nat} {k:HK} {cs:List AT} (hi:hp.get i=some (k,cs))
    {j:Nat} {c:AT} (hj:cs[j]?=some c):w.cell? ((β i).add j)=some (c.den β):=by
  cases k with
  | loc e =>
    obtain ⟨h1,h2,_⟩:=h.loc i e cs hi
    rw [h1,add0,cell_of_row w _ j _ e (0,0) h2]
    simp [hj]
  | ro=>exact Snap.cell_sealed h (h.ro i cs hi j c hj)
theorem evalO_eval {cf:Cf} {env:Env} {β:Nat->Addr} {a:Act} (ha:StA cf env β a) {x:Operand} {y:SV} (h:evalO env x=some y):a.eval x=y.den β:=by
  cases x with
  | tmp t =>
    have:=ha.env t y h
    simp only [Act.eval]
    rw [Array.getD_eq_getD_getElem?,this]
    rfl
  | const v=>simp only [evalO,Option.some.injEq] at h;subst h;exact (svOf_den β v).symm
  | global g=>simp only [evalO,Option.some.injEq] at h;subst h;rfl
  | func f=>simp only [evalO,Option.some.injEq] at h;subst h;rfl
theorem evalO_lt {env:Env} {hp:HP} {nh:Nat} (hb:Bd env hp nh) {x:Operand} {y:SV} (h:evalO env x=some y):y.lt nh:=by
  cases x with
  | tmp t=>exact hb.env t y h
  | const v=>simp only [evalO,Option.some.injEq] at h;subst h;exact svOf_lt v nh
  | global g=>simp only [evalO,Option.some.injEq] at h;subst h;trivial
  | func f=>simp only [evalO,Option.some.injEq] at h;subst h;intro x hx;cases hx
theorem nthAt_eq:∀ (cs:List AT) (n:Nat),nthAt cs n=cs[n]?
  | [],n=>by simp [nthAt]
  | _::_,0=>rfl
  | _::cs,n+1=>by simp [nthAt,nthAt_eq cs n]
theorem nthF_eq:∀ (cs:List (Nat×Nat×Option Bool)) (n:Nat),nthF cs n=cs[n]?
  | [],n=>by simp [nthF]
  | _::_,0=>rfl
  | _::cs,n+1=>by simp [nthF,nthF_eq cs n]
theorem nthS_eq:∀ (cs:List S1) (n:Nat),nthS cs n=cs[n]?
  | [],n=>by simp [nthS]
  | _::_,0=>rfl
  | _::cs,n+1=>by simp [nthS,nthS_eq cs n]
theorem takeAt_spec:∀ (cs:List AT) (off n:Nat) (l:List AT),takeAt cs off n=some l->l=(cs.drop off).take n/\l.length=n
  | cs,0,0,l,h=>by
    have:l=[]:=by cases cs<;>simp [takeAt] at h<;>exact h
    subst this;simp
  | [],0,_+1,_,h=>by simp [takeAt] at h
  | c::cs,0,n+1,l,h=>by
    simp only [takeAt] at h
    cases h1:takeAt cs 0 n with
    | none=>rw [h1] at h;cases h
    | some m =>
      rw [h1] at h
      injection h with h
      subst h
      obtain ⟨h2,h3⟩:=takeAt_spec cs 0 n m h1
      simp only [List.drop_zero] at h2 ⊢
      exact ⟨by rw [List.take_succ_cons,<-h2],by simp [h3]⟩
  | [],_+1,n,l,h=>by simp [takeAt] at h
  | c::cs,off+1,n,l,h=>by
    simp only [takeAt] at h
    have:=takeAt_spec cs off n l h
    simpa using this
theorem lay_spec:∀ (cs:List AT) (off:Nat) (ns l:List AT),lay cs off ns=some l->off+ns.length<=cs.length/\l=cs.take off++ns++cs.drop (off+ns.length)
  | cs,0,[],l,h=>by
    have:cs=l:=by cases cs<;>(simp only [lay] at h;injection h)
    subst this;simp
  | [],0,_::_,l,h=>by simp [lay] at h
  | c::cs,0,n::ns,l,h=>by
    simp only [lay] at h
    cases h1:lay cs 0 ns with
    | none=>rw [h1] at h;cases h
    | some m =>
      rw [h1] at h
      injection h with h
      subst h
      obtain ⟨h2,h3⟩:=lay_spec cs 0 ns m h1
      refine ⟨by simp at h2 ⊢;omega,?_⟩
      simp at h3
      simp [h3]
  | [],_+1,_,l,h=>by simp [lay] at h
  | c::cs,off+1,ns,l,h=>by
    simp only [lay] at h
    cases h1:lay cs off ns with
    | none=>rw [h1] at h;cases h
    | some m =>
      rw [h1] at h
      injection h with h
      subst h
      obtain ⟨h2,h3⟩:=lay_spec cs off ns m h1
      refine ⟨by simp;omega,?_⟩
      rw [h3]
      have:off+1+ns.length=(off+ns.length)+1:=by omega
      simp [this]
theorem lay_lt {n:Nat} {cs ns l:List AT} {off:Nat} (h:lay cs off ns=some l) (h1:∀ c∈cs,c.lt n) (h2:∀ c∈ns,c.lt n):∀ c∈l,c.lt n:=by
  obtain ⟨_,rfl⟩:=lay_spec cs off ns l h
  intro c hc
  simp only [List.mem_append] at hc
  rcases hc with (hc | hc) | hc
  · exact h1 c (List.mem_of_mem_take hc)
  · exact h2 c hc
  · exact h1 c (List.mem_of_mem_drop hc)
theorem takeAt_lt {n k:Nat} {cs l:List AT} {off:Nat} (h:takeAt cs off k=some l) (h1:∀ c∈cs,c.lt n):∀ c∈l,c.lt n:=by
  obtain ⟨rfl,_⟩:=takeAt_spec cs off k l h
  exact fun c hc=>h1 c (List.mem_of_mem_drop (List.mem_of_mem_take hc))
theorem cells_den {β:Nat->Addr} {x:SV} {cs:List AT} (h:x.cells=some cs):(x.den β).cells=(cs.map (AT.den β)).toArray:=by
  cases x with
  | a y =>
    simp only [SV.cells] at h
    cases hy:y.one with
    | false=>rw [hy] at h;cases h
    | true =>
      rw [hy] at h
      injection h with h
      subst h
      have:=AT.one_den β hy
      simp only [SV.den,List.map_cons,List.map_nil]
      unfold Value.cells
      split
      · rename_i c hc
        rw [hc] at this;cases this
      · rfl
  | agg l=>simp only [SV.cells,Option.some.injEq] at h;subst h;rfl
  | tup vs=>cases h
theorem cells_lt {n:Nat} {x:SV} {cs:List AT} (h:x.cells=some cs) (hx:x.lt n):∀ c∈cs,c.lt n:=by
  cases x with
  | a y =>
    simp only [SV.cells] at h
    cases hy:y.one with
    | false=>rw [hy] at h;cases h
    | true =>
      rw [hy] at h
      injection h with h
      subst h
      intro c hc
      cases hc with
      | head=>exact hx
      | tail _ hc=>cases hc
  | agg l=>simp only [SV.cells,Option.some.injEq] at h;subst h;exact hx
  | tup vs=>cases h
section
variable {P:Program} {t:TypeId} {ti:TI} {i:TypeInfo} {d:TypeDesc} {z:Value}
theorem run_tinfo (h:P.info? t=some i) (w:World):(typeInfo t).run P w=.ok i w:=by
  simp [typeInfo,h]
theorem run_isAgg (h:P.underlying t=some d) (w:World):(isAgg t).run P w=.ok (aggD d) w:=by
  simp only [isAgg,Sem.run_bind,run_underlying h,Result.andThen_ok]
  cases d<;>rfl
theorem run_size (h:P.info? t=some i) (w:World):(sizeOf t).run P w=.ok i.size w:=by
  simp [sizeOf,run_tinfo h]
theorem run_zero (h:P.info? t=some i) (hz:i.zero=some z) (w:World):(zeroValue t).run P w=.ok z w:=by
  simp [zeroValue,run_tinfo h,hz]
theorem run_sizeB {n:Nat} (h:P.cellsOf t=n) (hd:P.underlying t=some d) (w:World):(sizeOf t).run P w=.ok n w:=by
  cases hi:P.info? t with
  | none=>simp [Program.underlying,hi] at hd
  | some i=>simp only [Program.cellsOf,hi,Option.map_some,Option.getD_some] at h;rw [run_size hi,h]
end
def upd (β:Nat->Addr) (nh:Nat) (w:World):Nat->Addr:=fun i=>if i=nh then ⟨w.heap.size,0,none⟩ else β i
theorem upd_old (β:Nat->Addr) (nh:Nat) (w:World):∀ i,i<nh->upd β nh w i=β i:=fun i h=>by
  unfold upd;rw [if_neg (by omega)]
def isLoad:Op->Bool
  | .load _ _=>true
  | _=>false
def EffOk (cf:Cf) (o:Oper) (a:Act) (hp:HP) (nh:Nat) (β:Nat->Addr):Eff->Prop
  | .val x=>x.lt nh/\∀ w,(isLoad o.op=true->∃ σ A,StW cf σ hp A β w)->(execOp a.eval o).run cf.P w=.ok (.value (x.den β)) w
  | .new e cs x=>(∀ c∈cs,c.lt nh)/\(x=.p nh 0\/∃ n,x=.sl nh n) /\
      ∀ w,(execOp a.eval o).run cf.P w=.ok (.value (x.den (upd β nh w))) (w.alloc (.cells (cs.map (AT.den β)).toArray e))
  | .put i e cs=>(∀ c∈cs,c.lt nh)/\(∃ cs0,hp.get i=some (.loc e,cs0)) /\
      ∀ σ A w,StW cf σ hp A β w->(execOp a.eval o).run cf.P w=.ok .skip (w.setRow (β i).block (cs.map (AT.den β)).toArray)
theorem map_some {α β:Type} {f:α->β} {o:Option α} {y:β} (h:o.map f=some y):∃ x,o=some x/\f x=y:=by
  cases o with
  | none=>cases h
  | some x=>exact ⟨x,rfl,by injection h⟩
theorem bind_some {α β:Type} {f:α->Option β} {o:Option α} {y:β} (h:o.bind f=some y):∃ x,o=some x/\f x=some y:=by
  cases o with
  | none=>cases h
  | some x=>exact ⟨x,rfl,h⟩
theorem cond_some {α:Type} {b:Bool} {o:Option α} {y:α} (h:(bif b then o else none)=some y):b=true/\o=some y:=by
  cases b with
  | false=>cases h
  | true=>exact ⟨rfl,h⟩
section
variable {cf:Cf} {T:List (Nat×TI)} {env:Env} {hp:HP} {nh:Nat} {β:Nat->Addr} {a:Act} {o:Oper}
variable (hT:TTok cf.P T) (ha:StA cf env β a) (hb:Bd env hp nh)
include ha hb
theorem ok_move {x:Operand} (ho:o.op=.move x) {eff:Eff} (h:(evalO env x).map Eff.val=some eff):EffOk cf o a hp nh β eff:=by
  obtain ⟨y,hy,rfl⟩:=map_some h
  exact ⟨evalO_lt hb hy,fun w _=>by simp only [execOp,ho,evalO_eval ha hy];rfl⟩
theorem ok_assign {x:Operand} (ho:o.op=.assign x) {eff:Eff} (h:(evalO env x).map Eff.val=some eff):EffOk cf o a hp nh β eff:=by
  obtain ⟨y,hy,rfl⟩:=map_some h
  exact ⟨evalO_lt hb hy,fun w _=>by simp only [execOp,ho,evalO_eval ha hy];rfl⟩
omit ha hb in
theorem pickB_ok {c:Bool} {x y z:AT} (h:pickB c x y=some z) (β:Nat->Addr):z.den β=(if c then x.den β else y.den β):=by
  unfold pickB at h
  split at h<;>first
    | (cases h;done)
    | (injection h with h;subst h;cases c<;>simp [AT.den])
omit ha hb in
theorem pickB_lt {c:Bool} {x y z:AT} (h:pickB c x y=some z) (n:Nat):z.lt n:=by
  unfold pickB at h
  split at h<;>first
    | (cases h;done)
    | (injection h with h;subst h;trivial)
theorem ok_pick {c x y:Operand} (ho:o.op=.pick c x y) {eff:Eff} (h:stepOp T (.pick c x y) env hp nh=some eff):EffOk cf o a hp nh β eff:=by
  simp only [stepOp] at h
  split at h
  · rename_i hc
    obtain ⟨v,hv,rfl⟩:=map_some h
    exact ⟨evalO_lt hb hv,fun w _=>by simp [execOp,ho,evalO_eval ha hv,evalO_eval ha hc,SV.den,AT.den,asBool]⟩
  · rename_i hc
    obtain ⟨v,hv,rfl⟩:=map_some h
    exact ⟨evalO_lt hb hv,fun w _=>by simp [execOp,ho,evalO_eval ha hv,evalO_eval ha hc,SV.den,AT.den,asBool]⟩
  · rename_i q hc
    split at h
    · rename_i u v hu hv
      obtain ⟨z,hz,rfl⟩:=map_some h
      refine ⟨pickB_lt hz nh,fun w _=>?_⟩
      have h1:a.eval c=.bool q:=evalO_eval ha hc
      have h2:a.eval x=u.den β:=evalO_eval ha hu
      have h3:a.eval y=v.den β:=evalO_eval ha hv
      have h4:(SV.a z).den β=(if q then u.den β else v.den β):=pickB_ok hz β
      simp only [execOp,ho,h1,h2,h3,asBool,Sem.run_bind,Sem.run_pure,Result.andThen_ok,h4]
    · cases h
  · cases h
omit ha hb in
theorem zero_den {P:Program} {t:TypeId} {ti:TI} {i:TypeInfo} {d:TypeDesc} {z:Value} (h:TI.Of P t ti i d z) (β:Nat->Addr):(ti.zero.map (AT.den β)).toArray=z.cells:=by
  rw [<-h.zcells]
  simp only [List.map_map]
  have:(AT.den β ∘ atOf)=id:=by funext x;exact atOf_den β x
  rw [this]
  simp
omit ha hb in
theorem zero_lt {P:Program} {t:TypeId} {ti:TI} {i:TypeInfo} {d:TypeDesc} {z:Value} (h:TI.Of P t ti i d z) (n:Nat):∀ c∈ti.zero,c.lt n:=by
  rw [<-h.zcells]
  intro c hc
  obtain ⟨x,_,rfl⟩:=List.mem_map.1 hc
  exact atOf_lt x n
omit ha hb in
theorem upd_new (β:Nat->Addr) (nh:Nat) (w:World):upd β nh w nh=⟨w.heap.size,0,none⟩:=by unfold upd;rw [if_pos rfl]
include hT in
omit ha hb in
theorem ok_alloc {t:TypeId} (ho:o.op=.alloc t) {eff:Eff} (h:stepOp T (.alloc t) env hp nh=some eff):EffOk cf o a hp nh β eff:=by
  simp only [stepOp] at h
  obtain ⟨ti,hti,rfl⟩:=map_some h
  obtain ⟨i,d,z,hs⟩:=tiOf_spec (hT _ _ hti)
  refine ⟨zero_lt hs nh,.inl rfl,fun w=>?_⟩
  simp only [execOp,ho,Instr.alloc,newVar,newRow,Sem.run_bind,run_zero hs.info hs.zero,Result.andThen_ok,run_newObj,Sem.run_pure,zero_den hs β,AT.den,upd_new,Addr.add_zero']
  rfl
theorem ok_box {t:TypeId} {x:Operand} (ho:o.op=.box t x) {eff:Eff} (h:stepOp T (.box t x) env hp nh=some eff):EffOk cf o a hp nh β eff:=by
  simp only [stepOp] at h
  obtain ⟨cs,hcs,rfl⟩:=map_some h
  obtain ⟨y,hy,hyc⟩:=bind_some hcs
  refine ⟨cells_lt hyc (evalO_lt hb hy),.inl rfl,fun w=>?_⟩
  simp only [execOp,ho,Instr.box,newVar,newRow,Sem.run_bind,evalO_eval ha hy,Result.andThen_ok,run_newObj,Sem.run_pure,cells_den (β:=β) hyc,AT.den,upd_new,Addr.add_zero']
  rfl
omit ha in
theorem row_lt {i:Nat} {k:HK} {cs:List AT} (h:hp.get i=some (k,cs)):∀ c∈cs,c.lt nh:=(hb.hp i k cs h).2
include hT in
theorem ok_load {t:TypeId} {x:Operand} (ho:o.op=.load t x) {eff:Eff} (h:stepOp T (.load t x) env hp nh=some eff):EffOk cf o a hp nh β eff:=by
  simp only [stepOp] at h
  split at h
  · rename_i i off ti hx hti
    obtain ⟨inf,d,z,hs⟩:=tiOf_spec (hT _ _ hti)
    split at h
    · rename_i k cs hrow
      cases hag:ti.agg with
      | true =>
        rw [hag] at h
        obtain ⟨l,hl,rfl⟩:=map_some h
        obtain ⟨hl1,hl2⟩:=takeAt_spec cs off ti.size l hl
        refine ⟨takeAt_lt hl (row_lt hb hrow),fun w hw=>?_⟩
        obtain ⟨σ,A,hw⟩:=hw (by rw [ho];rfl)
        have hcells:∀ j v,(l.map (AT.den β))[j]?=some v->w.cell? (((β i).add off).add j)=some v:=by
          intro j v hv
          rw [List.getElem?_map] at hv
          obtain ⟨c,hc,rfl⟩:=map_some hv
          rw [Addr.add_add]
          refine hw.cell hrow ?_
          rw [hl1,List.getElem?_take] at hc
          split at hc
          · rw [List.getElem?_drop] at hc;exact hc
          · cases hc
        have hlen:(l.map (AT.den β)).length=inf.size:=by simp [hl2,hs.size]
        have hrun:=run_loadCells_list (P:=cf.P) (w:=w) ((β i).add off) (l.map (AT.den β)) hcells
        rw [hlen] at hrun
        simp only [execOp,ho,Instr.loadAt,evalO_eval ha hx,SV.den,AT.den,Instr.sureAddr,loadVar,Sem.run_bind,Sem.run_pure,Result.andThen_ok,run_isAgg hs.und,hs.agg,hag,if_true,run_size hs.info,hrun]
      | false =>
        rw [hag] at h
        obtain ⟨c,hc,rfl⟩:=map_some h
        rw [nthAt_eq] at hc
        refine ⟨row_lt hb hrow c (List.mem_of_getElem? hc),fun w hw=>?_⟩
        obtain ⟨σ,A,hw⟩:=hw (by rw [ho];rfl)
        have hcell:w.cell? ((β i).add off)=some (c.den β):=hw.cell hrow hc
        simp only [execOp,ho,Instr.loadAt,evalO_eval ha hx,SV.den,AT.den,Instr.sureAddr,loadVar,Sem.run_bind,Sem.run_pure,Result.andThen_ok,run_isAgg hs.und,hs.agg,hag,if_false,Bool.false_eq_true,run_load,hcell]
    · cases h
  · cases h
include hT in
theorem ok_store {t:TypeId} {x y:Operand} (ho:o.op=.store t x y) {eff:Eff} (h:stepOp T (.store t x y) env hp nh=some eff):EffOk cf o a hp nh β eff:=by
  simp only [stepOp] at h
  split at h
  · rename_i i off ti ns hx hti hy
    obtain ⟨v,hv,hvc⟩:=bind_some hy
    obtain ⟨inf,d,z,hs⟩:=tiOf_spec (hT _ _ hti)
    split at h
    · rename_i e cs hrow
      obtain ⟨hcond,h⟩:=cond_some h
      obtain ⟨l,hl,rfl⟩:=map_some h
      simp only [Bool.and_eq_true] at hcond
      obtain ⟨hlen,hone⟩:=hcond
      have hlen:=Nat.eq_of_beq_eq_true hlen
      obtain ⟨hl1,hl2⟩:=lay_spec cs off ns l hl
      refine ⟨lay_lt hl (row_lt hb hrow) (cells_lt hvc (evalO_lt hb hv)),⟨cs,hrow⟩,fun σ A w hw=>?_⟩
      obtain ⟨h1,h2,_⟩:=hw.loc i e cs hrow
      have hcd:=cells_den (β:=β) hvc
      have hst:=run_storeCells_at cf.P (β i).block off e (ns.map (AT.den β)) 0 (cs.map (AT.den β)).toArray w h2 (by simp;omega)
        (fun u hu=>by obtain ⟨c,hc,rfl⟩:=List.mem_map.1 hu;exact AT.one_den β (List.all_eq_true.1 hone c hc))
      simp only [Nat.add_zero] at hst
      have haddr:(β i).add off=⟨(β i).block,off,none⟩:=by rw [h1,add0]
      have hx':a.eval x=.pointer (some ((β i).add off)):=evalO_eval ha hx
      have hv':a.eval y=v.den β:=evalO_eval ha hv
      have hsz:(List.map (AT.den β) ns).toArray.size=inf.size:=by simp [hlen,hs.size]
      simp only [execOp,ho,Instr.storeAt,hx',hv',Instr.sureAddr,storeVar,Sem.run_bind,Sem.run_pure,Result.andThen_ok,hcd,run_size hs.info,hsz,ne_eq,not_true,if_false,haddr,Sem.run_ite,hst]
      rw [hl2]
      simp
    · cases h
  · cases h
theorem ok_nilCheck {x:Operand} (ho:o.op=.nilCheck x) {eff:Eff} (h:stepOp T (.nilCheck x) env hp nh=some eff):EffOk cf o a hp nh β eff:=by
  simp only [stepOp] at h
  split at h
  · rename_i i off hx
    injection h with h;subst h
    exact ⟨evalO_lt hb hx,fun w _=>by simp [execOp,ho,evalO_eval ha hx,SV.den,AT.den]⟩
  · rename_i p hx
    injection h with h;subst h
    exact ⟨evalO_lt hb hx,fun w _=>by simp [execOp,ho,evalO_eval ha hx,SV.den,AT.den]⟩
  · rename_i f c hx
    injection h with h;subst h
    exact ⟨evalO_lt hb hx,fun w _=>by simp [execOp,ho,evalO_eval ha hx,SV.den,AT.den]⟩
  · cases h
omit ha hb in
theorem cmpI_ok {P:Program} {op:BinOp} {t:TypeId} {x y:Operand} {k:IntKind} {m n:Int} {r:Bool} (h:cmpI op m n=some r) (w:World) :
    (do eqGuard op t x y (.int k m) (.int k n);binOp op t (.int k m) (.int k n):Sem Value).run P w=.ok (.bool r) w:=by
  unfold cmpI at h
  split at h<;>first
    | (cases h;done)
    | (injection h with h;subst h
       simp only [eqGuard_at_int,Sem.run_bind,Sem.run_pure,Result.andThen_ok,binOp,Op.intCmp,ne_eq,not_true,if_false]
       try (by_cases hmn:m=n<;>simp [hmn]))
omit ha hb in
theorem toList_inj {a b:ByteArray}:a.toList=b.toList↔a=b:=by
  constructor
  · intro h
    have h':a.data.toList=b.data.toList:=by rw [<-ByteArray.toList_eq,<-ByteArray.toList_eq];exact h
    cases a;cases b
    simp only [ByteArray.mk.injEq]
    exact Array.toList_inj.1 h'
  · intro h;rw [h]
omit ha hb in
theorem cmpS_ok {P:Program} {op:BinOp} {t:TypeId} {x y:Operand} {m n:ByteArray} {r:Bool} (h:cmpS op m n=some r) (w:World) :
    (do eqGuard op t x y (.string m) (.string n);binOp op t (.string m) (.string n):Sem Value).run P w=.ok (.bool r) w:=by
  have he:(m.toList == n.toList)=decide (m=n):=by
    by_cases hmn:m=n
    · simp [hmn]
    · simp [hmn,mt toList_inj.1 hmn]
  unfold cmpS at h
  split at h<;>first
    | (cases h;done)
    | (injection h with h;subst h
       simp only [eqGuard_at_string,Sem.run_bind,Sem.run_pure,Result.andThen_ok,binOp_string_eql,binOp_string_neq,binOp_string_lss,he])
omit ha hb in
theorem cmpB_ok {P:Program} {op:BinOp} {t:TypeId} {x y:Operand} {m n:Bool} {r:Bool} (ht:P.underlying t=some .bool) (h:cmpB op m n=some r) (w:World) :
    (do eqGuard op t x y (.bool m) (.bool n);binOp op t (.bool m) (.bool n):Sem Value).run P w=.ok (.bool r) w:=by
  unfold cmpB at h
  split at h<;>first
    | (cases h;done)
    | (injection h with h;subst h
       simp only [eqGuard_at_bool,Sem.run_bind,Sem.run_pure,Result.andThen_ok,run_eql_bool w t m n ht,run_neq_bool w t m n ht]
       try rfl)
omit ha hb in
theorem boolOf_den {x:AT} {p:Bool} (h:boolOf x=some p) (β:Nat->Addr):x.den β=.bool p:=by
  unfold boolOf at h
  split at h<;>first | (cases h;done) | (injection h with h;subst h;rfl)
include hT in
omit hb in
theorem ok_binOp {op:BinOp} {t u:TypeId} {x y:Operand} (ho:o.op=.binOp op t x y u) {eff:Eff} (h:stepOp T (.binOp op t x y u) env hp nh=some eff):EffOk cf o a hp nh β eff:=by
  simp only [stepOp] at h
  split at h
  · rename_i p q hx hy
    split at h
    · rename_i bp bq hp' hq'
      split at h
      · rename_i ti hti
        obtain ⟨hk,h⟩:=cond_some h
        obtain ⟨r,hr,rfl⟩:=map_some h
        obtain ⟨inf,d,z,hs⟩:=tiOf_spec (hT _ _ hti)
        have hd:cf.P.underlying t=some .bool:=by
          have h1:=hs.kind
          have h2:=hs.und
          cases d<;>first
            | exact h2
            | (simp only [kindD] at h1;rw [<-h1] at hk;cases hk)
        refine ⟨trivial,fun w _=>?_⟩
        simp only [execOp,ho,evalO_eval ha hx,evalO_eval ha hy,SV.den,boolOf_den hp' β,boolOf_den hq' β]
        rw [Sem.run_bind,cmpB_ok hd hr w]
        rfl
      · cases h
    · obtain ⟨r,hr,rfl⟩:=map_some h
      refine ⟨trivial,fun w _=>?_⟩
      simp only [execOp,ho,evalO_eval ha hx,evalO_eval ha hy,SV.den]
      unfold binA at hr
      split at hr
      · obtain ⟨hk,hr'⟩:=cond_some hr
        have hk:=kindEq_eq hk
        subst hk
        simp only [AT.den]
        rw [Sem.run_bind,cmpI_ok hr' w]
        rfl
      · simp only [AT.den]
        rw [Sem.run_bind,cmpS_ok hr w]
        rfl
      · cases hr
  · cases h
omit hb in
theorem ok_not {t:TypeId} {x:Operand} (ho:o.op=.unOp .not t x) {eff:Eff} (h:stepOp T (.unOp .not t x) env hp nh=some eff):EffOk cf o a hp nh β eff:=by
  simp only [stepOp] at h
  split at h<;>first
    | (cases h;done)
    | (rename_i hx
       injection h with h;subst h
       exact ⟨trivial,fun w _=>by simp [execOp,ho,evalO_eval ha hx,SV.den,AT.den,Op.unary]⟩)
omit ha hb in
theorem struct_of {P:Program} {t:TypeId} {ti:TI} {i:TypeInfo} {d:TypeDesc} {z:Value} (hs:TI.Of P t ti i d z) (hk:ti.kind=.struct) :
    ∃ fs,P.underlying t=some (.struct fs)/\ti.fields=fs.toList.map (fun f=>(f.offset,P.cellsOf f.type,(P.underlying f.type).map aggD)):=by
  have h1:=hs.kind
  rw [hk] at h1
  have h2:=hs.und
  have h3:=hs.fields
  cases d<;>first
    | exact ⟨_,h2,h3.symm⟩
    | (simp only [kindD] at h1;cases h1)
include hT in
theorem ok_fieldAddr {t:TypeId} {x:Operand} {f:Nat} (ho:o.op=.fieldAddr t x f) {eff:Eff} (h:stepOp T (.fieldAddr t x f) env hp nh=some eff):EffOk cf o a hp nh β eff:=by
  have key:∀ (ti:TI) (fo size:Nat) (ag:Option Bool) (ad:Addr) (w:World),tget T t=some ti->ti.kind=.struct->nthF ti.fields f=some (fo,size,ag)->Nat.beq size 0=false ->
      a.eval x=.pointer (some ad)->(execOp a.eval o).run cf.P w=.ok (.value (.pointer (some (ad.add fo)))) w:=by
    intro ti fo size ag ad w hti hk hf hz hx
    obtain ⟨inf,d,z,hs⟩:=tiOf_spec (hT _ _ hti)
    obtain ⟨fs,hu,hfs⟩:=struct_of hs hk
    rw [nthF_eq,hfs,List.getElem?_map] at hf
    obtain ⟨fld,hfld,heq⟩:=map_some hf
    simp only [Prod.mk.injEq] at heq
    obtain ⟨rfl,rfl,_⟩:=heq
    have hfld':fs[f]?=some fld:=by simpa using hfld
    have hsz:(sizeOf fld.type).run cf.P w=.ok (cf.P.cellsOf fld.type) w:=by
      cases hi:cf.P.info? fld.type with
      | none=>simp [Program.cellsOf,hi] at hz
      | some i=>rw [run_size hi];simp [Program.cellsOf,hi]
    have hne:cf.P.cellsOf fld.type≠0:=by intro e;rw [e] at hz;simp at hz
    simp only [execOp,ho,hx,Instr.fieldAt,Instr.sureAddr,fieldPlace,Sem.run_bind,run_underlying hu,Result.andThen_ok,hfld',Sem.run_pure,hsz,if_neg hne]
  simp only [stepOp] at h
  split at h
  · rename_i i off ti hx hti
    split at h
    · rename_i fo size ag hk hf
      cases hz:Nat.beq size 0 with
      | true=>rw [hz] at h;cases h
      | false =>
        rw [hz] at h
        injection h with h;subst h
        refine ⟨by simpa [SV.lt,AT.lt] using evalO_lt hb hx,fun w _=>?_⟩
        have:=key ti fo size ag _ w hti hk hf hz (evalO_eval ha hx)
        rw [this,Addr.add_add]
        rfl
    · cases h
  · rename_i ad ti hx hti
    split at h
    · rename_i fo size ag hk hf
      cases hz:Nat.beq size 0 with
      | true=>rw [hz] at h;cases h
      | false =>
        rw [hz] at h
        injection h with h;subst h
        exact ⟨trivial,fun w _=>key ti fo size ag _ w hti hk hf hz (evalO_eval ha hx)⟩
    · cases h
  · cases h
include hT in
theorem ok_field {t:TypeId} {x:Operand} {f:Nat} (ho:o.op=.field t x f) {eff:Eff} (h:stepOp T (.field t x f) env hp nh=some eff):EffOk cf o a hp nh β eff:=by
  simp only [stepOp] at h
  split at h
  · rename_i cs ti hx hti
    obtain ⟨inf,d,z,hs⟩:=tiOf_spec (hT _ _ hti)
    split at h
    · rename_i fo size ag hk hf
      obtain ⟨fs,hu,hfs⟩:=struct_of hs hk
      rw [nthF_eq,hfs,List.getElem?_map] at hf
      obtain ⟨fld,hfld,heq⟩:=map_some hf
      simp only [Prod.mk.injEq] at heq
      obtain ⟨rfl,rfl,hag0⟩:=heq
      have hfld':fs[f]?=some fld:=by simpa using hfld
      obtain ⟨fd,hfd,rfl⟩:=map_some hag0
      have hcs:∀ c∈cs,c.lt nh:=evalO_lt hb hx
      cases hag:aggD fd with
      | true =>
        rw [hag] at h
        obtain ⟨l,hl,rfl⟩:=map_some h
        obtain ⟨hl1,hl2⟩:=takeAt_spec cs _ _ l hl
        refine ⟨takeAt_lt hl hcs,fun w _=>?_⟩
        simp only [execOp,ho,evalO_eval ha hx,SV.den,Instr.field,asAgg,part,Sem.run_bind,run_underlying hu,Result.andThen_ok,hfld',Sem.run_pure,run_isAgg hfd,hag,if_true,run_sizeB rfl hfd]
        rw [hl1]
        simp [List.extract_eq_take_drop,List.map_take,List.map_drop]
      | false =>
        rw [hag] at h
        obtain ⟨c,hc,rfl⟩:=map_some h
        rw [nthAt_eq] at hc
        refine ⟨hcs c (List.mem_of_getElem? hc),fun w _=>?_⟩
        simp only [execOp,ho,evalO_eval ha hx,SV.den,Instr.field,asAgg,part,Sem.run_bind,run_underlying hu,Result.andThen_ok,hfld',Sem.run_pure,run_isAgg hfd,hag,if_false,Bool.false_eq_true,List.getElem?_toArray,List.getElem?_map,hc,Option.map_some]
    · cases h
  · cases h
theorem ok_extract {x:Operand} {f:Nat} (ho:o.op=.extract x f) {eff:Eff} (h:stepOp T (.extract x f) env hp nh=some eff):EffOk cf o a hp nh β eff:=by
  simp only [stepOp] at h
  split at h
  · rename_i vs hx
    obtain ⟨z,hz,rfl⟩:=map_some h
    rw [nthS_eq] at hz
    have hlt:∀ x∈vs,x.lt nh:=evalO_lt hb hx
    have hzl:=hlt z (List.mem_of_getElem? hz)
    refine ⟨by cases z<;>exact hzl,fun w _=>?_⟩
    have hden:z.sv.den β=z.den β:=by cases z<;>rfl
    have hx':a.eval x=.tuple (vs.map (S1.den β)).toArray:=evalO_eval ha hx
    simp only [execOp,ho,hx',Instr.extract,List.getElem?_toArray,List.getElem?_map,hz,Option.map_some,hden]
    rfl
  · cases h
include hT in
omit hb in
theorem ok_makeInterface {t:TypeId} {x:Operand} (ho:o.op=.makeInterface t x) {eff:Eff} (h:stepOp T (.makeInterface t x) env hp nh=some eff):EffOk cf o a hp nh β eff:=by
  simp only [stepOp] at h
  split at h
  · rename_i y ti hx hti
    obtain ⟨inf,d,z,hs⟩:=tiOf_spec (hT _ _ hti)
    cases hk:isIfaceK ti.kind with
    | true=>rw [hk] at h;cases h
    | false =>
      rw [hk] at h
      injection h with h;subst h
      refine ⟨trivial,fun w _=>?_⟩
      simp only [execOp,ho,evalO_eval ha hx,SV.den,AT.den,Instr.makeInterface,Sem.run_bind,run_underlying hs.und,Result.andThen_ok]
      have h1:=hs.kind
      cases d<;>first
        | rfl
        | (simp only [kindD] at h1;rw [<-h1] at hk;cases hk)
  · cases h
omit ha hb in
theorem ptsOf_ok (ha:StA cf env β a) (hb:Bd env hp nh):∀ (xs:List Operand) (l:List PT),ptsOf env xs=some l->(xs.map a.eval)=l.map (PT.den β)/\∀ p∈l,p.lt nh
  | [],l,h=>by simp only [ptsOf,Option.some.injEq] at h;subst h;simp
  | x::xs,l,h=>by
    simp only [ptsOf] at h
    split at h
    · rename_i i off hx
      obtain ⟨m,hm,rfl⟩:=map_some h
      obtain ⟨h1,h2⟩:=ptsOf_ok ha hb xs m hm
      refine ⟨by simp [evalO_eval ha hx,SV.den,AT.den,PT.den,h1],?_⟩
      intro p hp'
      cases hp' with
      | head=>exact evalO_lt hb hx
      | tail _ hp'=>exact h2 p hp'
    · rename_i y hx
      obtain ⟨m,hm,rfl⟩:=map_some h
      obtain ⟨h1,h2⟩:=ptsOf_ok ha hb xs m hm
      refine ⟨by simp [evalO_eval ha hx,SV.den,AT.den,PT.den,h1],?_⟩
      intro p hp'
      cases hp' with
      | head=>trivial
      | tail _ hp'=>exact h2 p hp'
    · cases h
theorem ok_makeFunc {f:Fn} {first captured:Array Operand} (ho:o.op=.makeFunc f first captured) {eff:Eff} (h:stepOp T (.makeFunc f first captured) env hp nh=some eff):EffOk cf o a hp nh β eff:=by
  simp only [stepOp] at h
  split at h
  · rename_i hf
    obtain ⟨l,hl,rfl⟩:=map_some h
    obtain ⟨h1,h2⟩:=ptsOf_ok ha hb _ _ hl
    refine ⟨h2,fun w _=>?_⟩
    have hf':first=#[]:=by cases first;simpa using hf
    have hc:captured.map a.eval=(l.map (PT.den β)).toArray:=by rw [<-h1];cases captured;simp
    simp only [execOp,ho,Instr.makeFunc,hf',hc,SV.den,AT.den,List.map_toArray,List.map_nil]
    rfl
  · cases h
include hT in
omit hb in
theorem ok_convert {s d:TypeId} {x:Operand} (ho:o.op=.convert s d x) {eff:Eff} (h:stepOp T (.convert s d x) env hp nh=some eff):EffOk cf o a hp nh β eff:=by
  simp only [stepOp] at h
  split at h
  · rename_i y ts ti hx hts hti
    obtain ⟨hk,h⟩:=cond_some h
    injection h with h;subst h
    simp only [Bool.and_eq_true] at hk
    obtain ⟨i1,d1,z1,hs1⟩:=tiOf_spec (hT _ _ hts)
    obtain ⟨i2,d2,z2,hs2⟩:=tiOf_spec (hT _ _ hti)
    have str:∀ {t:TypeId} {ti:TI} {i:TypeInfo} {d:TypeDesc} {z:Value},TI.Of cf.P t ti i d z->isStrK ti.kind=true->cf.P.underlying t=some .string:=by
      intro t ti i d z hs hk
      have h1:=hs.kind
      have h2:=hs.und
      cases d<;>first
        | exact h2
        | (simp only [kindD] at h1;rw [<-h1] at hk;cases hk)
    refine ⟨trivial,fun w _=>?_⟩
    simp only [execOp,ho,evalO_eval ha hx,SV.den,AT.den,convert,Sem.run_bind,run_underlying (str hs1 hk.2),run_underlying (str hs2 hk.1),Result.andThen_ok]
    rfl
  · cases h
include hT in
omit hb in
theorem ok_len {c:Call} (ho:o.op=.call c) {eff:Eff} (h:stepOp T (.call c) env hp nh=some eff):EffOk cf o a hp nh β eff:=by
  simp only [stepOp] at h
  split at h
  · rename_i x t hcal hargs htys
    split at h
    · rename_i y ti hx hti
      obtain ⟨n,hn,rfl⟩:=map_some h
      obtain ⟨inf,d,z,hs⟩:=tiOf_spec (hT _ _ hti)
      refine ⟨trivial,fun w _=>?_⟩
      have hc:c={ callee:=.builtin .len,args:=#[x],argTypes:=#[t] }:=by
        cases c with
        | mk cal ar ty =>
          simp only at hcal hargs htys
          subst hcal
          have e1:ar=#[x]:=by cases ar;simp only at hargs;rw [hargs]
          have e2:ty=#[t]:=by cases ty;simp only at htys;rw [htys]
          rw [e1,e2]
      have h1:=hs.kind
      simp only [execOp,ho,hc,resolve,invoke,builtin,Sem.run_bind,Sem.run_pure,Result.andThen_ok,List.map_toArray,List.map_cons,List.map_nil,evalO_eval ha hx,SV.den]
      unfold lenA at hn
      split at hn<;>first
        | (cases hn;done)
        | (injection hn with hn;subst hn
           rename_i hki
           rw [hki] at h1
           cases d<;>first
             | (simp [kindD] at h1;done)
             | simp [Builtin.len_,run_underlying hs.und,AT.den,goInt])
    · cases h
  · cases h
omit ha hb in
theorem fill_lay {place:Nat->Option (Nat×Nat)} {cells:Array Value} {i off size:Nat} {v:Value} {rest:List (Nat×Value)} (hp:place i=some (off,size))
    (hs:v.cells.size=size) (hfit:off+size<=cells.size) :
    Instr.fill place cells ((i,v)::rest)=Instr.fill place (cells.toList.take off++v.cells.toList++cells.toList.drop (off+size)).toArray rest:=by
  have key:∀ (l:List Value) (k:Nat) (cs:Array Value),off+k+l.length<=cs.size ->
      (l.zipIdx k).foldl (fun cs (p:Value×Nat)=>cs.setIfInBounds (off+p.2) p.1) cs=(cs.toList.take (off+k)++l++cs.toList.drop (off+k+l.length)).toArray:=by
    intro l
    induction l with
    | nil=>intro k cs _;simp
    | cons x l ih =>
      intro k cs hk
      simp only [List.zipIdx_cons,List.foldl_cons]
      rw [ih (k+1) _ (by simp at hk ⊢;omega)]
      congr 1
      have hlt:off+k<cs.toList.length:=by simp at hk ⊢;omega
      simp only [Array.toList_setIfInBounds]
      apply List.ext_getElem?
      intro j
      simp only [List.length_cons] at hk
      simp only [List.getElem?_append,List.length_append,List.length_take,List.length_set,List.getElem?_take,List.getElem?_drop,List.getElem?_set,Array.length_toList,List.length_cons]
      have e1:min (off+(k+1)) cs.size=off+k+1:=by omega
      have e2:min (off+k) cs.size=off+k:=by omega
      rw [e1,e2]
      rcases Nat.lt_trichotomy j (off+k) with hj | hj | hj
      · rw [if_pos (by omega),if_pos (by omega),if_pos (by omega),if_neg (by omega),if_pos (by omega),if_pos (by omega),if_pos (by omega)]
      · subst hj
        rw [if_pos (by omega),if_pos (by omega),if_pos (by omega),if_pos rfl,if_pos (by omega),if_pos (by omega),if_neg (by omega)]
        simp
      · by_cases hj2:j<off+k+1+l.length
        · rw [if_pos (by omega),if_neg (by omega),if_pos (by omega),if_neg (by omega)]
          obtain ⟨m,rfl⟩:∃ m,j=off+k+1+m:=⟨j - (off+k+1),by omega⟩
          have e3:off+k+1+m - (off+k)=m+1:=by omega
          rw [e3,List.getElem?_cons_succ]
          congr 1
          omega
        · rw [if_neg (by omega),if_neg (by omega)]
          rw [if_neg (by omega)]
          congr 1
          omega
  simp only [Instr.fill,hp]
  rw [if_neg (by simp [hs,hfit])]
  have:=key v.cells.toList 0 cells (by simp [hs];omega)
  simp only [Nat.add_zero] at this
  congr 1
  have e:v.cells.zipIdx.foldl (fun cs (x:Value×Nat)=>cs.setIfInBounds (off+x.2) x.1) cells=(v.cells.toList.zipIdx).foldl (fun cs (p:Value×Nat)=>cs.setIfInBounds (off+p.2) p.1) cells:=by
    rw [<-Array.foldl_toList,Array.toList_zipIdx]
  refine Eq.trans ?_ (this.trans ?_)
  · exact e
  · simp [hs]
omit ha hb in
theorem fillA_ok (ha:StA cf env β a) (hb:Bd env hp nh) (fields:List (Nat×Nat×Option Bool)) :
    ∀ (parts:List (Nat×Operand)) (cs l:List AT),(∀ c∈cs,c.lt nh)->fillA env fields cs parts=some l ->
      Instr.fill (fun i=>(fields[i]?).map fun f=>(f.1,f.2.1)) (cs.map (AT.den β)).toArray (parts.map fun p=>(p.1,a.eval p.2))=some (l.map (AT.den β)).toArray/\∀ c∈l,c.lt nh
  | [],cs,l,hcs,h=>by simp only [fillA,Option.some.injEq] at h;subst h;exact ⟨by simp [Instr.fill],hcs⟩
  | (i,x)::rest,cs,l,hcs,h=>by
    simp only [fillA] at h
    split at h
    · rename_i off size ag ns hf hx
      obtain ⟨y,hy,hyc⟩:=bind_some hx
      obtain ⟨hlen,h⟩:=cond_some h
      have hlen:=Nat.eq_of_beq_eq_true hlen
      obtain ⟨cs',hcs',h⟩:=bind_some h
      obtain ⟨hl1,hl2⟩:=lay_spec cs off ns cs' hcs'
      rw [nthF_eq] at hf
      have hcd:=cells_den (β:=β) hyc
      obtain ⟨h1,h2⟩:=fillA_ok ha hb fields rest cs' l (lay_lt hcs' hcs (cells_lt hyc (evalO_lt hb hy))) h
      refine ⟨?_,h2⟩
      simp only [List.map_cons,evalO_eval ha hy]
      rw [fill_lay (off:=off) (size:=size) (by simp [hf]) (by rw [hcd];simp [hlen]) (by simp;omega)]
      rw [<-h1]
      congr 2
      rw [hl2,hcd]
      simp [hlen]
    · cases h
end
end Go.Sy
