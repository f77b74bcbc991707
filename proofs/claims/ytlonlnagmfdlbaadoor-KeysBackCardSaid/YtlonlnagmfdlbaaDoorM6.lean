/- Parts of the proof of CKeysBack: K11, K12, F14, K13, K14, K10, K15, XCl, XRow, KFacts. No conditions. -/
import Derived.Test.YtlonlnagmfdlbaaDoorM5
import Derived.Carry
import Derived.RowKit
import Derived.ChangeStays
import Derived.ChangeSame
import Derived.ReadAgain
import Derived.SizedLaws
import Derived.Deep.DeepHandedRow
import Derived.ProofKit
import Derived.OpenShut
import Derived.Lay
import Derived.SevenTiedAt
import Derived.Stop.Joined
import Derived.Shelf.Vars
import Derived.Test.YtlonlnagmfdlbaaDoorCards
import Derived.Test.YtlonlnagmfdlbaaDoorTie
namespace Go.Sy
open Go.Proofs
def dropA (ad:Addr) (cap k:Nat):Addr:=if cap=k then ad else ad.add (k*1)
theorem u8_sub {σ:Snap} {ad:Addr} {n cap:Nat} {l:List UInt8} (H:SlAt σ (some ad) n cap 1 (u8Rows l)) {lo hi:Nat} (h1:lo<=hi) (h2:hi<=n):SlAt σ (some (dropA ad cap lo)) (hi - lo) (cap - lo) 1 (u8Rows ((l.take hi).drop lo)):=by
  have h:=H.sub h1 h2
  have e1:(if cap=lo then some ad else (some ad).map (·.add (lo*1)))=some (dropA ad cap lo):=by unfold dropA;split<;>rfl
  have e2:((u8Rows l).take hi).drop lo=u8Rows ((l.take hi).drop lo):=by unfold u8Rows;rw [List.map_drop,List.map_take]
  rw [e1,e2] at h
  exact h
theorem u8_drop {σ:Snap} {ad:Addr} {n cap:Nat} {l:List UInt8} (H:SlAt σ (some ad) n cap 1 (u8Rows l)) {k:Nat} (h:k<=n):SlAt σ (some (dropA ad cap k)) (n - k) (cap - k) 1 (u8Rows (l.drop k)):=by
  have hn:l.length=n:=by rw [<-H.len,u8Rows_len]
  have:=u8_sub H h (Nat.le_refl n)
  rw [List.take_of_length_le (by omega)] at this
  exact this
theorem SlAt.at0 {σ:Snap} {ao:Option Addr} {n cap sz:Nat} {rows:List (List AT)} (H:SlAt σ ao n cap sz rows) (h:0<n):∃ ad,ao=some ad:=by
  rcases H.at_ with h0 | ⟨ad,h1,_⟩
  · omega
  · exact ⟨ad,h1⟩
section
variable {cf:Cf} {Q:Exit->Act->World->Prop} {σ:Snap} {env:Env} {hp:HP} {A:List AE} {nh:Nat} {it:Item} {rest:List Item}
theorem oj_from {d:Nat} {x lo:Operand} {t e:TypeId} {T:List (Nat×TI)} (hT:TTok cf.P T) {ti te:TI} {ad:Addr} {n cap:Nat} {kk:IntKind} {m:Int} (l:Nat) (hop:it.o.op=.slice t x (some lo) none none) (hd:it.o.dst=some d)
    (hg:guardVal it.guard env=some true) (hN:Nat.blt d cf.N=true) (hx:evalO env x=some (.a (.v (.slice (some ad) n cap)))) (hlo:evalO env lo=some (.a (.v (.int kk m))))
    (ht:tget T t=some ti) (hkd:ti.kind=.slice e) (hte:tget T e=some te) (hs1:te.size=1) (hm:m=(l:Int)) (hl:l<=n) (hnc:n<=cap)
    (k:OJ cf rest Q σ ((d,.a (.v (.slice (some (dropA ad cap l)) (n - l) (cap - l))))::env) hp A nh):OJ cf (it::rest) Q σ env hp A nh:=by
  refine oj_slice (vl:=some (.int kk m)) (vh:=none) hT l n hop hd hg hN hx (by simp [optV,hlo]) rfl ht hkd hte (.inr ⟨kk,m,rfl,hm⟩) (.inl ⟨rfl,rfl⟩) hl hnc hnc ?_
  have e1:(if cap=l then some ad else (some ad).map (·.add (l*te.size)))=some (dropA ad cap l):=by unfold dropA;rw [hs1];split<;>rfl
  rw [e1]
  exact k
theorem oj_fromTo {d:Nat} {x lo hi:Operand} {t e:TypeId} {T:List (Nat×TI)} (hT:TTok cf.P T) {ti te:TI} {ad:Addr} {n cap:Nat} {kk k2:IntKind} {m m2:Int} (l h:Nat) (hop:it.o.op=.slice t x (some lo) (some hi) none) (hd:it.o.dst=some d)
    (hg:guardVal it.guard env=some true) (hN:Nat.blt d cf.N=true) (hx:evalO env x=some (.a (.v (.slice (some ad) n cap)))) (hlo:evalO env lo=some (.a (.v (.int kk m)))) (hhi:evalO env hi=some (.a (.v (.int k2 m2))))
    (ht:tget T t=some ti) (hkd:ti.kind=.slice e) (hte:tget T e=some te) (hs1:te.size=1) (hm:m=(l:Int)) (hm2:m2=(h:Int)) (hl:l<=h) (hh:h<=cap) (hnc:n<=cap)
    (k:OJ cf rest Q σ ((d,.a (.v (.slice (some (dropA ad cap l)) (h - l) (cap - l))))::env) hp A nh):OJ cf (it::rest) Q σ env hp A nh:=by
  refine oj_slice (vl:=some (.int kk m)) (vh:=some (.int k2 m2)) hT l h hop hd hg hN hx (by simp [optV,hlo]) (by simp [optV,hhi]) ht hkd hte (.inr ⟨kk,m,rfl,hm⟩) (.inr ⟨k2,m2,rfl,hm2⟩) hl hh hnc ?_
  have e1:(if cap=l then some ad else (some ad).map (·.add (l*te.size)))=some (dropA ad cap l):=by unfold dropA;rw [hs1];split<;>rfl
  rw [e1]
  exact k
end
set_option maxRecDepth 100000 in
set_option maxHeartbeats 1000000 in
theorem IndexByte_c (σ:Snap) (l:List UInt8) (n:Nat) (ao:Option Addr) (cap:Nat) (H:SlAt σ ao n cap 1 (u8Rows l)) :
    PlainS Tryd.prog 69 [.a (.v (.slice ao n cap)),.a (.v (.int .u8 0))] σ (fun v=>v=.int .i64 (Lib.indexByte l 0)):=by
  refine enter_p Tryd.func69 rfl rfl (by (repeat' (first | exact trivial | constructor))) fun w=>?_
  (repeat (first | refine cj_seq ?_ | refine cjr TT rfl ?_ | refine oj_then ?_))
  refine oj_indexByte (c:=0) (f:=81) (fn:=Tryd.f81) rfl rfl rfl rfl rfl Tryd.func81 (by kernel_rfl) (by kernel_rfl) (by kernel_rfl) (by kernel_rfl) H (oj_run TT rfl ?_)
  (repeat (first | refine oj_then ?_ | refine cj_ret ?_))
  refine nj_ret TT rfl fun β w' _ _=>?_
  rfl
structure MxS where
  i:Nat
  m:Nat
set_option maxRecDepth 100000 in
set_option maxHeartbeats 1000000 in
theorem Max_c (σ:Snap) (l:List UInt8) (h0:0<l.length) (hl:l.length<=1000000) (ao:Option Addr) (cap:Nat) (H:SlAt σ ao l.length cap 1 (u8Rows l)) :
    PlainS Tryd.prog 70 [.a (.v (.slice ao l.length cap))] σ (fun v=>∃ m:Nat,v=.int .u8 m/\(∀ c∈l,c.toNat<=m)/\∃ c∈l,c.toNat=m):=by
  have hx0:=List.getElem?_eq_getElem h0
  have hr0:=u8Rows_get hx0
  have ht1:l.take 1=[l[0]]:=by
    have:=List.take_succ_eq_append_getElem h0
    simpa using this
  refine enter_p Tryd.func70 rfl rfl (by (repeat' (first | exact trivial | constructor))) fun w=>?_
  (repeat (first | refine cj_seq ?_ | refine cjr TT rfl ?_ | refine oj_then ?_))
  refine cj_if rfl (fun h=>absurd (of_decide_eq_true (show decide ((l.length:Int)<1)=true from h)) (by omega)) (fun _=>?_)
  generalize l[0]=x0 at *
  (repeat (first | refine cj_seq ?_ | refine cjr TT rfl ?_ | refine cj_skip ?_ | refine nj_then ?_))
  refine oj_idx TT rfl rfl rfl rfl rfl rfl rfl rfl rfl H (by omega) (r:=[.v (.int .u8 x0.toNat)]) hr0 (oj_run TT rfl ?_)
  (repeat (first | refine cj_seq ?_ | refine cjr TT rfl ?_ | refine oj_then ?_ | refine cj_block ?_))
  refine cj_loop (fun (_:MxS)=>σ) (fun t=>[(0,.a (.v (.slice ao l.length cap))),(3,.a (.v (.int .u8 (t.m:Nat)))),(4,.a (.v (.int .i64 (t.i:Nat))))]) (fun _=>[]) (fun _=>[]) 0
    (fun t=>t.i<=l.length/\(∀ c∈l.take t.i,c.toNat<=t.m)/\∃ c∈l.take t.i,c.toNat=t.m) (fun t=>l.length - t.i) ⟨1,x0.toNat⟩ ⟨h0,fun c hc=>(by dsimp only at hc;rw [ht1,List.mem_singleton] at hc;subst hc;exact Nat.le_refl _),x0,(by dsimp only;rw [ht1];exact List.mem_singleton.2 rfl),rfl⟩ rfl (by (repeat first | exact trivial | refine ⟨rfl,?_⟩)) (by (repeat first | exact trivial | refine ⟨rfl,?_⟩)) rfl (by (repeat' (first | exact trivial | constructor))) (by (repeat' exact trivial)) fun ⟨i,m⟩ ⟨hi,hm1,hm2⟩=>?_
  dsimp only at hi hm1 hm2 ⊢
  (repeat (first | refine cj_seq ?_ | refine cjr TT rfl ?_ | refine oj_then ?_))
  refine cj_if rfl (fun h=>?_) (fun h=>?_)
  rotate_left
  · have hi0:i=l.length:=by have:=of_decide_eq_false h;omega
    rw [hi0,List.take_length] at hm1 hm2
    (repeat (first | refine cj_seq ?_ | refine cjr TT rfl ?_ | refine oj_then ?_ | refine cj_exit ?_ | refine cj_ret ?_ | refine nj_then ?_ | refine nj_then_exit ?_ | refine nj_block_out ?_))
    refine nj_ret TT rfl fun β w' _ _=>?_
    exact ⟨m,rfl,hm1,hm2⟩
  have hil:i<l.length:=by have:=of_decide_eq_true h;omega
  have hx:=List.getElem?_eq_getElem hil
  have hrow:=u8Rows_get hx
  have htk:l.take (i+1)=l.take i++[l[i]]:=List.take_succ_eq_append_getElem hil
  generalize l[i]=x at *
  (repeat (first | refine cj_seq ?_ | refine cjr TT rfl ?_ | refine cj_skip ?_ | refine cj_block ?_ | refine nj_then ?_))
  refine oj_idx TT rfl rfl rfl rfl rfl rfl rfl rfl rfl H (by omega) hrow (oj_run TT rfl ?_)
  refine oj_max rfl rfl rfl rfl rfl rfl ?_
  have emx:max (m:Int) (x.toNat:Int)=((max m x.toNat:Nat):Int):=by omega
  rw [emx]
  refine oj_run TT rfl ?_
  (repeat (first | refine cjr TT rfl ?_ | refine oj_nil ?_ | refine nj_then ?_ | refine nj_block ?_ | (refine oj_add rfl rfl rfl rfl rfl rfl (by omega) ?_;refine oj_run TT rfl ?_)))
  refine nj_again (⟨i+1,max m x.toNat⟩:MxS) ⟨hil,fun c hc=>?_,?_⟩ (by dsimp only;omega) rfl (by (repeat first | exact trivial | refine ⟨rfl,?_⟩)) (by (repeat first | exact trivial | refine ⟨rfl,?_⟩)) rfl (by (repeat' (first | exact trivial | constructor))) (by (repeat' exact trivial))
  · dsimp only at hc ⊢
    rw [htk] at hc
    rcases List.mem_append.1 hc with hc | hc
    · have:=hm1 c hc
      omega
    · rw [List.mem_singleton] at hc
      subst hc
      omega
  · dsimp only
    rw [htk]
    obtain ⟨c,hc,e⟩:=hm2
    by_cases h:m<=x.toNat
    · exact ⟨x,List.mem_append.2 (.inr (List.mem_singleton.2 rfl)),by omega⟩
    · exact ⟨c,List.mem_append.2 (.inl hc),by omega⟩
def FirstOk (σ:Snap) (res:Option (GPart×List UInt8)) (v:Value):Prop :=
  match res with
  | none=>v=.tuple #[.agg (paVals part0),.slice none 0 0]
  | some (p,r)=>∃ ad rc,v=.tuple #[.agg (paVals p),.slice (some ad) r.length rc]/\SlAt σ (some ad) r.length rc 1 (u8Rows r)
def zeroP:List AT:=[.v (.int .i64 0),.ff,.ff,.v (.string ⟨#[]⟩),.v (.int .i64 0),.v (.string ⟨#[]⟩),.v (.int .i64 0)]
def numP (p:GDec×List UInt8):GPart×List UInt8:=(⟨2,false,p.1,emptyB,0⟩,p.2)
theorem FirstOk.of {σ:Snap} {p:GPart} {r:List UInt8} {ad:Addr} {n rc:Nat} (H:SlAt σ (some ad) n rc 1 (u8Rows r)):FirstOk σ (some (p,r)) (.tuple #[.agg (paVals p),.slice (some ad) n rc]):=by
  have hn:r.length=n:=by rw [<-H.len,u8Rows_len]
  subst hn
  exact ⟨ad,rc,rfl,H⟩
theorem num_short {b:List UInt8} {neg:Bool} (h:b.length<3):numberG b neg=none:=by
  unfold numberG
  have hl:(if neg then turnG b else b).length<3:=by split<;>simp [turnG_len,h]
  split
  · rename_i x y s e
    rw [e] at hl
    cases s with
    | nil=>rfl
    | cons c s=>simp at hl;omega
  · rfl
theorem num_noz {b:List UInt8} {neg:Bool} {x y:UInt8} {s:List UInt8} (h:(if neg then turnG b else b)=x::y::s) (hz:∀ c∈s,c≠0):numberG b neg=none:=by
  unfold numberG
  rw [h]
  dsimp only
  rw [zsplit_none.2 hz]
theorem num_z {b:List UInt8} {neg:Bool} {x y:UInt8} {ds t:List UInt8} (h:(if neg then turnG b else b)=x::y::(ds++0::t)) (hz:∀ c∈ds,c≠0) :
    numberG b neg=if ds=[]\/(ds.any fun c=>decide (10<c))=true\/decSane (decOf neg x y ds)=false then none else some (decOf neg x y ds,b.drop (3+ds.length)):=by
  unfold numberG
  rw [h]
  dsimp only
  rw [zsplit_of _ _ hz]
theorem wrap8_fig:∀ c:UInt8,IntKind.u8.wrap ((48:Int)+c.toNat)=((48+c).toNat:Int):=all8 (by decide +kernel)
theorem wrap8_dec:∀ c:UInt8,IntKind.u8.wrap ((c.toNat:Int) - 1)=((c - 1).toNat:Int):=all8 (by decide +kernel)
theorem shl64:∀ c:UInt8,bShl .i64 (c.toNat:Int) 8=(c.toNat:Int)*256:=all8 (by decide +kernel)
structure NuS where
  s:Snap
  so:Option Addr
  sc:Nat
set_option maxRecDepth 100000 in
set_option maxHeartbeats 4000000 in
theorem number_c (σ:Snap) (b:List UInt8) (hb:b.length<=1000000) (ao:Option Addr) (cap:Nat) (H:SlAt σ ao b.length cap 1 (u8Rows b)) (neg:Bool) :
    PureS Tryd.prog 50 [.a (.v (.slice ao b.length cap)),.a (.b neg)] σ (fun v σ'=>FirstOk σ' ((numberG b neg).map numP) v):=by
  refine enter_s Tryd.func50 rfl rfl (by (repeat' (first | exact trivial | constructor))) fun w=>?_
  (repeat (first | refine cj_seq ?_ | refine cjr TT rfl ?_ | refine oj_then ?_))
  refine cj_cutN (fun (t:NuS)=>t.s) (fun t=>[(0,.a (.v (.slice ao b.length cap))),(1,.a (.b neg)),(4,.a (.p 0 0)),(5,.a (.v (.slice none 0 0))),(6,.a (.v (.slice t.so b.length t.sc)))]) (fun _=>[(0,.loc 49,zeroP)]) (fun _=>[]) 1
    (fun t=>σ.le t.s/\SlAt t.s t.so b.length t.sc 1 (u8Rows (if neg then turnG b else b))) ?_ (fun ⟨s,so,sc⟩ ⟨hle,HS⟩=>?_)
  · refine cj_if rfl (fun h=>?_) (fun h=>?_)
    · have h:neg=true:=h
      subst h
      (repeat refine cjr TT rfl ?_)
      refine oj_callS rfl rfl rfl rfl rfl Tryd.call35 ⟨trivial,trivial⟩ (turned_c σ b hb ao cap H) fun v s1 hle1 ⟨bo,bc,hv,HT⟩=>⟨.a (.v (.slice bo b.length bc)),trivial,hv.symm,?_⟩
      refine oj_run TT rfl ?_
      (repeat refine oj_nil ?_)
      refine nj_again (⟨s1,bo,bc⟩:NuS) ⟨hle1,HT⟩ Nat.zero_lt_one rfl (by (repeat first | exact trivial | refine ⟨rfl,?_⟩)) (by (repeat first | exact trivial | refine ⟨rfl,?_⟩)) rfl (by (repeat' (first | exact trivial | exact Nat.le_of_ble_eq_true rfl | constructor))) (by (repeat' (first | exact trivial | exact Nat.le_of_ble_eq_true rfl | refine AllLt.of ?_ | constructor)))
    · have h:neg=false:=h
      subst h
      (repeat refine cj_skip ?_)
      refine nj_again (⟨σ,ao,cap⟩:NuS) ⟨Snap.le_refl _,H⟩ Nat.zero_lt_one rfl (by (repeat first | exact trivial | refine ⟨rfl,?_⟩)) (by (repeat first | exact trivial | refine ⟨rfl,?_⟩)) rfl (by (repeat' (first | exact trivial | exact Nat.le_of_ble_eq_true rfl | constructor))) (by (repeat' (first | exact trivial | exact Nat.le_of_ble_eq_true rfl | refine AllLt.of ?_ | constructor)))
  dsimp only at hle HS ⊢
  have H:=H.mono hle
  (repeat (first | refine cj_seq ?_ | refine cjr TT rfl ?_ | refine oj_then ?_))
  refine cj_if rfl (fun h=>?_) (fun h=>?_)
  · have h:=of_decide_eq_true (show decide ((b.length:Int)<3)=true from h)
    rw [num_short (by omega)]
    (repeat (first | refine cj_seq ?_ | refine cjr TT rfl ?_ | refine oj_then ?_ | refine cj_ret ?_ | refine nj_then_ret ?_))
    refine nj_ret TT rfl fun β w' _ _=>?_
    rfl
  have h3:3<=b.length:=by have:=of_decide_eq_false (show decide ((b.length:Int)<3)=false from h);omega
  obtain ⟨sa,rfl⟩:=HS.at0 (by omega)
  obtain ⟨ba,rfl⟩:=H.at0 (by omega)
  have hSl:(if neg then turnG b else b).length=b.length:=by split<;>simp [turnG_len]
  obtain ⟨x,y,s',hS⟩:∃ x y s',(if neg then turnG b else b)=x::y::s':=by
    match hm:(if neg then turnG b else b) with
    | []=>rw [hm] at hSl;simp at hSl;omega
    | [_]=>rw [hm] at hSl;simp at hSl;omega
    | x::y::s'=>exact ⟨x,y,s',rfl⟩
  rw [hS] at HS hSl
  have hbl:b.length=s'.length+2:=by rw [<-hSl];rfl
  have H2:=u8_drop HS (k:=2) (by omega)
  have e2:(x::y::s').drop 2=s':=rfl
  rw [e2] at H2
  (repeat (first | refine cj_seq ?_ | refine cjr TT rfl ?_ | refine cj_skip ?_ | refine nj_then ?_))
  refine oj_from TT 2 rfl rfl rfl rfl rfl rfl rfl rfl rfl rfl rfl (by omega) HS.ncap (oj_run TT rfl ?_)
  refine oj_callP rfl rfl rfl rfl rfl Tryd.call69 (by (repeat' (first | exact trivial | constructor))) (IndexByte_c s s' (b.length - 2) _ _ H2) fun v hv=>⟨.a (.v (.int .i64 (Lib.indexByte s' 0))),trivial,hv.symm,?_⟩
  refine oj_run TT rfl ?_
  (repeat (first | refine cj_seq ?_ | refine cjr TT rfl ?_ | refine oj_then ?_))
  rcases idx_split s' with ⟨hi,hz⟩ | ⟨ds,t,hst,hz,hi⟩
  · rw [Lib.index_one] at hi
    rw [hi,num_noz hS hz]
    refine oj_split 24 rfl (fun _=>?_) (fun h=>absurd (show decide ((-1:Int)<1)=false from h) (by decide))
    refine oj_run TT rfl ?_
    (repeat (first | refine cj_seq ?_ | refine cjr TT rfl ?_ | refine oj_then ?_ | refine cj_if_t rfl ?_ | refine cj_ret ?_ | refine nj_then_ret ?_))
    refine nj_ret TT rfl fun β w' _ _=>?_
    rfl
  rw [Lib.index_one] at hi
  rw [hst] at hS HS hbl
  rw [num_z hS hz,hi]
  refine oj_split 24 rfl (fun h=>?_) (fun h=>?_)
  · have h:=of_decide_eq_true (show decide ((ds.length:Int)<1)=true from h)
    rw [if_pos (.inl (List.eq_nil_of_length_eq_zero (by omega)))]
    refine oj_run TT rfl ?_
    (repeat (first | refine cj_seq ?_ | refine cjr TT rfl ?_ | refine oj_then ?_ | refine cj_if_t rfl ?_ | refine cj_ret ?_ | refine nj_then_ret ?_))
    refine nj_ret TT rfl fun β w' _ _=>?_
    rfl
  have hds:0<ds.length:=by have:=of_decide_eq_false (show decide ((ds.length:Int)<1)=false from h);omega
  have hdn:ds≠[]:=fun e=>by rw [e] at hds;exact absurd hds (by decide)
  have hlen:s'.length=ds.length+t.length+1:=by rw [hst,List.length_append,List.length_cons];omega
  rw [<-hst] at hbl
  have e3:((x::y::(ds++0::t)).take (2+ds.length)).drop 2=ds:=by
    rw [Nat.add_comm]
    show (ds++0::t).take ds.length=ds
    exact List.take_left
  have HM:=u8_sub HS (lo:=2) (hi:=2+ds.length) (by omega) (by omega)
  rw [e3,show 2+ds.length - 2=ds.length by omega] at HM
  have hnc:=HS.ncap
  refine oj_run TT rfl ?_
  refine oj_add rfl rfl rfl rfl rfl rfl (by omega) (oj_run TT rfl ?_)
  refine oj_fromTo TT 2 (2+ds.length) rfl rfl rfl rfl rfl rfl rfl rfl rfl rfl rfl rfl (by omega) (by omega) (by omega) HS.ncap ?_
  rw [show 2+ds.length - 2=ds.length by omega]
  refine oj_run TT rfl ?_
  refine oj_callP rfl rfl rfl rfl rfl Tryd.call70 (by (repeat' (first | exact trivial | constructor))) (Max_c s ds hds (by omega) _ _ HM) fun v ⟨mx,hv,hm1,hm2⟩=>⟨.a (.v (.int .u8 (mx:Nat))),trivial,hv.symm,?_⟩
  refine oj_run TT rfl ?_
  (repeat refine oj_then ?_)
  refine cj_if rfl (fun h=>?_) (fun h=>?_)
  · have h:=of_decide_eq_true (show decide ((10:Int)<mx)=true from h)
    obtain ⟨c,hc,e⟩:=hm2
    rw [if_pos (.inr (.inl (List.any_eq_true.2 ⟨c,hc,by rw [decide_eq_true_eq,UInt8.lt_iff_toNat_lt];show 10<c.toNat;omega⟩)))]
    (repeat (first | refine cj_seq ?_ | refine cjr TT rfl ?_ | refine oj_then ?_ | refine cj_ret ?_ | refine nj_then_ret ?_))
    refine nj_ret TT rfl fun β w' _ _=>?_
    rfl
  have h10:mx<=10:=by have:=of_decide_eq_false (show decide ((10:Int)<mx)=false from h);omega
  have hany:(ds.any fun c=>decide (10<c))=false:=any_false_of fun c hc=>by
    rw [UInt8.le_iff_toNat_le]
    have:=hm1 c hc
    show c.toNat<=10
    omega
  have hcond:(ds=[]\/(ds.any fun c=>decide (10<c))=true\/decSane (decOf neg x y ds)=false)↔decSane (decOf neg x y ds)=false:=by
    rw [hany]
    exact ⟨fun h=>(h.resolve_left hdn).resolve_left (fun h=>by cases h),fun h=>.inr (.inr h)⟩
  simp only [hcond]
  (repeat (first | refine cj_seq ?_ | refine cjr TT rfl ?_ | refine cj_skip ?_ | refine nj_then ?_))
  refine oj_makeSliceN (n:=ds.length) TT _ rfl rfl rfl rfl rfl rfl rfl rfl rfl rfl (by show ds.length*1<=_;omega) (by omega) (madeCells_rep [.int .u8 0] ds.length) fun g=>?_
  rw [u8Xs_zeros]
  refine oj_run TT rfl ?_
  (repeat (first | refine cj_seq ?_ | refine cjr TT rfl ?_ | refine oj_then ?_ | refine cj_block ?_))
  refine cj_loop (fun (_:Nat)=>s) (fun k=>[(0,.a (.v (.slice (some ba) b.length cap))),(1,.a (.b neg)),(4,.a (.p 0 0)),(5,.a (.v (.slice none 0 0))),(6,.a (.v (.slice (some sa) b.length sc))),(7,.a (.v (.int .i64 ds.length))),(8,.a (.v (.slice (some ⟨g,0,none⟩) ds.length ds.length))),(36,.a (.v (.int .i64 ds.length))),(37,.a (.v (.int .i64 (k:Nat))))])
    (fun _=>[(0,.loc 49,zeroP)]) (fun k=>[⟨some ⟨g,0,none⟩,ds.length,ds.length,5,1,u8Xs (fillK (ds.map fun c=>48+c - 1) k)⟩]) 1
    (fun k=>k<=ds.length) (fun k=>ds.length - k) 0 (Nat.zero_le _) rfl (by (repeat first | exact trivial | refine ⟨rfl,?_⟩)) (by (repeat first | exact trivial | refine ⟨rfl,?_⟩)) (by unfold fillK;rw [List.length_map];rfl) (by (repeat' (first | exact trivial | exact Nat.le_of_ble_eq_true rfl | constructor))) (by (repeat' (first | exact trivial | exact Nat.le_of_ble_eq_true rfl | refine AllLt.of ?_ | constructor))) fun k hk=>?_
  (repeat (first | refine cj_seq ?_ | refine cjr TT rfl ?_ | refine oj_then ?_))
  refine cj_if rfl (fun h=>?_) (fun h=>?_)
  · have hkl:k<ds.length:=by have:=of_decide_eq_true h;omega
    have hx:=List.getElem?_eq_getElem hkl
    have hmx:(ds.map fun c=>48+c - 1)[k]?=some (48+ds[k] - 1):=by rw [List.getElem?_map,hx];rfl
    have hset:=fillK_set hmx
    have hrow:∀ z:Int,z=2+(k:Int)->(u8Rows (x::y::(ds++0::t)))[z.toNat]?=some [.v (.int .u8 ds[k].toNat)]:=fun z hz=>by
      rw [hz,show (2+(k:Int)).toNat=k+2 by omega]
      refine u8Rows_get ?_
      show (ds++0::t)[k]?=_
      rw [List.getElem?_append_left hkl]
      exact hx
    generalize ds[k]=c at *
    (repeat (first | refine cj_seq ?_ | refine cjr TT rfl ?_ | refine oj_then ?_ | refine cj_skip ?_ | refine cj_block ?_ | refine nj_then ?_ | (refine oj_add rfl rfl rfl rfl rfl rfl (by omega) ?_;refine oj_run TT rfl ?_)))
    refine oj_idx TT rfl rfl rfl rfl rfl rfl rfl rfl rfl HS (by omega) (hrow _ rfl) (oj_run TT rfl ?_)
    refine oj_arith ((48+c).toNat:Int) rfl rfl rfl rfl rfl rfl (run_add (wrap8_fig c)) (oj_run TT rfl ?_)
    refine oj_arith ((48+c - 1).toNat:Int) rfl rfl rfl rfl rfl rfl (run_sub (wrap8_dec (48+c))) (oj_run TT rfl ?_)
    refine oj_indexAddr TT rfl rfl rfl rfl rfl rfl rfl rfl rfl ⟨by omega,by omega⟩ (oj_run TT rfl ?_)
    refine oj_stA 0 (off:=k) (A':=[⟨some ⟨g,0,none⟩,ds.length,ds.length,5,1,u8Xs (fillK (ds.map fun c=>48+c - 1) (k+1))⟩]) (c:=.v (.int .u8 ((48+c - 1).toNat:Int))) TT rfl rfl rfl rfl (by rw [add0];show some (SV.a (AT.v (.pointer (some ⟨g,((k:Nat):Int).toNat*1,none⟩))))=_;rw [Nat.mul_one];rfl) rfl rfl rfl rfl rfl (by show k<ds.length*1;omega) trivial rfl (by rw [<-hset,<-u8Xs_set];rfl) (oj_run TT rfl ?_)
    (repeat (first | refine cjr TT rfl ?_ | refine oj_nil ?_ | refine nj_then ?_ | refine nj_block ?_ | (refine oj_add rfl rfl rfl rfl rfl rfl (by omega) ?_;refine oj_run TT rfl ?_)))
    refine nj_again (k+1) hkl (by omega) rfl (by (repeat first | exact trivial | refine ⟨rfl,?_⟩)) (by (repeat first | exact trivial | refine ⟨rfl,?_⟩)) rfl (by (repeat' (first | exact trivial | exact Nat.le_of_ble_eq_true rfl | constructor))) (by (repeat' (first | exact trivial | exact Nat.le_of_ble_eq_true rfl | refine AllLt.of ?_ | constructor)))
  have hk0:k=ds.length:=by have:=of_decide_eq_false h;omega
  have efill:fillK (ds.map fun c=>48+c - 1) k=ds.map fun c=>48+c - 1:=by
    have:=fillK_all (ds.map fun c=>48+c - 1)
    rw [List.length_map] at this
    rw [hk0]
    exact this
  rw [efill]
  have eA:(⟨some ⟨g,0,none⟩,ds.length,ds.length,5,1,u8Xs (ds.map fun c=>48+c - 1)⟩:AE)=u8E (some ⟨g,0,none⟩) ds.length (ds.map fun c=>48+c - 1):=by
    unfold u8E
    rw [List.length_map]
  rw [eA]
  have hx7:=x.toNat_lt
  have hy7:=y.toNat_lt
  (repeat (first | refine cj_seq ?_ | refine cj_exit ?_ | refine nj_then ?_ | refine nj_then_exit ?_ | refine nj_block_out ?_))
  refine cj_draw [(0,.pure),(1,.pure),(2,.quiet),(3,.pure),(4,.pure),(5,.quiet),(6,.pure),(7,.pure),(8,.pure),(9,.pure),(10,.quiet),(11,.pure),(12,.pure),(13,.pure),(14,.pure),(15,.pure),(16,.pure),(17,.keep),(18,.sink)] mixed (by kernel_rfl) (oj_run TT rfl ?_)
  refine oj_strOfA 0 TT rfl rfl rfl rfl rfl rfl rfl rfl rfl rfl rfl rfl rfl (by rw [List.length_map]) (oj_run TT rfl ?_)
  refine oj_idx TT rfl rfl rfl rfl rfl rfl rfl rfl rfl HS (by omega) (r:=[.v (.int .u8 x.toNat)]) rfl (oj_run TT rfl ?_)
  refine oj_conv TT (x.toNat:Int) rfl rfl rfl rfl rfl rfl rfl rfl (wrap64 x) (oj_run TT rfl ?_)
  refine oj_bshl rfl rfl rfl rfl rfl rfl (by decide) ?_
  rw [shl64 x]
  refine oj_run TT rfl ?_
  refine oj_idx TT rfl rfl rfl rfl rfl rfl rfl rfl rfl HS (by omega) (r:=[.v (.int .u8 y.toNat)]) rfl (oj_run TT rfl ?_)
  refine oj_conv TT (y.toNat:Int) rfl rfl rfl rfl rfl rfl rfl rfl (wrap64 y) (oj_run TT rfl ?_)
  refine oj_add rfl rfl rfl rfl rfl rfl (by omega) (oj_run TT rfl ?_)
  refine oj_minus rfl rfl rfl rfl rfl rfl (by omega) (oj_run TT rfl ?_)
  refine oj_minus rfl rfl rfl rfl rfl rfl (by omega) (oj_run TT rfl ?_)
  (repeat (first | refine cj_seq ?_ | refine cjr TT rfl ?_ | refine oj_then ?_))
  refine oj_callP rfl rfl rfl rfl rfl Tryd.call34 (by (repeat' (first | exact trivial | refine AllLt.of ?_ | constructor))) (decSane_c s (decOf neg x y ds) (by show (mkB _).size<=_;rw [mkB_size,List.length_map];unfold mostLen;omega)) fun v hv=>⟨.a (.b (decSane (decOf neg x y ds))),trivial,hv.symm,?_⟩
  refine oj_run TT rfl ?_
  (repeat refine oj_then ?_)
  refine cj_if rfl (fun h=>?_) (fun h=>?_)
  · have h:decSane (decOf neg x y ds)=false:=by simpa using h
    rw [if_pos h]
    (repeat (first | refine cj_seq ?_ | refine cjr TT rfl ?_ | refine oj_then ?_ | refine cj_ret ?_ | refine nj_then_ret ?_))
    refine nj_ret TT rfl fun β w' _ _=>?_
    rfl
  have h:decSane (decOf neg x y ds)=true:=by simpa using h
  rw [if_neg (by rw [h];decide)]
  have HB2:=u8_drop H (k:=3+ds.length) (by omega)
  (repeat (first | refine cj_seq ?_ | refine cj_skip ?_ | refine nj_then ?_))
  refine cj_draw [(0,.quiet),(1,.pure),(2,.pure),(3,.pure),(4,.pure),(5,.pure),(6,.sink),(7,.pure)] mixed (by kernel_rfl) (oj_run TT rfl ?_)
  refine oj_add rfl rfl rfl rfl rfl rfl (by omega) (oj_run TT rfl ?_)
  refine oj_from TT (3+ds.length) rfl rfl rfl rfl rfl rfl rfl rfl rfl rfl (by omega) (by omega) H.ncap (oj_run TT rfl ?_)
  (repeat (first | refine oj_then ?_ | refine cj_ret ?_))
  refine nj_ret TT rfl fun β w' _ _=>?_
  exact FirstOk.of (p:=⟨2,false,decOf neg x y ds,emptyB,0⟩) HB2
def txtP (p:List UInt8×List UInt8):GPart×List UInt8:=(⟨3,false,dec0,mkB p.1,0⟩,p.2)
theorem text_cons {c:UInt8} (h:c≠0):∀ (l:List UInt8),textG (c::l)=(textG l).map fun p=>(c::p.1,p.2)
  | []=>rfl
  | d::r=>by rw [textG,if_pos h]
theorem text_pre:∀ (a l:List UInt8),(∀ c∈a,c≠0)->textG (a++l)=(textG l).map fun p=>(a++p.1,p.2)
  | [],l,_=>by
    rw [List.nil_append]
    cases textG l<;>rfl
  | c::a,l,h=>by
    rw [List.cons_append,text_cons (h c List.mem_cons_self),text_pre a l fun x hx=>h x (List.mem_cons_of_mem c hx),Option.map_map]
    rfl
theorem text_none {l:List UInt8} (h:∀ c∈l,c≠0):textG l=none:=by
  have:=text_pre l [] h
  rw [List.append_nil] at this
  rw [this]
  rfl
theorem text_end {a:List UInt8} (h:∀ c∈a,c≠0):textG (a++[0])=none:=by rw [text_pre a [0] h];rfl
structure TxS where
  l:List UInt8
  ad:Addr
  cap:Nat
  out:List UInt8
  oo:Option Addr
  oc:Nat
set_option maxRecDepth 100000 in
set_option maxHeartbeats 4000000 in
theorem text_c (σ:Snap) (b:List UInt8) (hb:b.length<=1000000) (ba:Addr) (bc:Nat) (H:SlAt σ (some ba) b.length bc 1 (u8Rows b)) :
    PureS Tryd.prog 51 [.a (.v (.slice (some ba) b.length bc))] σ (fun v σ'=>FirstOk σ' ((textG b).map txtP) v):=by
  refine enter_s Tryd.func51 rfl rfl (by (repeat' (first | exact trivial | constructor))) fun w=>?_
  (repeat (first | refine cj_seq ?_ | refine cjr TT rfl ?_ | refine oj_then ?_ | refine cj_block ?_))
  refine cj_nilarr 5 1 ?_
  refine cj_loop (fun (_:TxS)=>σ) (fun t=>[(0,.a (.v (.slice (some t.ad) t.l.length t.cap))),(2,.a (.p 0 0)),(3,.a (.v (.slice none 0 0))),(4,.a (.v (.slice t.oo t.out.length t.oc)))]) (fun _=>[(0,.loc 49,zeroP)]) (fun t=>[u8E t.oo t.oc t.out]) 1
    (fun t=>SlAt σ (some t.ad) t.l.length t.cap 1 (u8Rows t.l)/\t.out.length<=t.oc/\textG b=((textG t.l).map fun p=>(t.out++p.1,p.2))/\t.out.length+t.l.length<=b.length) (fun t=>t.l.length) ⟨b,ba,bc,[],none,0⟩ ⟨H,Nat.le_refl _,(by cases textG b<;>rfl),(by show 0+b.length<=_;omega)⟩ rfl (by (repeat first | exact trivial | refine ⟨rfl,?_⟩)) (by (repeat first | exact trivial | refine ⟨rfl,?_⟩)) rfl (by (repeat' (first | exact trivial | exact Nat.le_of_ble_eq_true rfl | constructor))) (by (repeat' (first | exact trivial | exact Nat.le_of_ble_eq_true rfl | refine AllLt.of ?_ | constructor))) fun ⟨l,ad,cap,out,oo,oc⟩ ⟨HL,hoc,htx,hle⟩=>?_
  dsimp only at HL hoc htx hle ⊢
  (repeat (first | refine cj_seq ?_ | refine cjr TT rfl ?_ | refine cj_block ?_))
  refine oj_callP rfl rfl rfl rfl rfl Tryd.call69 (by (repeat' (first | exact trivial | constructor))) (IndexByte_c σ l l.length _ _ HL) fun v hv=>⟨.a (.v (.int .i64 (Lib.indexByte l 0))),trivial,hv.symm,?_⟩
  refine oj_run TT rfl ?_
  (repeat (first | refine cj_seq ?_ | refine cjr TT rfl ?_ | refine oj_then ?_))
  rcases idx_split l with ⟨hi,hz⟩ | ⟨a,r,rfl,hz,hi⟩
  · rw [Lib.index_one] at hi
    rw [hi]
    rw [text_none hz] at htx
    rw [htx]
    refine oj_split 11 rfl (fun _=>?_) (fun h=>absurd (show decide ((-1:Int)<0)=false from h) (by decide))
    refine oj_run TT rfl ?_
    (repeat (first | refine cj_seq ?_ | refine cjr TT rfl ?_ | refine oj_then ?_ | refine cj_if_t rfl ?_ | refine cj_ret ?_ | refine nj_then_ret ?_ | refine nj_block_ret ?_))
    refine nj_ret TT rfl fun β w' _ _=>?_
    rfl
  rw [Lib.index_one] at hi
  rw [hi]
  have hll:(a++0::r).length=a.length+r.length+1:=by rw [List.length_append,List.length_cons];omega
  rw [hll] at HL hle ⊢
  refine oj_split 11 rfl (fun h=>absurd (of_decide_eq_true (show decide ((a.length:Int)<0)=true from h)) (by omega)) (fun _=>?_)
  refine oj_run TT rfl ?_
  refine oj_add rfl rfl rfl rfl rfl rfl (by omega) (oj_run TT rfl ?_)
  (repeat refine oj_then ?_)
  refine cj_if rfl (fun h=>?_) (fun h=>?_)
  · have h:=of_decide_eq_true (show decide (((a.length+r.length+1:Nat):Int)<=(a.length:Int)+1)=true from h)
    have hr:r=[]:=List.eq_nil_of_length_eq_zero (by omega)
    subst hr
    rw [text_end hz] at htx
    rw [htx]
    (repeat (first | refine cj_seq ?_ | refine cjr TT rfl ?_ | refine oj_then ?_ | refine cj_ret ?_ | refine nj_then_ret ?_ | refine nj_block_ret ?_))
    refine nj_ret TT rfl fun β w' _ _=>?_
    rfl
  have h:=of_decide_eq_false (show decide (((a.length+r.length+1:Nat):Int)<=(a.length:Int)+1)=false from h)
  cases r with
  | nil=>exact absurd h (by simp)
  | cons d r =>
    rw [List.length_cons] at hll HL hle h ⊢
    have hF:=u8_front HL (k:=a.length) (by omega)
    rw [List.take_left] at hF
    have HR:=u8_drop HL (k:=a.length+2) (by omega)
    have e4:(a++0::d::r).drop (a.length+2)=r:=by
      rw [show a++0::d::r=(a++[0,d])++r by simp,show a.length+2=(a++[0,d]).length by simp]
      exact List.drop_left
    rw [e4,show a.length+(r.length+1)+1 - (a.length+2)=r.length by omega] at HR
    have hrow:∀ z:Int,z=(a.length:Int)+1->(u8Rows (a++0::d::r))[z.toNat]?=some [.v (.int .u8 d.toNat)]:=fun z hz=>by
      rw [hz,show ((a.length:Int)+1).toNat=a.length+1 by omega]
      refine u8Rows_get ?_
      rw [List.getElem?_append_right (by omega),show a.length+1 - a.length=1 by omega]
      rfl
    have hnc:=HL.ncap
    rw [text_pre a _ hz] at htx
    (repeat (first | refine cj_seq ?_ | refine cjr TT rfl ?_ | refine cj_skip ?_ | refine nj_then ?_))
    refine oj_slice_to TT a.length rfl rfl rfl rfl rfl rfl rfl rfl rfl rfl (by omega) HL.ncap (oj_run TT rfl ?_)
    refine oj_append_sl TT 0 rfl rfl rfl rfl rfl rfl rfl hF rfl rfl rfl rfl rfl rfl rfl rfl rfl (fun r hr=>(u8Rows_all _ r hr).2.2) (by omega) (by show (out.length+a.length)*1<=_;omega) fun o1 c1 hc1=>oj_run TT rfl ?_
    (repeat (first | refine cj_seq ?_ | refine cjr TT rfl ?_ | refine oj_then ?_ | (refine oj_add rfl rfl rfl rfl rfl rfl (by omega) ?_;refine oj_run TT rfl ?_)))
    refine oj_idx TT rfl rfl rfl rfl rfl rfl rfl rfl rfl HL (by omega) (hrow _ rfl) (oj_run TT rfl ?_)
    (repeat (first | refine cj_seq ?_ | refine cjr TT rfl ?_ | refine oj_then ?_ | (refine oj_add rfl rfl rfl rfl rfl rfl (by omega) ?_;refine oj_run TT rfl ?_)))
    refine oj_from TT (a.length+2) rfl rfl rfl rfl rfl rfl rfl rfl rfl rfl (by omega) (by omega) HL.ncap ?_
    rw [show a.length+(r.length+1)+1 - (a.length+2)=r.length by omega]
    refine oj_run TT rfl ?_
    (repeat (first | refine cj_seq ?_ | refine cjr TT rfl ?_ | refine oj_then ?_ | refine cj_block ?_))
    have hoa:(out++a).length=out.length+a.length:=List.length_append
    have eA:(⟨o1,out.length+a.length,c1,5,1,u8Xs out++(u8Rows a).flatten.map AT.val⟩:AE)=u8E o1 c1 (out++a):=by
      unfold u8E
      rw [hoa,u8Xs_append,u8Xs_flat]
    rw [show ([u8E oo oc out].set 0 ⟨o1,out.length+a.length,c1,(u8E oo oc out).e,(u8E oo oc out).sz,(u8E oo oc out).xs++(u8Rows a).flatten.map AT.val⟩)=[u8E o1 c1 (out++a)] from congrArg (fun x=>[x]) eA,<-hoa]
    rw [<-hoa] at hc1
    refine cj_if rfl (fun h0=>?_) (fun h0=>?_)
    · have hd:d=0:=by
        have:=of_decide_eq_true (show decide ((d.toNat:Int)=0)=true from h0)
        exact UInt8.toNat_inj.1 (by show d.toNat=0;omega)
      subst hd
      have e5:textG (0::0::r)=some ([],r):=by rw [textG,if_neg (by decide),if_pos rfl]
      have e6:(textG b).map txtP=some ((⟨3,false,dec0,mkB (out++a),0⟩:GPart),r):=by
        rw [htx,e5]
        simp [txtP]
      rw [e6]
      (repeat (first | refine cj_seq ?_ | refine cjr TT rfl ?_))
      refine oj_strOfA 0 TT rfl rfl rfl rfl rfl rfl rfl rfl rfl rfl rfl rfl rfl rfl (oj_run TT rfl ?_)
      (repeat (first | refine oj_then ?_ | refine cj_ret ?_ | refine nj_then_ret ?_ | refine nj_block_ret ?_))
      refine nj_ret TT rfl fun β w' _ _=>?_
      exact FirstOk.of (p:=⟨3,false,dec0,mkB (out++a),0⟩) HR
    have hd0:d≠0:=fun e=>by
      have:=of_decide_eq_false (show decide ((d.toNat:Int)=0)=false from h0)
      rw [e] at this
      exact this rfl
    (repeat (first | refine cj_seq ?_ | refine cjr TT rfl ?_ | refine oj_then ?_))
    refine cj_if rfl (fun h1=>?_) (fun h1=>?_)
    · have hd:d=255:=by
        have:=of_decide_eq_true (show decide ((d.toNat:Int)=255)=true from h1)
        exact UInt8.toNat_inj.1 (by show d.toNat=255;omega)
      subst hd
      have e5:textG (0::255::r)=(textG r).map fun p=>(0::p.1,p.2):=by rw [textG,if_neg (by decide),if_neg (by decide),if_pos rfl]
      (repeat refine cjr TT rfl ?_)
      refine oj_append_lit TT 0 rfl rfl rfl rfl rfl rfl rfl rfl rfl rfl rfl rfl rfl rfl rfl rfl rfl rfl (by (repeat' (first | exact trivial | refine AllLt.of ?_ | constructor))) rfl (by omega) (by show ((out++a).length+1)*1<=_;omega) fun o2 c2 hc2=>oj_run TT rfl ?_
      (repeat (first | refine oj_nil ?_ | refine nj_block ?_))
      have hl2:(out++a++[0]).length=(out++a).length+1:=by rw [List.length_append];rfl
      refine nj_again (⟨r,dropA ad cap (a.length+2),cap - (a.length+2),out++a++[0],o2,c2⟩:TxS) ⟨HR,by dsimp only;omega,?_,by dsimp only;omega⟩ (by dsimp only;omega) rfl ?_ (by (repeat first | exact trivial | refine ⟨rfl,?_⟩)) ?_ (by (repeat' (first | exact trivial | exact Nat.le_of_ble_eq_true rfl | constructor))) (by (repeat' (first | exact trivial | exact Nat.le_of_ble_eq_true rfl | refine AllLt.of ?_ | constructor)))
      · dsimp only
        rw [htx,e5,Option.map_map,Option.map_map]
        congr 1
        funext p
        simp
      · dsimp only
        rw [hl2]
        (repeat first | exact trivial | refine ⟨rfl,?_⟩)
      · show [_]=[_]
        dsimp only
        unfold u8E
        rw [hl2,u8Xs_append]
        rfl
    · have hd1:d≠255:=fun e=>by
        have:=of_decide_eq_false (show decide ((d.toNat:Int)=255)=false from h1)
        rw [e] at this
        exact this rfl
      have e5:textG (0::d::r)=none:=by rw [textG,if_neg (by decide),if_neg hd0,if_neg hd1]
      have e6:(textG b).map txtP=none:=by rw [htx,e5];rfl
      rw [e6]
      (repeat (first | refine cj_seq ?_ | refine cjr TT rfl ?_ | refine oj_then ?_ | refine cj_ret ?_ | refine nj_then_ret ?_ | refine nj_block_ret ?_))
      refine nj_ret TT rfl fun β w' _ _=>?_
      rfl
end Go.Sy
namespace Go.Sy
open Go.Proofs
theorem shl64_24:∀ c:UInt8,bShl .i64 (c.toNat:Int) 24=(c.toNat:Int)*16777216:=all8 (by decide +kernel)
theorem shl64_16:∀ c:UInt8,bShl .i64 (c.toNat:Int) 16=(c.toNat:Int)*65536:=all8 (by decide +kernel)
theorem or64 (x y:Nat) (k:Nat) (hk:x % 2 ^ k=0) (hy:y<2 ^ k) (hx:x<4294967296) (hk2:k<=32):bOr .i64 (x:Int) (y:Int)=((x+y:Nat):Int):=by
  have e1:bOr .i64 (x:Int) (y:Int)=IntKind.i64.wrap (((BitVec.ofInt 64 (x:Int)) ||| (BitVec.ofInt 64 (y:Int))).toNat:Int):=rfl
  have hy2:y<4294967296:=Nat.lt_of_lt_of_le hy (Nat.le_trans (Nat.pow_le_pow_right (by decide) hk2) (by decide))
  have e2:((BitVec.ofInt 64 (x:Int)) ||| (BitVec.ofInt 64 (y:Int))).toNat=x ||| y:=by
    rw [BitVec.toNat_or,BitVec.toNat_ofInt,BitVec.toNat_ofInt]
    congr 1<;>omega
  have e3:x ||| y=x+y:=by
    obtain ⟨q,rfl⟩:∃ q,x=2 ^ k*q:=⟨x / 2 ^ k,by have:=Nat.div_add_mod x (2 ^ k);omega⟩
    rw [Nat.two_pow_add_eq_or_of_lt hy]
  rw [e1,e2,e3]
  have h:x+y<9223372036854775808:=by omega
  unfold IntKind.wrap
  show (if (true&&decide (((x+y:Nat):Int) % 18446744073709551616≥9223372036854775808))=true then _ else ((x+y:Nat):Int) % 18446744073709551616)=_
  have e:((x+y:Nat):Int) % 18446744073709551616=(x+y:Nat):=by omega
  rw [e,if_neg (by simp;omega)]
theorem zeroP_lt (n:Nat):∀ c∈zeroP,c.lt n:=by simp [zeroP,AT.lt]
theorem or_ab (a b:UInt8):bOr .i64 ((a.toNat:Int)*16777216) ((b.toNat:Int)*65536)=(a.toNat:Int)*16777216+(b.toNat:Int)*65536:=by
  have ha:=a.toNat_lt
  have hb:=b.toNat_lt
  have:=or64 (a.toNat*16777216) (b.toNat*65536) 24 (by omega) (by omega) (by omega) (by decide)
  simpa using this
theorem or_abc (a b c:UInt8):bOr .i64 ((a.toNat:Int)*16777216+(b.toNat:Int)*65536) ((c.toNat:Int)*256)=(a.toNat:Int)*16777216+(b.toNat:Int)*65536+(c.toNat:Int)*256:=by
  have ha:=a.toNat_lt
  have hb:=b.toNat_lt
  have hc:=c.toNat_lt
  have:=or64 (a.toNat*16777216+b.toNat*65536) (c.toNat*256) 16 (by omega) (by omega) (by omega) (by decide)
  simpa using this
theorem or_abcd (a b c d:UInt8):bOr .i64 ((a.toNat:Int)*16777216+(b.toNat:Int)*65536+(c.toNat:Int)*256) (d.toNat:Int)=(a.toNat:Int)*16777216+(b.toNat:Int)*65536+(c.toNat:Int)*256+d.toNat:=by
  have ha:=a.toNat_lt
  have hb:=b.toNat_lt
  have hc:=c.toNat_lt
  have hd:=d.toNat_lt
  have:=or64 (a.toNat*16777216+b.toNat*65536+c.toNat*256) d.toNat 8 (by omega) (by omega) (by omega) (by decide)
  simpa using this
theorem first80_short {r:List UInt8} (h:r.length<4):firstG (80::r)=none:=by
  match r,h with
  | [],_=>rfl
  | [_],_=>rfl
  | [_,_],_=>rfl
  | [_,_,_],_=>rfl
  | _::_::_::_::r,h=>simp at h;omega
set_option maxRecDepth 100000 in
set_option maxHeartbeats 4000000 in
theorem first_c (σ:Snap) (t:UInt8) (r:List UInt8) (hb:r.length<=999999) (ao:Option Addr) (cap:Nat) (H:SlAt σ ao (r.length+1) cap 1 (u8Rows (t::r))) :
    PureS Tryd.prog 39 [.a (.v (.slice ao (r.length+1) cap))] σ (fun v σ'=>FirstOk σ' (firstG (t::r)) v):=by
  obtain ⟨ad,rfl⟩:=H.at0 (by omega)
  have HR:=u8_drop H (k:=1) (by omega)
  rw [show (t::r).drop 1=r from rfl,show r.length+1 - 1=r.length by omega] at HR
  have hrow:(u8Rows (t::r))[(0:Int).toNat]?=some [.v (.int .u8 t.toNat)]:=rfl
  have hu:∀ (k:UInt8) (b:Bool),decide ((t.toNat:Int)=k.toNat)=b->decide (t=k)=b:=fun k b h=>by
    rw [<-h,Bool.eq_iff_iff,decide_eq_true_eq,decide_eq_true_eq]
    exact ⟨fun e=>by rw [e],fun e=>UInt8.toNat_inj.1 (by omega)⟩
  refine enter_s Tryd.func39 rfl rfl (by (repeat' (first | exact trivial | constructor))) fun w=>?_
  (repeat (first | refine cj_seq ?_ | refine cjr TT rfl ?_ | refine oj_then ?_))
  refine oj_from TT 1 rfl rfl rfl rfl rfl rfl rfl rfl rfl rfl rfl (by omega) H.ncap ?_
  rw [show r.length+1 - 1=r.length by omega]
  refine oj_run TT rfl ?_
  (repeat (first | refine cj_seq ?_ | refine cjr TT rfl ?_ | refine oj_then ?_))
  refine oj_idx TT rfl rfl rfl rfl rfl rfl rfl rfl rfl H (by omega) (r:=[.v (.int .u8 t.toNat)]) hrow (oj_run TT rfl ?_)
  (repeat (first | refine cj_seq ?_ | refine cjr TT rfl ?_ | refine oj_then ?_ | refine cj_block ?_))
  refine cj_if rfl (fun h=>?_) (fun h=>?_)
  · have h:=of_decide_eq_true (hu 16 true h)
    subst h
    (repeat (first | refine cj_seq ?_ | refine cjr TT rfl ?_ | refine oj_then ?_ | refine cj_ret ?_ | refine nj_then_ret ?_ | refine nj_block_ret ?_))
    refine nj_ret TT rfl fun β w' _ _=>?_
    exact FirstOk.of (p:=part0) HR
  have h16:=of_decide_eq_false (hu 16 false h)
  (repeat (first | refine cj_seq ?_ | refine cjr TT rfl ?_ | refine oj_then ?_))
  refine cj_cutN (fun (_:Unit)=>σ) (fun _=>[(0,.a (.v (.slice (some ad) (r.length+1) cap))),(2,.a (.p 0 0)),(3,.a (.v (.slice none 0 0))),(4,.a (.v (.slice (some (dropA ad cap 1)) r.length (cap - 1)))),(9,.a (.v (.int .u8 t.toNat))),(14,.a (.b (decide (t=32\/t=33))))]) (fun _=>[(0,.loc 49,zeroP)]) (fun _=>[]) 1 (fun _=>True) ?_ (fun _ _=>?_)
  · refine cj_if rfl (fun h=>?_) (fun h=>?_)
    · have h:=of_decide_eq_true (hu 32 true h)
      (repeat refine cj_skip ?_)
      refine nj_set 14 (.a (.b (decide (t=32\/t=33)))) rfl trivial (fun _=>by subst h;rfl) ?_
      refine nj_again () trivial Nat.zero_lt_one rfl (by (repeat first | exact trivial | refine ⟨rfl,?_⟩)) (by (repeat first | exact trivial | refine ⟨rfl,?_⟩)) rfl (by (repeat' (first | exact trivial | exact Nat.le_of_ble_eq_true rfl | constructor))) (by (repeat' (first | exact trivial | exact Nat.le_of_ble_eq_true rfl | refine AllLt.of ?_ | constructor)))
    · have h:=of_decide_eq_false (hu 32 false h)
      (repeat (first | refine cjr TT rfl ?_ | refine oj_nil ?_))
      refine nj_set 14 (.a (.b (decide (t=32\/t=33)))) rfl trivial (fun _=>by
        show Value.bool (decide ((t.toNat:Int)=33))=.bool _
        congr 1
        have e33:decide (t=33)=decide ((t.toNat:Int)=33):=hu 33 _ rfl
        rw [<-e33,Bool.eq_iff_iff,decide_eq_true_eq,decide_eq_true_eq]
        exact ⟨.inr,fun q=>q.resolve_left h⟩) ?_
      refine nj_again () trivial Nat.zero_lt_one rfl (by (repeat first | exact trivial | refine ⟨rfl,?_⟩)) (by (repeat first | exact trivial | refine ⟨rfl,?_⟩)) rfl (by (repeat' (first | exact trivial | exact Nat.le_of_ble_eq_true rfl | constructor))) (by (repeat' (first | exact trivial | exact Nat.le_of_ble_eq_true rfl | refine AllLt.of ?_ | constructor)))
  refine cj_if rfl (fun h=>?_) (fun h=>?_)
  · have h:=of_decide_eq_true (show decide (t=32\/t=33)=true from h)
    have e:firstG (t::r)=some (⟨1,decide (t=33),dec0,emptyB,0⟩,r):=by unfold firstG;dsimp only;rw [if_neg h16,if_pos h]
    rw [e,hu 33 _ rfl]
    (repeat (first | refine cj_seq ?_ | refine cjr TT rfl ?_))
    refine oj_idx TT rfl rfl rfl rfl rfl rfl rfl rfl rfl H (by omega) (r:=[.v (.int .u8 t.toNat)]) hrow (oj_run TT rfl ?_)
    (repeat (first | refine oj_then ?_ | refine cj_ret ?_ | refine nj_then_ret ?_ | refine nj_block_ret ?_))
    refine nj_ret TT rfl fun β w' _ _=>?_
    exact FirstOk.of (p:=⟨1,decide ((t.toNat:Int)=33),dec0,emptyB,0⟩) HR
  have h32:=of_decide_eq_false (show decide (t=32\/t=33)=false from h)
  (repeat (first | refine cj_seq ?_ | refine cjr TT rfl ?_ | refine oj_then ?_))
  refine cj_if rfl (fun h=>?_) (fun h=>?_)
  · have h:=of_decide_eq_true (hu 49 true h)
    have e:firstG (t::r)=some (⟨2,false,dec0,emptyB,0⟩,r):=by unfold firstG;dsimp only;rw [if_neg h16,if_neg h32,if_pos h]
    rw [e]
    (repeat (first | refine cj_seq ?_ | refine cjr TT rfl ?_ | refine oj_then ?_ | refine cj_ret ?_ | refine nj_then_ret ?_ | refine nj_block_ret ?_))
    refine nj_ret TT rfl fun β w' _ _=>?_
    exact FirstOk.of (p:=⟨2,false,dec0,emptyB,0⟩) HR
  have h49:=of_decide_eq_false (hu 49 false h)
  (repeat (first | refine cj_seq ?_ | refine cjr TT rfl ?_ | refine oj_then ?_))
  refine cj_cutN (fun (_:Unit)=>σ) (fun _=>[(0,.a (.v (.slice (some ad) (r.length+1) cap))),(2,.a (.p 0 0)),(3,.a (.v (.slice none 0 0))),(4,.a (.v (.slice (some (dropA ad cap 1)) r.length (cap - 1)))),(9,.a (.v (.int .u8 t.toNat))),(27,.a (.b (decide (t=48\/t=50))))]) (fun _=>[(0,.loc 49,zeroP)]) (fun _=>[]) 1 (fun _=>True) ?_ (fun _ _=>?_)
  · refine cj_if rfl (fun h=>?_) (fun h=>?_)
    · have h:=of_decide_eq_true (hu 48 true h)
      (repeat refine cj_skip ?_)
      refine nj_set 27 (.a (.b (decide (t=48\/t=50)))) rfl trivial (fun _=>by subst h;rfl) ?_
      refine nj_again () trivial Nat.zero_lt_one rfl (by (repeat first | exact trivial | refine ⟨rfl,?_⟩)) (by (repeat first | exact trivial | refine ⟨rfl,?_⟩)) rfl (by (repeat' (first | exact trivial | exact Nat.le_of_ble_eq_true rfl | constructor))) (by (repeat' (first | exact trivial | exact Nat.le_of_ble_eq_true rfl | refine AllLt.of ?_ | constructor)))
    · have h:=of_decide_eq_false (hu 48 false h)
      (repeat (first | refine cjr TT rfl ?_ | refine oj_nil ?_))
      refine nj_set 27 (.a (.b (decide (t=48\/t=50)))) rfl trivial (fun _=>by
        show Value.bool (decide ((t.toNat:Int)=50))=.bool _
        congr 1
        have e50:decide (t=50)=decide ((t.toNat:Int)=50):=hu 50 _ rfl
        rw [<-e50,Bool.eq_iff_iff,decide_eq_true_eq,decide_eq_true_eq]
        exact ⟨.inr,fun q=>q.resolve_left h⟩) ?_
      refine nj_again () trivial Nat.zero_lt_one rfl (by (repeat first | exact trivial | refine ⟨rfl,?_⟩)) (by (repeat first | exact trivial | refine ⟨rfl,?_⟩)) rfl (by (repeat' (first | exact trivial | exact Nat.le_of_ble_eq_true rfl | constructor))) (by (repeat' (first | exact trivial | exact Nat.le_of_ble_eq_true rfl | refine AllLt.of ?_ | constructor)))
  refine cj_if rfl (fun h=>?_) (fun h=>?_)
  · have h:=of_decide_eq_true (show decide (t=48\/t=50)=true from h)
    have e:firstG (t::r)=(numberG r (decide (t=48))).map numP:=by unfold firstG;dsimp only;rw [if_neg h16,if_neg h32,if_neg h49,if_pos h];rfl
    have e48:decide (t=48)=decide ((t.toNat:Int)=48):=hu 48 _ rfl
    rw [e,e48]
    (repeat (first | refine cj_seq ?_ | refine cjr TT rfl ?_))
    refine oj_idx TT rfl rfl rfl rfl rfl rfl rfl rfl rfl H (by omega) (r:=[.v (.int .u8 t.toNat)]) hrow (oj_run TT rfl ?_)
    refine oj_callS rfl rfl rfl rfl rfl Tryd.call50 ⟨trivial,trivial,trivial⟩ (number_c σ r (by omega) _ _ HR (decide ((t.toNat:Int)=48))) fun v s1 hle1 hv=>?_
    cases hn:numberG r (decide ((t.toNat:Int)=48)) with
    | none =>
      rw [hn] at hv
      refine ⟨.tup [.agg zeroP,.a (.v (.slice none 0 0))],(by intro x hx;simp only [List.mem_cons,List.not_mem_nil,or_false] at hx;rcases hx with rfl | rfl;exact zeroP_lt 0;trivial),hv.symm,?_⟩
      refine oj_run TT rfl ?_
      (repeat (first | refine oj_then ?_ | refine cj_ret ?_ | refine nj_then_ret ?_ | refine nj_block_ret ?_))
      refine nj_ret TT rfl fun β w' _ _=>?_
      rfl
    | some p =>
      rw [hn] at hv
      obtain ⟨ad2,rc,hv,HR2⟩:=hv
      refine ⟨.tup [.agg (paCells (numP p).1),.a (.v (.slice (some ad2) (numP p).2.length rc))],(by intro x hx;simp only [List.mem_cons,List.not_mem_nil,or_false] at hx;rcases hx with rfl | rfl;exact paCells_lt 0 _;trivial),hv.symm,?_⟩
      refine oj_run TT rfl ?_
      (repeat (first | refine oj_then ?_ | refine cj_ret ?_ | refine nj_then_ret ?_ | refine nj_block_ret ?_))
      refine nj_ret TT rfl fun β w' _ _=>?_
      exact ⟨ad2,rc,rfl,HR2⟩
  have h48:=of_decide_eq_false (show decide (t=48\/t=50)=false from h)
  (repeat (first | refine cj_seq ?_ | refine cjr TT rfl ?_ | refine oj_then ?_))
  refine cj_if rfl (fun h=>?_) (fun h=>?_)
  · have h:=of_decide_eq_true (hu 64 true h)
    have e:firstG (t::r)=(textG r).map txtP:=by unfold firstG;dsimp only;rw [if_neg h16,if_neg h32,if_neg h49,if_neg h48,if_pos h];rfl
    rw [e]
    (repeat (first | refine cj_seq ?_ | refine cjr TT rfl ?_))
    refine oj_callS rfl rfl rfl rfl rfl Tryd.call51 ⟨trivial,trivial⟩ (text_c σ r (by omega) _ _ HR) fun v s1 hle1 hv=>?_
    cases hn:textG r with
    | none =>
      rw [hn] at hv
      refine ⟨.tup [.agg zeroP,.a (.v (.slice none 0 0))],(by intro x hx;simp only [List.mem_cons,List.not_mem_nil,or_false] at hx;rcases hx with rfl | rfl;exact zeroP_lt 0;trivial),hv.symm,?_⟩
      refine oj_run TT rfl ?_
      (repeat (first | refine oj_then ?_ | refine cj_ret ?_ | refine nj_then_ret ?_ | refine nj_block_ret ?_))
      refine nj_ret TT rfl fun β w' _ _=>?_
      rfl
    | some p =>
      rw [hn] at hv
      obtain ⟨ad2,rc,hv,HR2⟩:=hv
      refine ⟨.tup [.agg (paCells (txtP p).1),.a (.v (.slice (some ad2) (txtP p).2.length rc))],(by intro x hx;simp only [List.mem_cons,List.not_mem_nil,or_false] at hx;rcases hx with rfl | rfl;exact paCells_lt 0 _;trivial),hv.symm,?_⟩
      refine oj_run TT rfl ?_
      (repeat (first | refine oj_then ?_ | refine cj_ret ?_ | refine nj_then_ret ?_ | refine nj_block_ret ?_))
      refine nj_ret TT rfl fun β w' _ _=>?_
      exact ⟨ad2,rc,rfl,HR2⟩
  have h64:=of_decide_eq_false (hu 64 false h)
  (repeat (first | refine cj_seq ?_ | refine cjr TT rfl ?_ | refine oj_then ?_))
  refine cj_if rfl (fun h=>?_) (fun h=>?_)
  · have h:=of_decide_eq_true (hu 80 true h)
    (repeat (first | refine cj_seq ?_ | refine cjr TT rfl ?_ | refine oj_then ?_))
    refine cj_if rfl (fun h4=>?_) (fun h4=>?_)
    · have h4:=of_decide_eq_true (show decide ((4:Int)<=r.length)=true from h4)
      match r,hb,H,HR,hrow,h4 with
      | [],_,_,_,_,h4=>exact absurd h4 (by show ¬ (4:Int)<=0;decide)
      | [_],_,_,_,_,h4=>exact absurd h4 (by show ¬ (4:Int)<=1;decide)
      | [_,_],_,_,_,_,h4=>exact absurd h4 (by show ¬ (4:Int)<=2;decide)
      | [_,_,_],_,_,_,_,h4=>exact absurd h4 (by show ¬ (4:Int)<=3;decide)
      | a::b::c::d::r,hb,H,HR,hrow,h4 =>
        subst h
        have hl4:(a::b::c::d::r).length=r.length+4:=rfl
        have HR4:=u8_drop HR (k:=4) (by omega)
        rw [show (a::b::c::d::r).drop 4=r from rfl,hl4,show r.length+4 - 4=r.length by omega] at HR4
        have e:firstG (80::a::b::c::d::r)=some (⟨9,false,dec0,emptyB,(a.toNat:Int)*16777216+(b.toNat:Int)*65536+(c.toNat:Int)*256+d.toNat⟩,r):=rfl
        rw [e]
        (repeat refine cj_seq ?_)
        refine cj_draw [(0,.pure),(1,.pure),(2,.quiet),(3,.pure),(4,.pure),(5,.pure),(6,.pure),(7,.quiet),(8,.pure),(9,.pure),(10,.pure),(11,.pure),(12,.pure),(13,.quiet),(14,.pure),(15,.pure),(16,.pure),(17,.pure),(18,.pure),(19,.quiet),(20,.pure),(21,.pure),(22,.pure),(23,.pure),(24,.pure),(25,.sink),(26,.pure)] mixed (by kernel_rfl) (oj_run TT rfl ?_)
        refine oj_idx TT rfl rfl rfl rfl rfl rfl rfl rfl rfl HR (by omega) (r:=[.v (.int .u8 a.toNat)]) rfl (oj_run TT rfl ?_)
        refine oj_conv TT (a.toNat:Int) rfl rfl rfl rfl rfl rfl rfl rfl (wrap64 a) (oj_run TT rfl ?_)
        refine oj_bshl rfl rfl rfl rfl rfl rfl (by decide) ?_
        rw [shl64_24 a]
        refine oj_run TT rfl ?_
        refine oj_idx TT rfl rfl rfl rfl rfl rfl rfl rfl rfl HR (by omega) (r:=[.v (.int .u8 b.toNat)]) rfl (oj_run TT rfl ?_)
        refine oj_conv TT (b.toNat:Int) rfl rfl rfl rfl rfl rfl rfl rfl (wrap64 b) (oj_run TT rfl ?_)
        refine oj_bshl rfl rfl rfl rfl rfl rfl (by decide) ?_
        rw [shl64_16 b]
        refine oj_run TT rfl ?_
        refine oj_bor rfl rfl rfl rfl rfl rfl ?_
        rw [or_ab]
        refine oj_run TT rfl ?_
        refine oj_idx TT rfl rfl rfl rfl rfl rfl rfl rfl rfl HR (by omega) (r:=[.v (.int .u8 c.toNat)]) rfl (oj_run TT rfl ?_)
        refine oj_conv TT (c.toNat:Int) rfl rfl rfl rfl rfl rfl rfl rfl (wrap64 c) (oj_run TT rfl ?_)
        refine oj_bshl rfl rfl rfl rfl rfl rfl (by decide) ?_
        rw [shl64 c]
        refine oj_run TT rfl ?_
        refine oj_bor rfl rfl rfl rfl rfl rfl ?_
        rw [or_abc]
        refine oj_run TT rfl ?_
        refine oj_idx TT rfl rfl rfl rfl rfl rfl rfl rfl rfl HR (by omega) (r:=[.v (.int .u8 d.toNat)]) rfl (oj_run TT rfl ?_)
        refine oj_conv TT (d.toNat:Int) rfl rfl rfl rfl rfl rfl rfl rfl (wrap64 d) (oj_run TT rfl ?_)
        refine oj_bor rfl rfl rfl rfl rfl rfl ?_
        rw [or_abcd]
        refine oj_run TT rfl ?_
        refine oj_from TT 4 rfl rfl rfl rfl rfl rfl rfl rfl rfl rfl rfl (by omega) HR.ncap ?_
        rw [hl4,show r.length+4 - 4=r.length by omega]
        refine oj_run TT rfl ?_
        (repeat (first | refine oj_then ?_ | refine cj_ret ?_ | refine nj_then_ret ?_ | refine nj_block_ret ?_))
        refine nj_ret TT rfl fun β w' _ _=>?_
        exact FirstOk.of (p:=⟨9,false,dec0,emptyB,(a.toNat:Int)*16777216+(b.toNat:Int)*65536+(c.toNat:Int)*256+d.toNat⟩) HR4
    · have h4:=of_decide_eq_false (show decide ((4:Int)<=r.length)=false from h4)
      subst h
      rw [first80_short (by omega)]
      (repeat (first | refine cj_seq ?_ | refine cjr TT rfl ?_ | refine oj_then ?_ | refine cj_skip ?_ | refine cj_ret ?_ | refine nj_then ?_ | refine nj_block ?_))
      refine nj_ret TT rfl fun β w' _ _=>?_
      rfl
  have h80:=of_decide_eq_false (hu 80 false h)
  have e:firstG (t::r)=none:=by unfold firstG;dsimp only;rw [if_neg h16,if_neg h32,if_neg h49,if_neg h48,if_neg h64,if_neg h80]
  rw [e]
  (repeat (first | refine cj_seq ?_ | refine cjr TT rfl ?_ | refine oj_then ?_ | refine cj_skip ?_ | refine cj_ret ?_ | refine nj_then ?_ | refine nj_block ?_))
  refine nj_ret TT rfl fun β w' _ _=>?_
  rfl
end Go.Sy
namespace Go.Sy
open Go.Proofs
theorem cell_DL {σ:Snap} {D l:Nat} {r:Loop} (hDl:D≠l) (hD:σ D=none) (hl:σ l=none) (a:Addr):((σ.set D (some (.deferred (some [])))).set l (some (.loop r))).cell a=σ.cell a:=by
  rw [Snap.cell_set (fun o e=>by rw [Snap.set_ne (Ne.symm hDl),hl] at e;cases e) (fun o e=>by injection e with e;subst e;rfl),Snap.cell_set (fun o e=>by rw [hD] at e;cases e) (fun o e=>by injection e with e;subst e;rfl)]
theorem okRd_of {rd:Option Nat} {ops:Array Oper} (h:ops.toList.all noDefer=true):okRd rd ops=true:=by
  cases rd with
  | none=>rfl
  | some l=>simp only [okRd];rw [<-Array.all_toList];exact h
theorem IterC.mono {P:Program} {f:FuncId} {args:Array Value} {l:Nat} {σ:Snap} {A:List AE} {Φ Ψ:Value->Snap->List AE->Prop} (h:IterC P f args l σ A Φ) (hi:∀ v s A',Φ v s A'->Ψ v s A'):IterC P f args l σ A Ψ :=
  fun w hw=>Calls.mono (h w hw) fun _ _ ⟨v,σ',A',h1,h2,h3⟩=>⟨v,σ',A',h1,h2,hi _ _ _ h3⟩
def boxE (g e:Nat) (v:Value):AE:=⟨some ⟨g,0,none⟩,1,1,e,1,[v]⟩
end Go.Sy
namespace Go.Sy
open Go.Proofs
def decR (ps:List GPart) (l:List UInt8):List GPart×Int :=
  match decF l.length ps.length l with
  | .ok q=>(ps++q,0)
  | .error e=>([],e)
theorem first_less {c:UInt8} {b r:List UInt8} {p:GPart} (h:firstG (c::b)=some (p,r)):r.length<=b.length:=by
  obtain ⟨hp,e⟩:=put_first h
  have hl:0<(putG p).length:=List.length_pos_iff.2 (put_ne hp)
  have:=congrArg List.length e
  rw [List.length_append,List.length_cons] at this
  omega
theorem decF_fuel:∀ (n m k:Nat) (l:List UInt8),l.length<=n->l.length<=m->decF n k l=decF m k l
  | 0,m,k,[],_,_=>by cases m<;>rfl
  | n+1,m,k,[],_,_=>by cases m<;>rfl
  | n+1,0,k,c::b,_,h=>by simp at h
  | n+1,m+1,k,c::b,hn,hm=>by
    rw [decF,decF]
    cases hf:firstG (c::b) with
    | none=>rfl
    | some q =>
      obtain ⟨p,r⟩:=q
      have hl:=first_less hf
      simp only [List.length_cons] at hn hm
      dsimp only
      rw [decF_fuel n m (k+1) r (by omega) (by omega)]
theorem decR_nil (ps:List GPart):decR ps []=(ps,0):=by
  show (ps++[],(0:Int))=_
  rw [List.append_nil]
theorem decR_none {ps:List GPart} {c:UInt8} {b:List UInt8} (h:firstG (c::b)=none):decR ps (c::b)=([],2):=by
  unfold decR
  rw [List.length_cons,decF,h]
theorem decR_full {ps:List GPart} {c:UInt8} {b r:List UInt8} {p:GPart} (h:firstG (c::b)=some (p,r)) (h16:ps.length=16):decR ps (c::b)=([],4):=by
  unfold decR
  rw [List.length_cons,decF,h]
  dsimp only
  rw [if_pos h16]
theorem decR_some {ps:List GPart} {c:UInt8} {b r:List UInt8} {p:GPart} (h:firstG (c::b)=some (p,r)) (h16:ps.length≠16):decR ps (c::b)=decR (ps++[p]) r:=by
  unfold decR
  rw [List.length_cons,decF,h]
  dsimp only
  rw [if_neg h16,decF_fuel b.length r.length (ps.length+1) r (first_less h) (Nat.le_refl _),List.length_append]
  show (match (match decF r.length (ps.length+1) r with | .ok l=>Except.ok (p::l) | .error e=>Except.error e) with | .ok q=>(ps++q,(0:Int)) | .error e=>([],e))=(match decF r.length (ps.length+1) r with | .ok q=>(ps++[p]++q,(0:Int)) | .error e=>([],e))
  cases decF r.length (ps.length+1) r with
  | ok l=>simp
  | error e=>rfl
theorem decG_R (b:List UInt8):decG b=decR [] b:=by
  unfold decG decR
  rw [List.length_nil]
  cases decF b.length 0 b with
  | ok l=>rfl
  | error e=>rfl
section
variable {cf:Cf} {Q:Exit->Act->World->Prop} {σ:Snap} {env:Env} {hp:HP} {A:List AE} {nh:Nat} {it:Item} {rest:List Item}
theorem oj_slnn {d:Nat} {x y:Operand} {t yt e:TypeId} {T:List (Nat×TI)} (hT:TTok cf.P T) {ti:TI} {ao:Option Addr} {n c n' c':Nat} (hop:it.o.op=.binOp .neq t x y yt) (hd:it.o.dst=some d)
    (hg:guardVal it.guard env=some true) (hN:Nat.blt d cf.N=true) (hx:evalO env x=some (.a (.v (.slice ao n c)))) (hy:evalO env y=some (.a (.v (.slice none n' c')))) (ht:tget T t=some ti) (hkd:ti.kind=.slice e)
    (hk:OJ cf rest Q σ ((d,.a (.b (!ao.isNone)))::env) hp A nh):OJ cf (it::rest) Q σ env hp A nh:=by
  refine oj_val (.a (.b (!ao.isNone))) hd hg hN trivial (fun _ a β ha w=>?_) hk
  have hun:=tk_slice (hT _ _ ht) hkd
  have h1:a.eval x=.slice ao n c:=evalO_eval ha hx
  have h2:a.eval y=.slice none n' c':=evalO_eval ha hy
  have hE:(Op.equal t (.slice ao n c) (.slice none n' c')).run cf.P w=.ok ao.isNone w:=run_eqNil hun 9999 ao n c n' c' w
  have hG:(eqGuard .neq t x y (.slice ao n c) (.slice none n' c')).run cf.P w=.ok () w:=rfl
  have hB:(binOp .neq t (.slice ao n c) (.slice none n' c')).run cf.P w=.ok (.bool (!ao.isNone)) w:=by
    simp only [binOp,Sem.run_bind,hE,Result.andThen_ok,Sem.run_pure]
  simp only [execOp,hop,h1,h2,Sem.run_bind,hG,hB,Result.andThen_ok,Sem.run_pure]
  rfl
end
set_option maxRecDepth 100000 in
set_option maxHeartbeats 1000000 in
theorem parts_c (σ:Snap) (ao:Option Addr) (n cap:Nat) :
    FnS Tryd.prog 27 [.a (.v (.slice ao n cap))] σ [] (fun v _ A'=>∃ g,v=.func (.func 38) #[] #[.pointer (some ⟨g,0,none⟩)]/\A'=[boxE g 22 (.slice ao n cap)]):=by
  refine enter_f Tryd.func27 rfl rfl (by (repeat' (first | exact trivial | constructor))) fun w=>?_
  (repeat (first | refine cj_seq ?_ | refine cjr TT rfl ?_ | refine oj_then ?_ | refine cj_ret ?_))
  refine nj_own 0 1 1 rfl (by (repeat' (first | exact trivial | refine AllLt.of ?_ | constructor))) rfl (by decide) fun g=>?_
  refine nj_fret TT rfl fun β w' _ _=>?_
  exact ⟨g,rfl,rfl⟩
structure PtS where
  s:Snap
  b:List UInt8
  ao:Option Addr
  cap:Nat
  F1:AE
  F2:AE
  F3:AE
  F4:AE
set_option maxRecDepth 100000 in
set_option maxHeartbeats 4000000 in
theorem partsIt_c (σ:Snap) (l:Nat) (r:Loop) (g:Nat) (b:List UInt8) (hb:b.length<=1000000) (ao:Option Addr) (cap:Nat) (E1 E2 E3 E4:AE) (Inv:List UInt8->AE->AE->AE->AE->Prop) (Stop:Snap->AE->AE->AE->AE->Prop)
    (hl:σ l=some (.loop r)) (hp:Nat.beq 2 r.params.size=true) (H:SlAt σ ao b.length cap 1 (u8Rows b)) (h0:Inv b E1 E2 E3 E4)
    (hnone:∀ (c:UInt8) (q:List UInt8) (s:Snap) (F1 F2 F3 F4:AE),s l=some (.loop r)->σ.leB l s->Inv (c::q) F1 F2 F3 F4->firstG (c::q)=none ->
      RoundC Tryd.prog l r (([.agg zeroP,.a .ff]:List SV).map (SV.den β0)).toArray s [F1,F2,F3,F4] (fun v s' A'=>∃ G1 G2 G3 G4,A'=[G1,G2,G3,G4]/\v=.bool false/\Stop s' G1 G2 G3 G4))
    (hsome:∀ (c:UInt8) (q:List UInt8) (p:GPart) (t:List UInt8) (s:Snap) (F1 F2 F3 F4:AE),s l=some (.loop r)->σ.leB l s->Inv (c::q) F1 F2 F3 F4->firstG (c::q)=some (p,t) ->
      RoundC Tryd.prog l r (([.agg (paCells p),.a .tt]:List SV).map (SV.den β0)).toArray s [F1,F2,F3,F4] (fun v s' A'=>∃ G1 G2 G3 G4,A'=[G1,G2,G3,G4]/\((v=.bool true/\s' l=some (.loop r)/\Inv t G1 G2 G3 G4)\/(v=.bool false/\Stop s' G1 G2 G3 G4)))) :
    IterC Tryd.prog 38 (([.a (.fn (.yield l) []),.a (.v (.pointer (some ⟨g,0,none⟩)))]:List SV).map (SV.den β0)).toArray l σ [E1,E2,E3,E4,boxE g 22 (.slice ao b.length cap)] (fun _ s' A'=>∃ G1 G2 G3 G4 G5,A'=[G1,G2,G3,G4,G5]/\((s' l=some (.loop r)/\Inv [] G1 G2 G3 G4)\/Stop s' G1 G2 G3 G4)):=by
  refine enter_it Tryd.func38 rfl rfl ⟨SV.lt_fn0,trivial,trivial⟩ fun w=>?_
  (repeat refine cj_block ?_)
  refine cj_loop (fun (t:PtS)=>t.s) (fun _=>[(0,.a (.fn (.yield l) [])),(1,.a (.v (.pointer (some ⟨g,0,none⟩))))]) (fun _=>[]) (fun t=>[t.F1,t.F2,t.F3,t.F4,boxE g 22 (.slice t.ao t.b.length t.cap)]) 0
    (fun t=>t.s l=some (.loop r)/\σ.leB l t.s/\SlAt t.s t.ao t.b.length t.cap 1 (u8Rows t.b)/\t.b.length<=b.length/\Inv t.b t.F1 t.F2 t.F3 t.F4) (fun t=>t.b.length) ⟨σ,b,ao,cap,E1,E2,E3,E4⟩ ⟨hl,fun b o h=>?_,H,Nat.le_refl _,h0⟩ rfl (by (repeat first | exact trivial | refine ⟨rfl,?_⟩)) (by (repeat first | exact trivial | refine ⟨rfl,?_⟩)) rfl ⟨SV.lt_fn0,trivial,trivial⟩ (by (repeat' exact trivial)) fun ⟨s,q,qo,qc,F1,F2,F3,F4⟩ ⟨hsl,hs,HQ,hq,hI⟩=>?_
  · by_cases hb:b=l
    · subst hb;rw [Snap.set_self] at h;cases h
    · rw [Snap.set_ne hb] at h;exact h
  dsimp only at hsl hs HQ hq hI ⊢
  (repeat (first | refine cj_seq ?_ | refine cjr TT rfl ?_))
  refine oj_ldA 4 (c:=.v (.slice qo q.length qc)) TT rfl rfl rfl rfl rfl rfl rfl rfl rfl rfl rfl trivial (oj_run TT rfl ?_)
  (repeat refine oj_then ?_)
  refine cj_if rfl (fun h=>?_) (fun h=>?_)
  rotate_left
  · have h:=of_decide_eq_false (show decide ((0:Int)<q.length)=false from h)
    have hq0:q=[]:=List.eq_nil_of_length_eq_zero (by omega)
    subst hq0
    (repeat (first | refine cj_exit ?_ | refine nj_then_exit ?_ | refine nj_block_out ?_))
    refine nj_iend TT rfl fun β=>?_
    exact ⟨F1,F2,F3,F4,_,rfl,.inl ⟨hsl,hI⟩⟩
  have h:=of_decide_eq_true (show decide ((0:Int)<q.length)=true from h)
  cases q with
  | nil=>exact absurd h (by decide)
  | cons c q =>
    rw [List.length_cons] at HQ hq ⊢
    (repeat (first | refine cj_seq ?_ | refine cjr TT rfl ?_ | refine cj_skip ?_ | refine cj_block ?_ | refine nj_then ?_))
    refine oj_ldA 4 (c:=.v (.slice qo (q.length+1) qc)) TT rfl rfl rfl rfl rfl rfl rfl rfl rfl rfl rfl trivial (oj_run TT rfl ?_)
    refine oj_callS rfl rfl rfl rfl rfl Tryd.call39 ⟨trivial,trivial⟩ (first_c s c q (by omega) qo qc HQ) fun v s1 hle1 hv=>?_
    have hsl1:s1 l=some (.loop r):=hle1 _ _ hsl
    have hs1:σ.leB l s1:=fun b o h=>hle1 _ _ (hs b o h)
    cases hf:firstG (c::q) with
    | none =>
      rw [hf] at hv
      refine ⟨.tup [.agg zeroP,.a (.v (.slice none 0 0))],(by intro x hx;simp only [List.mem_cons,List.not_mem_nil,or_false] at hx;rcases hx with rfl | rfl;exact zeroP_lt 0;trivial),hv.symm,?_⟩
      refine oj_run TT rfl ?_
      (repeat (first | refine cj_seq ?_ | refine cjr TT rfl ?_ | refine oj_then ?_))
      refine oj_slnn TT rfl rfl rfl rfl rfl rfl rfl rfl (oj_run TT rfl ?_)
      refine oj_yield [0,1,2,3,4] (A0:=[F1,F2,F3,F4]) (Ar:=[boxE g 22 (.slice qo (q.length+1) qc)]) hsl1 (Snap.set_self ..) rfl rfl rfl hp rfl rfl rfl rfl ⟨zeroP_lt 0,trivial,trivial⟩ (hnone c q s1 F1 F2 F3 F4 hsl1 hs1 hI hf) fun v s' A' hle ⟨G1,G2,G3,G4,hA,hv,hst⟩=>?_
      subst hA
      refine ⟨.a .ff,trivial,hv.symm,oj_run TT rfl ?_⟩
      (repeat (first | refine oj_then ?_ | refine cj_if_t rfl ?_ | refine cj_ret ?_ | refine nj_then_ret ?_ | refine nj_block_ret ?_))
      refine nj_iret TT rfl fun β=>?_
      exact ⟨G1,G2,G3,G4,_,rfl,.inr hst⟩
    | some pt =>
      obtain ⟨p,t⟩:=pt
      rw [hf] at hv
      obtain ⟨ad2,rc,hv,HT⟩:=hv
      refine ⟨.tup [.agg (paCells p),.a (.v (.slice (some ad2) t.length rc))],(by intro x hx;simp only [List.mem_cons,List.not_mem_nil,or_false] at hx;rcases hx with rfl | rfl;exact paCells_lt 0 _;trivial),hv.symm,?_⟩
      refine oj_run TT rfl ?_
      (repeat (first | refine cj_seq ?_ | refine cjr TT rfl ?_ | refine oj_then ?_))
      refine oj_slnn TT rfl rfl rfl rfl rfl rfl rfl rfl (oj_run TT rfl ?_)
      refine oj_yield [0,1,2,3,4] (A0:=[F1,F2,F3,F4]) (Ar:=[boxE g 22 (.slice qo (q.length+1) qc)]) hsl1 (Snap.set_self ..) rfl rfl rfl hp rfl rfl rfl rfl ⟨paCells_lt 0 p,trivial,trivial⟩ (hsome c q p t s1 F1 F2 F3 F4 hsl1 hs1 hI hf) fun v s' A' hle ⟨G1,G2,G3,G4,hA,hv⟩=>?_
      subst hA
      have hs':σ.leB l s':=fun b o h=>by
        have hb:b≠l:=fun e=>by subst e;rw [Snap.set_self] at h;cases h
        rw [Snap.set_ne hb] at h
        exact hle.at_ hb (hs1.at_ hb h)
      have hlt:=first_less hf
      rcases hv with ⟨hv,hsl',hI'⟩ | ⟨hv,hst⟩
      · refine ⟨.a .tt,trivial,hv.symm,oj_run TT rfl ?_⟩
        (repeat (first | refine oj_then ?_ | (refine oj_slnil TT rfl rfl rfl rfl rfl rfl rfl rfl ?_;refine oj_run TT rfl ?_)))
        refine cj_if rfl (fun h=>absurd (show false=true from h) (by decide)) (fun _=>?_)
        (repeat (first | refine cjr TT rfl ?_ | refine cj_skip ?_ | refine nj_then ?_))
        refine oj_stA 4 (A':=[G1,G2,G3,G4,boxE g 22 (.slice (some ad2) t.length rc)]) (c:=.v (.slice (some ad2) t.length rc)) TT rfl rfl rfl rfl rfl rfl rfl rfl rfl rfl Nat.zero_lt_one trivial rfl rfl (oj_run TT rfl ?_)
        (repeat (first | refine oj_nil ?_ | refine nj_block ?_))
        refine nj_again (⟨s',t,some ad2,rc,G1,G2,G3,G4⟩:PtS) ⟨hsl',hs',HT.monoC (hle.cle hsl1),by dsimp only;omega,hI'⟩ (by dsimp only;omega) rfl (by (repeat first | exact trivial | refine ⟨rfl,?_⟩)) (by (repeat first | exact trivial | refine ⟨rfl,?_⟩)) rfl ⟨SV.lt_fn0,trivial,trivial⟩ (by (repeat' exact trivial))
      · refine ⟨.a .ff,trivial,hv.symm,oj_run TT rfl ?_⟩
        (repeat (first | refine oj_then ?_ | refine cj_if_t rfl ?_ | refine cj_ret ?_ | refine nj_then_ret ?_ | refine nj_block_ret ?_))
        refine nj_iret TT rfl fun β=>?_
        exact ⟨G1,G2,G3,G4,_,rfl,.inr hst⟩
end Go.Sy
namespace Go.Sy
open Go.Proofs
theorem results_cellA2 {cf:Cf} {σ:Snap} {env:Env} {hp:HP} {A:List AE} {β:Nat->Addr} {a:Act} {w:World} {T:List (Nat×TI)} (hT:TTok cf.P T) (ha:StA cf env β a) (hw:StW cf σ hp A β w) {fn:Func} {p t p2 t2:Nat} {ti ti2:TI} {g g2 i i2:Nat} {E E2:AE} {v v2:Value}
    (hr:fn.results=#[.cell p t,.cell p2 t2]) (hp':env.get p=some (.a (.v (.pointer (some ⟨g,0,none⟩))))) (hp2:env.get p2=some (.a (.v (.pointer (some ⟨g2,0,none⟩))))) (ht:tget T t=some ti) (hag:ti.agg=false) (ht2:tget T t2=some ti2) (hag2:ti2.agg=false)
    (hi:A[i]?=some E) (hE:E.ao=some ⟨g,0,none⟩) (hv:E.xs[0]?=some v) (hi2:A[i2]?=some E2) (hE2:E2.ao=some ⟨g2,0,none⟩) (hv2:E2.xs[0]?=some v2) :
    (results fn a.tmps).run cf.P w=.ok (.tuple #[v,v2]) w:=by
  obtain ⟨inf,d',z,hs⟩:=tiOf_spec (hT _ _ ht)
  obtain ⟨inf2,d2',z2,hs2⟩:=tiOf_spec (hT _ _ ht2)
  have hcell:=(hw.arr i E hi).cell hE hv
  have hcell2:=(hw.arr i2 E2 hi2).cell hE2 hv2
  have hx:a.tmps.getD p undef=.pointer (some ⟨g,0,none⟩):=evalO_eval (x:=.tmp p) ha hp'
  have hx2:a.tmps.getD p2 undef=.pointer (some ⟨g2,0,none⟩):=evalO_eval (x:=.tmp p2) ha hp2
  have hload:(load ⟨g,0,none⟩).run cf.P w=.ok v w:=by rw [run_load,hcell]
  have hload2:(load ⟨g2,0,none⟩).run cf.P w=.ok v2 w:=by rw [run_load,hcell2]
  rw [results_eq,hr,Array.mapM_eq_mapM_toList,Sem.run_bind,Sem.run_map]
  simp only [List.mapM_cons,List.mapM_nil,Sem.run_bind,Sem.run_pure,resOne,hx,hx2,asAddr,loadVar,Result.andThen_ok,run_isAgg hs.und,hs.agg,hag,run_isAgg hs2.und,hs2.agg,hag2,Bool.false_eq_true,if_false,hload,hload2]
  rfl
theorem nj_mretA2 {P:Program} {w0:World} {σ0:Snap} {M:Nat->Prop} {N:Nat} {T:List (Nat×TI)} {fn:Func} {Post:Value->World->Snap->Prop} {σ:Snap} {env:Env} {hp:HP} {A:List AE} {nh:Nat} {D:Nat} (hD:σ D=some (.deferred (some []))) (h0:σ0 D=none) (hT:TTok P T)
    {p t p2 t2:Nat} {ti ti2:TI} {g g2:Nat} (i i2:Nat) {E E2:AE} (v v2:Value) (hr:fn.results=#[.cell p t,.cell p2 t2]) (hp':env.get p=some (.a (.v (.pointer (some ⟨g,0,none⟩))))) (hp2:env.get p2=some (.a (.v (.pointer (some ⟨g2,0,none⟩))))) (ht:tget T t=some ti) (hag:ti.agg=false) (ht2:tget T t2=some ti2) (hag2:ti2.agg=false)
    (hi:A[i]?=some E) (hE:E.ao=some ⟨g,0,none⟩) (hv:E.xs[0]?=some v) (hi2:A[i2]?=some E2) (hE2:E2.ao=some ⟨g2,0,none⟩) (hv2:E2.xs[0]?=some v2)
    (h:∀ w,Post (.tuple #[v,v2]) w (σ.set D none)) :
    NJ ⟨P,w0,σ0,M,N,[markD D],none⟩ .ret (bodyPostM (FR none) 0 P fn (postR w0 M σ0 Post)) σ env hp A nh:=⟨fun hb a β w ha hw=>by
  show LeavesInM (FR none) 0 P fn a.tmps _ a.defers .returning w
  rw [ha.defers]
  have hfin:StW ⟨P,w0,σ0,M,N,[],none⟩ (σ.set D none) hp A β (w.putObj D (.deferred none)):=(hw.swap (w':=w.putObj D (.deferred none)) none (hw.sealed _ _ hD) rfl h0 (hw.own_of hD h0) rfl rfl rfl (by simp) (fun c hc=>World.putObj_heap_other hc) fun _ e=>(by cases e)).re _ _ _
  have ha':StA ⟨P,w0,σ0,M,N,[],none⟩ env β ⟨a.tmps,[]⟩:=⟨ha.size,rfl,ha.env⟩
  refine ⟨by simp,.inl ⟨D,_,rfl,run_takeDeferred (hw.sealed _ _ hD),_,results_cellA2 (cf:=⟨P,w0,σ0,M,N,[],none⟩) hT ha' hfin hr hp' hp2 ht hag ht2 hag2 hi hE hv hi2 hE2 hv2,_,σ.set D none,rfl,Fr.of hfin,SGrow.of hfin,hfin.sealed,h _⟩⟩⟩
theorem cell_D0 {σ:Snap} {D:Nat} (hD:σ D=some (.deferred (some []))) (a:Addr) {v:Value} (h:σ.cell a=some v):(σ.set D none).cell a=some v:=by
  unfold Snap.cell at h ⊢
  have hb:a.block≠D:=fun e=>by rw [e,hD] at h;cases h
  rw [Snap.set_ne hb]
  exact h
theorem enter_ms {P:Program} {f:FuncId} {fn:Func} {c:Code} {svs:List SV} {σ:Snap} {Φ:Value->Snap->Prop}
    (hf:P.funcs[f]?=some fn) (hb:fn.body=some c) (hN:Nat.ble svs.length fn.ntmps=true) (hlt:LtAll svs)
    (h:∀ w,CJ ⟨P,w,σ,fun _=>False,fn.ntmps,[],none⟩ c (bodyPostM (FR none) 0 P fn (postR w (fun _=>False) σ (fun v _ σ'=>Φ v σ'))) σ (argEnv 0 svs) [] [] 0):PureS P f svs σ Φ :=
  fun w hs=>enter_m hf hb svs [] rfl hN hlt (StW.start hs β0) (h w)
set_option maxRecDepth 100000 in
set_option maxHeartbeats 4000000 in
theorem Decode_c (σ:Snap) (b:List UInt8) (hb:b.length<=1000000) (ao:Option Addr) (cap:Nat) (H:SlAt σ ao b.length cap 1 (u8Rows b)) :
    PureS Tryd.prog 15 [.a (.v (.slice ao b.length cap))] σ (fun v σ'=>∃ bo bc,v=.tuple #[.slice bo (decG b).1.length bc,.int .i64 (decG b).2]/\SlAt σ' bo (decG b).1.length bc 7 (paRows (decG b).1)):=by
  refine enter_ms Tryd.func15 rfl rfl (by (repeat' (first | exact trivial | constructor))) fun w=>?_
  (repeat (first | refine cj_seq ?_ | refine cjr TT rfl ?_ | refine oj_then ?_))
  refine oj_callF [] (A0:=[]) (Ar:=[]) rfl rfl rfl rfl rfl rfl rfl Tryd.call27 (by (repeat' (first | exact trivial | constructor))) (parts_c σ ao b.length cap) fun v s1 A' hle1 ⟨g,hv,hA⟩=>⟨.a (.fn (.func 38) [.val (.pointer (some ⟨g,0,none⟩))]),(fun x hx=>by simp at hx;subst hx;trivial),hv.symm,oj_run TT rfl ?_⟩
  subst hA
  refine oj_nil (nj_then (cj_block ?_))
  refine cj_own 0 1 1 rfl (by (repeat' (first | exact trivial | refine AllLt.of ?_ | constructor))) rfl (by decide) fun g2=>?_
  refine cj_own 1 1 1 rfl (by (repeat' (first | exact trivial | refine AllLt.of ?_ | constructor))) rfl (by decide) fun g3=>?_
  refine cj_own 2 1 1 rfl (by (repeat' (first | exact trivial | refine AllLt.of ?_ | constructor))) rfl (by decide) fun g4=>?_
  refine cj_nilarr 49 7 ?_
  refine cj_sub (env':=[(2,.a (.v (.pointer (some ⟨g2,0,none⟩)))),(3,.a (.v (.pointer (some ⟨g3,0,none⟩)))),(4,.a (.v (.pointer (some ⟨g4,0,none⟩)))),(8,.a (.fn (.func 38) [.val (.pointer (some ⟨g,0,none⟩))]))]) (hp':=[]) (subE_of (by (repeat first | exact trivial | refine ⟨rfl,?_⟩))) (subH_of trivial) ?_
  have H:=H.mono hle1
  let Inv:List UInt8->AE->AE->AE->AE->Prop:=fun q F1 F2 F3 F4=>F1=boxE g2 32 (.slice none 0 0)/\F2=boxE g3 29 (.int .i64 0)/\∃ (ps:List GPart) (oo:Option Addr) (oc:Nat),F3=boxE g4 32 (.slice oo ps.length oc)/\F4=paE 49 oo oc ps/\ps.length<=oc/\ps.length<=16/\decR ps q=decG b
  let Stop:Nat->Snap->AE->AE->AE->AE->Prop:=fun l s G1 G2 _ _=>G1=boxE g2 32 (.slice none 0 0)/\(∃ e:Int,G2=boxE g3 29 (.int .i64 e)/\decG b=([],e))/\∃ r',s l=some (.loop r')/\r'.state=.done/\r'.pending=some .ret
  refine cj_rangeFunc [1,2,3,4,0] (A0:=[boxE g2 32 (.slice none 0 0),boxE g3 29 (.int .i64 0),boxE g4 32 (.slice none 0 0),paE 49 none 0 [],boxE g 22 (.slice ao b.length cap)]) (Ar:=[]) rfl rfl rfl ⟨trivial,trivial⟩ ⟨trivial,trivial,trivial,(fun x hx=>by simp at hx;subst hx;trivial),trivial⟩ Tryd.call38
    (fun D l r v s A=>(r.state=.ready/\r.pending=none)/\∃ G1 G2 G3 G4 G5,A=[G1,G2,G3,G4,G5]/\((s l=some (.loop r)/\Inv [] G1 G2 G3 G4)\/Stop l s G1 G2 G3 G4)) (fun fid D l tmps hts hte hDl hD hl hl0=>?_) (fun D l r v s A ⟨⟨hst,hpe⟩,G1,G2,G3,G4,G5,hA,hh⟩ hD0 hl0 hsD hcle hle=>?_)
  · have hcell:=fun r=>cell_DL (r:=r) hDl hD hl
    refine IterC.mono (Φ:=fun _ s A=>∃ G1 G2 G3 G4 G5,A=[G1,G2,G3,G4,G5]/\((s l=some (.loop _)/\Inv [] G1 G2 G3 G4)\/Stop l s G1 G2 G3 G4)) ?_ fun v s A h=>⟨⟨rfl,rfl⟩,h⟩
    refine partsIt_c _ l _ g b hb ao cap _ _ _ _ Inv (Stop l) (Snap.set_self ..) rfl (H.monoC fun a v hv=>by rw [hcell];exact hv) ⟨rfl,rfl,[],none,0,rfl,rfl,Nat.le_refl _,Nat.zero_le _,(decG_R b).symm⟩ ?_ ?_
    · intro c q s F1 F2 F3 F4 hsl hsb hI hf
      obtain ⟨h1,h2,ps,oo,oc,h3,h4,hoc,h16,hR⟩:=hI
      subst h1 h2 h3 h4
      rw [decR_none hf] at hR
      refine roundC_of (N:=Tryd.f15.ntmps) (env:=[(2,.a (.v (.pointer (some ⟨g2,0,none⟩)))),(3,.a (.v (.pointer (some ⟨g3,0,none⟩)))),(4,.a (.v (.pointer (some ⟨g4,0,none⟩)))),(8,.a (.fn (.func 38) [.val (.pointer (some ⟨g,0,none⟩))]))]) hts hte [9,10] rfl rfl rfl ⟨zeroP_lt 0,trivial,trivial⟩ ⟨trivial,trivial,trivial,(fun x hx=>by simp at hx;subst hx;trivial),trivial⟩ fun w'=>?_
      dsimp only
      (repeat (first | refine cj_seq ?_ | (refine cj_region ?_ (okRd_of rfl);refine oj_run TT rfl ?_) | refine oj_then ?_ | refine oj_nil ?_))
      refine nj_begin hsl rfl (Snap.set_self ..) ?_
      (repeat (first | refine cj_seq ?_ | (refine cj_region ?_ (okRd_of rfl);refine oj_run TT rfl ?_) | refine oj_then ?_ | refine cj_if_t rfl ?_ | refine cj_block ?_))
      refine oj_stA 0 (A':=[boxE g2 32 (.slice none 0 0),boxE g3 29 (.int .i64 0),boxE g4 32 (.slice oo ps.length oc),paE 49 oo oc ps]) (c:=.v (.slice none 0 0)) TT rfl rfl rfl rfl rfl rfl rfl rfl rfl rfl Nat.zero_lt_one trivial rfl rfl (oj_run TT rfl ?_)
      refine oj_stA 1 (A':=[boxE g2 32 (.slice none 0 0),boxE g3 29 (.int .i64 2),boxE g4 32 (.slice oo ps.length oc),paE 49 oo oc ps]) (c:=.v (.int .i64 2)) TT rfl rfl rfl rfl rfl rfl rfl rfl rfl rfl Nat.zero_lt_one trivial rfl rfl (oj_run TT rfl ?_)
      (repeat (first | refine oj_then ?_ | refine cj_ret ?_ | refine nj_then_ret ?_ | refine nj_block_ret ?_))
      refine nj_rndR (Snap.set_self ..) ?_
      exact ⟨_,_,_,_,rfl,rfl,rfl,⟨2,rfl,hR.symm⟩,_,Snap.set_self ..,rfl,rfl⟩
    · intro c q p t s F1 F2 F3 F4 hsl hsb hI hf
      obtain ⟨h1,h2,ps,oo,oc,h3,h4,hoc,h16,hR⟩:=hI
      subst h1 h2 h3 h4
      refine roundC_of (N:=Tryd.f15.ntmps) (env:=[(2,.a (.v (.pointer (some ⟨g2,0,none⟩)))),(3,.a (.v (.pointer (some ⟨g3,0,none⟩)))),(4,.a (.v (.pointer (some ⟨g4,0,none⟩)))),(8,.a (.fn (.func 38) [.val (.pointer (some ⟨g,0,none⟩))]))]) hts hte [9,10] rfl rfl rfl ⟨paCells_lt 0 p,trivial,trivial⟩ ⟨trivial,trivial,trivial,(fun x hx=>by simp at hx;subst hx;trivial),trivial⟩ fun w'=>?_
      dsimp only
      (repeat (first | refine cj_seq ?_ | (refine cj_region ?_ (okRd_of rfl);refine oj_run TT rfl ?_) | refine oj_then ?_ | refine oj_nil ?_))
      refine nj_begin hsl rfl (Snap.set_self ..) ?_
      (repeat (first | refine cj_seq ?_ | (refine cj_region ?_ (okRd_of rfl);refine oj_run TT rfl ?_) | refine oj_then ?_ | refine cj_if_f rfl ?_ | refine cj_block ?_))
      refine oj_ldA 2 (c:=.v (.slice oo ps.length oc)) TT rfl rfl rfl rfl rfl rfl rfl rfl rfl rfl rfl trivial (oj_run TT rfl ?_)
      (repeat refine oj_then ?_)
      refine cj_if rfl (fun h=>?_) (fun h=>?_)
      · have h:=of_decide_eq_true (show decide ((ps.length:Int)=16)=true from h)
        rw [decR_full hf (by omega)] at hR
        (repeat (first | refine cj_seq ?_ | (refine cj_region ?_ (okRd_of rfl);refine oj_run TT rfl ?_)))
        refine oj_stA 0 (A':=[boxE g2 32 (.slice none 0 0),boxE g3 29 (.int .i64 0),boxE g4 32 (.slice oo ps.length oc),paE 49 oo oc ps]) (c:=.v (.slice none 0 0)) TT rfl rfl rfl rfl rfl rfl rfl rfl rfl rfl Nat.zero_lt_one trivial rfl rfl (oj_run TT rfl ?_)
        refine oj_stA 1 (A':=[boxE g2 32 (.slice none 0 0),boxE g3 29 (.int .i64 4),boxE g4 32 (.slice oo ps.length oc),paE 49 oo oc ps]) (c:=.v (.int .i64 4)) TT rfl rfl rfl rfl rfl rfl rfl rfl rfl rfl Nat.zero_lt_one trivial rfl rfl (oj_run TT rfl ?_)
        (repeat (first | refine oj_then ?_ | refine cj_ret ?_ | refine nj_then_ret ?_ | refine nj_block_ret ?_))
        refine nj_rndR (Snap.set_self ..) ?_
        exact ⟨_,_,_,_,rfl,.inr ⟨rfl,rfl,⟨4,rfl,hR.symm⟩,_,Snap.set_self ..,rfl,rfl⟩⟩
      · have h:=of_decide_eq_false (show decide ((ps.length:Int)=16)=false from h)
        rw [decR_some hf (by omega)] at hR
        have hl:(ps++[p]).length=ps.length+1:=by rw [List.length_append];rfl
        (repeat (first | (refine cj_region ?_ (okRd_of rfl);refine oj_run TT rfl ?_) | refine cj_skip ?_ | refine nj_then ?_ | refine nj_block ?_))
        refine oj_ldA 2 (c:=.v (.slice oo ps.length oc)) TT rfl rfl rfl rfl rfl rfl rfl rfl rfl rfl rfl trivial (oj_run TT rfl ?_)
        refine oj_append_lit TT 3 rfl rfl rfl rfl rfl rfl rfl rfl rfl rfl rfl rfl rfl rfl rfl rfl rfl rfl (by (repeat' (first | exact trivial | refine AllLt.of ?_ | constructor))) rfl (by omega) (by show (ps.length+1)*72<=_;omega) fun o1 c1 hc1=>oj_run TT rfl ?_
        refine oj_stA 2 (A':=[boxE g2 32 (.slice none 0 0),boxE g3 29 (.int .i64 0),boxE g4 32 (.slice o1 (ps++[p]).length c1),paE 49 o1 c1 (ps++[p])]) (c:=.v (.slice o1 (ps.length+1) c1)) TT rfl rfl rfl rfl rfl rfl rfl rfl rfl rfl Nat.zero_lt_one trivial rfl (by
          show [_,_,_,_]=[_,_,_,_]
          unfold paE
          rw [hl,paXs_append]
          rfl) (oj_run TT rfl ?_)
        (repeat (first | refine oj_nil ?_ | refine nj_block ?_))
        refine nj_rndN (Snap.set_self ..) ?_
        exact ⟨_,_,_,_,rfl,.inl ⟨rfl,Snap.set_self ..,rfl,rfl,ps++[p],o1,c1,rfl,rfl,by rw [hl];exact hc1,by rw [hl];omega,hR⟩⟩
  · subst hA
    rcases hh with ⟨hsl,h1,h2,ps,oo,oc,h3,h4,hoc,h16,hR⟩ | ⟨h1,⟨e,h2,hE⟩,r',hsl,hst',hpe'⟩
    · have hDl:D≠l:=fun e=>by subst e;rw [hsD] at hsl;cases hsl
      subst h1 h2 h3 h4
      refine ⟨r,hsl,by rw [hst];exact fun h=>(by cases h),?_⟩
      rw [hpe]
      dsimp only
      rw [decR_nil] at hR
      (repeat (first | refine cj_seq ?_ | refine cjr TT rfl ?_ | refine nj_then ?_ | refine nj_block ?_))
      refine oj_ldA 2 (c:=.v (.slice oo ps.length oc)) TT rfl rfl rfl rfl rfl rfl rfl rfl rfl rfl rfl trivial (oj_run TT rfl ?_)
      refine oj_stA 0 (A':=[boxE g2 32 (.slice oo ps.length oc),boxE g3 29 (.int .i64 0),boxE g4 32 (.slice oo ps.length oc),paE 49 oo oc ps,G5]) (c:=.v (.slice oo ps.length oc)) TT rfl rfl rfl rfl rfl rfl rfl rfl rfl rfl Nat.zero_lt_one trivial rfl rfl (oj_run TT rfl ?_)
      refine oj_stA 1 (A':=[boxE g2 32 (.slice oo ps.length oc),boxE g3 29 (.int .i64 0),boxE g4 32 (.slice oo ps.length oc),paE 49 oo oc ps,G5]) (c:=.v (.int .i64 0)) TT rfl rfl rfl rfl rfl rfl rfl rfl rfl rfl Nat.zero_lt_one trivial rfl rfl (oj_run TT rfl ?_)
      (repeat (first | refine oj_then ?_ | refine cj_ret ?_))
      refine nj_seal 3 rfl rfl fun s2 hle2 hS=>?_
      have HP:=pa_sealed (t:=49) (l:=ps) hS hoc
      have hD2:s2 D=some (.deferred (some [])):=hle2 _ _ (by rw [Snap.set_ne hDl];exact hsD)
      rw [<-hR]
      refine nj_mretA2 hD2 hD0 TT 0 1 (.slice oo ps.length oc) (.int .i64 0) rfl rfl rfl rfl rfl rfl rfl rfl rfl rfl rfl rfl rfl fun w=>?_
      exact ⟨oo,oc,rfl,HP.monoC fun a v h=>cell_D0 hD2 a h⟩
    · have hDl:D≠l:=fun e=>by subst e;rw [hsD] at hsl;cases hsl
      subst h1 h2
      refine ⟨r',hsl,by rw [hst'];exact fun h=>(by cases h),?_⟩
      rw [hpe']
      dsimp only
      (repeat (first | refine cj_ret ?_ | refine nj_then_ret ?_ | refine nj_block_ret ?_))
      rw [hE]
      refine nj_mretA2 (by rw [Snap.set_ne hDl];exact hsD) hD0 TT 0 1 (.slice none 0 0) (.int .i64 e) rfl rfl rfl rfl rfl rfl rfl rfl rfl rfl rfl rfl rfl fun w=>?_
      exact ⟨none,0,rfl,SlAt.nil _ none 0 7⟩
end Go.Sy
namespace Go.Sy
open Go.Proofs
theorem few_b {l:List GPart} (h:fewG l=true):∀ p∈l,p.n.dg.size<=mostLen/\p.s.size<=1000000:=fun p hp=>by
  have:=(few_iff.1 h).2 p hp
  unfold mostLen
  omega
end Go.Sy
namespace Go.Sy
open Go.Proofs
theorem esc_ge:∀ (l:List UInt8),l.length<=(escG l).length
  | []=>Nat.le_refl _
  | c::l=>by
    have:=esc_ge l
    unfold escG
    split<;>simp only [List.length_cons]<;>omega
theorem put_ge {p:GPart} (h:Rt p):p.s.size<=(putG p).length/\p.n.dg.size<=(putG p).length:=by
  cases h with
  | null=>exact ⟨Nat.zero_le _,Nat.zero_le _⟩
  | bool b=>exact ⟨Nat.zero_le _,Nat.zero_le _⟩
  | num n h =>
    refine ⟨Nat.zero_le _,?_⟩
    unfold putG
    dsimp only
    rw [if_neg (by decide),if_neg (by decide),if_pos rfl]
    by_cases h0:n.dg.size=0
    · rw [if_pos h0];show n.dg.size<=1;omega
    have:=size_len n
    rw [if_neg h0]
    split<;>rw [List.length_cons]
    · rw [turnG_len];omega
    · omega
  | str s =>
    refine ⟨?_,Nat.zero_le _⟩
    have:=esc_ge s.data.toList
    have hs:s.data.toList.length=s.size:=Array.length_toList
    show s.size<=(64::(escG s.data.toList++[0,0])).length
    rw [List.length_cons,List.length_append]
    omega
  | whole i h1 h2=>exact ⟨Nat.zero_le _,Nat.zero_le _⟩
theorem enc_len2 {l:List GPart} (h:fewG l=true):(encG l).1.length<=16*660:=by
  obtain ⟨h1,h2⟩:=few_iff.1 h
  unfold encG
  split
  · exact Nat.zero_le _
  rename_i h16
  split
  · rename_i ha
    have hr:=all_rt.1 ha
    have:∀ (q:List GPart),(∀ p∈q,Rt p/\p.s.size<=300)->(q.flatMap putG).length<=q.length*660:=by
      intro q
      induction q with
      | nil=>intro _;exact Nat.le_refl _
      | cons p q ih =>
        intro hq
        have e1:=ih fun x hx=>hq x (List.mem_cons_of_mem p hx)
        obtain ⟨e2,e3⟩:=hq p List.mem_cons_self
        have e4:=put_len e2
        rw [List.flatMap_cons,List.length_append,List.length_cons,Nat.succ_mul]
        omega
    exact Nat.le_trans (this l fun p hp=>⟨hr p hp,(h2 p hp).1⟩) (Nat.mul_le_mul_right _ (by omega))
  · exact Nat.zero_le _
theorem enc_ok {l:List GPart} (h:(encG l).2=0):l.length<=16/\(∀ p∈l,Rt p)/\encG l=(l.flatMap putG,0):=by
  unfold encG at h ⊢
  split
  · rename_i h';rw [if_pos h'] at h;cases h
  · rename_i h'
    rw [if_neg h'] at h
    split
    · rename_i h2;exact ⟨by omega,all_rt.1 h2,rfl⟩
    · rename_i h2;rw [if_neg h2] at h;cases h
theorem back_law {l:List GPart} (h:(encG l).2=0):decG (encG l).1=(l,0):=by
  obtain ⟨h1,h2,h3⟩:=enc_ok h
  rw [h3]
  unfold decG
  dsimp only
  rw [dec_enc l 0 _ h2 (by omega) (Nat.le_refl _)]
theorem decF_err:∀ (n k:Nat) (l:List UInt8) {e:Int},decF n k l=.error e->e=2\/e=4
  | 0,_,_,_,h=>by cases h
  | _+1,_,[],_,h=>by cases h
  | n+1,k,c::b,e,h=>by
    rw [decF] at h
    cases hf:firstG (c::b) with
    | none =>
      rw [hf] at h
      injection h with h
      exact .inl h.symm
    | some q =>
      obtain ⟨p,r⟩:=q
      rw [hf] at h
      dsimp only at h
      split at h
      · injection h with h
        exact .inr h.symm
      · cases hd:decF n (k+1) r with
        | ok l=>rw [hd] at h;cases h
        | error e' =>
          rw [hd] at h
          injection h with h
          subst h
          exact decF_err n (k+1) r hd
theorem dec_bad {b:List UInt8} (h:(decG b).2≠0):(decG b).1=[]:=by
  unfold decG at h ⊢
  cases hd:decF b.length 0 b with
  | ok l=>rw [hd] at h;exact absurd rfl h
  | error e=>rfl
theorem there_law {b:List UInt8} (h:(decG b).2=0):(∀ p∈(decG b).1,Rt p)/\(decG b).1.length<=16/\(decG b).1.flatMap putG=b/\encG (decG b).1=(b,0):=by
  unfold decG at h ⊢
  cases hd:decF b.length 0 b with
  | ok l =>
    obtain ⟨h1,h2,h3⟩:=enc_dec b.length 0 b (by omega) (Nat.le_refl _) hd
    refine ⟨h1,by dsimp only;omega,h3,?_⟩
    show encG l=(b,0)
    unfold encG
    rw [if_neg (by omega),if_pos (all_rt.2 h1),h3]
  | error e =>
    rw [hd] at h
    have h:e=0:=h
    rcases decF_err _ _ _ hd with h' | h'<;>omega
theorem flat_ge:∀ {l:List GPart} {p:GPart},p∈l->(putG p).length<=(l.flatMap putG).length
  | [],_,h=>by cases h
  | q::l,p,h=>by
    rw [List.flatMap_cons,List.length_append]
    rcases List.mem_cons.1 h with rfl | h
    · omega
    · have:=flat_ge h
      omega
set_option maxRecDepth 100000 in
set_option maxHeartbeats 4000000 in
theorem KeysBack_c (σ:Snap) (m:Int) (hm:σ.cell ⟨0,0,none⟩=some (.int .i64 m)) (l:List GPart) (lo:Option Addr) (lc:Nat) (HL:SlAt σ lo l.length lc 7 (paRows l)) (hl:l.length<=140737488355328) (b:List UInt8) (bo:Option Addr) (bc:Nat) (HB:SlAt σ bo b.length bc 1 (u8Rows b)) (hb:b.length<=140737488355328) :
    PureS Tryd.prog 6 [.a (.v (.slice lo l.length lc)),.a (.v (.slice bo b.length bc))] σ (fun v _=>v=.bool true):=by
  refine enter_s Tryd.func6 rfl rfl (by (repeat' (first | exact trivial | constructor))) fun w=>?_
  (repeat (first | refine cj_seq ?_ | refine cjr TT rfl ?_ | refine oj_then ?_))
  refine oj_callS rfl rfl rfl rfl rfl Tryd.call8 trivial (awake09_c σ m hm) fun v s0 hle0 hv=>⟨.a .tt,trivial,hv.symm,?_⟩
  have HL:=HL.mono hle0
  have HB:=HB.mono hle0
  have hm:=hle0.cell hm
  refine oj_run TT rfl ?_
  (repeat (first | refine cj_seq ?_ | refine cjr TT rfl ?_ | refine oj_then ?_))
  refine oj_callP rfl rfl rfl rfl rfl Tryd.call11 (by (repeat' (first | exact trivial | constructor))) (Few_c s0 l hl lo lc HL) fun v hv=>⟨.a (.b (fewG l)),trivial,hv.symm,?_⟩
  refine oj_run TT rfl ?_
  refine oj_split 18 rfl (fun h=>?_) (fun h=>?_)
  · refine oj_run TT rfl ?_
    (repeat (first | refine cj_seq ?_ | refine cjr TT rfl ?_ | refine oj_then ?_ | refine cj_if_t rfl ?_ | refine cj_ret ?_ | refine nj_then_ret ?_))
    refine nj_ret TT rfl fun β w' _ _=>?_
    rfl
  have hfl:fewG l=true:=by simpa using h
  have hll:=(few_iff.1 hfl).1
  refine oj_run TT rfl ?_
  (repeat refine oj_then ?_)
  refine cj_if rfl (fun h=>?_) (fun h=>?_)
  · (repeat (first | refine cj_seq ?_ | refine cjr TT rfl ?_ | refine oj_then ?_ | refine cj_ret ?_ | refine nj_then_ret ?_))
    refine nj_ret TT rfl fun β w' _ _=>?_
    rfl
  have h1000:b.length<=1000:=by have:=of_decide_eq_false (show decide ((1000:Int)<b.length)=false from h);omega
  (repeat (first | refine cj_seq ?_ | refine cjr TT rfl ?_ | refine cj_skip ?_ | refine nj_then ?_))
  refine oj_callS rfl rfl rfl rfl rfl Tryd.call13 ⟨trivial,trivial⟩ (ours_c s0 l (by omega) lo lc HL) fun v s1 hle1 ⟨xo,xc,hv,HX⟩=>⟨.a (.v (.slice xo l.length xc)),trivial,hv.symm,?_⟩
  have hm1:=hle1.cell hm
  refine oj_run TT rfl ?_
  refine oj_callS rfl rfl rfl rfl rfl Tryd.call12 ⟨trivial,trivial⟩ (Encode_c s1 m hm1 l hl (few_b hfl) xo xc HX) fun v s2 hle2 ⟨eo,ec,hv,HE⟩=>⟨.tup [.a (.v (.slice eo (encG l).1.length ec)),.a (.v (.int .i64 (encG l).2))],(by (repeat' (first | exact trivial | refine SV.lt_tup ?_ | constructor))),hv.symm,?_⟩
  have hm2:=hle2.cell hm1
  have HL:=HL.mono (Snap.le_trans hle1 hle2)
  have HB:=HB.mono (Snap.le_trans hle1 hle2)
  have hEl:=enc_len2 hfl
  refine oj_run TT rfl ?_
  (repeat (first | refine cj_seq ?_ | refine cjr TT rfl ?_ | refine oj_then ?_))
  refine cj_cutN (fun (s:Snap)=>s) (fun _=>[(1,.a (.v (.slice bo b.length bc))),(5,.a .tt)]) (fun _=>[]) (fun _=>[]) 0 (fun s=>s2.le s) ?_ (fun s3 hle3=>?_)
  · refine cj_if rfl (fun h=>?_) (fun h=>?_)
    · have h:=of_decide_eq_true (show decide ((encG l).2=0)=true from h)
      have hbk:=back_law h
      have hD:=Decode_c s2 (encG l).1 (by omega) eo ec HE
      rw [hbk] at hD
      generalize (encG l).1.length=el at *
      (repeat (first | refine cj_seq ?_ | refine cjr TT rfl ?_))
      refine oj_callS rfl rfl rfl rfl rfl Tryd.call15 ⟨trivial,trivial⟩ hD fun v s4 hle4 ⟨po,pc,hv,HP⟩=>⟨.tup [.a (.v (.slice po l.length pc)),.a (.v (.int .i64 0))],(by (repeat' (first | exact trivial | refine SV.lt_tup ?_ | constructor))),hv.symm,?_⟩
      have HL:=HL.mono hle4
      refine oj_run TT rfl ?_
      (repeat (first | refine cj_seq ?_ | refine cjr TT rfl ?_ | refine oj_then ?_))
      refine oj_split 39 rfl (fun h=>absurd (show (!decide ((0:Int)=0))=true from h) (by decide)) (fun _=>?_)
      refine oj_run TT rfl ?_
      refine oj_callS rfl rfl rfl rfl rfl Tryd.call16 ⟨trivial,trivial⟩ (theirs_c s4 l (by omega) po pc HP) fun v s5 hle5 ⟨to,tc,hv,HT⟩=>⟨.a (.v (.slice to l.length tc)),trivial,hv.symm,?_⟩
      refine oj_run TT rfl ?_
      refine oj_callP rfl rfl rfl rfl rfl Tryd.call14 (by (repeat' (first | exact trivial | constructor))) (Same_c s5 l l hl to tc HT lo lc (HL.mono hle5)) fun v hv=>⟨.a .tt,trivial,(by rw [hv,decide_eq_true rfl];rfl),?_⟩
      refine oj_run TT rfl ?_
      (repeat (first | refine oj_then ?_ | refine cj_if_f rfl ?_ | refine cj_skip ?_))
      refine nj_again s5 (Snap.le_trans hle4 hle5) Nat.zero_lt_one rfl (by (repeat first | exact trivial | refine ⟨rfl,?_⟩)) (by (repeat first | exact trivial | refine ⟨rfl,?_⟩)) rfl (by (repeat' (first | exact trivial | constructor))) (by (repeat' exact trivial))
    · (repeat refine cj_skip ?_)
      refine nj_again s2 (Snap.le_refl _) Nat.zero_lt_one rfl (by (repeat first | exact trivial | refine ⟨rfl,?_⟩)) (by (repeat first | exact trivial | refine ⟨rfl,?_⟩)) rfl (by (repeat' (first | exact trivial | constructor))) (by (repeat' exact trivial))
  have HB:=HB.mono hle3
  have hm3:=hle3.cell hm2
  (repeat (first | refine cj_seq ?_ | refine cjr TT rfl ?_))
  refine oj_callS rfl rfl rfl rfl rfl Tryd.call15 ⟨trivial,trivial⟩ (Decode_c s3 b (by omega) bo bc HB) fun v s6 hle6 ⟨po,pc,hv,HP⟩=>⟨.tup [.a (.v (.slice po (decG b).1.length pc)),.a (.v (.int .i64 (decG b).2))],(by (repeat' (first | exact trivial | refine SV.lt_tup ?_ | constructor))),hv.symm,?_⟩
  have HB:=HB.mono hle6
  have hm6:=hle6.cell hm3
  refine oj_run TT rfl ?_
  (repeat (first | refine cj_seq ?_ | refine cjr TT rfl ?_ | refine oj_then ?_))
  refine cj_if rfl (fun h=>?_) (fun h=>?_)
  · have h:(decG b).2≠0:=by
      have h':(!decide ((decG b).2=0))=true:=h
      simpa using h'
    rw [dec_bad h]
    (repeat (first | refine cj_seq ?_ | refine cjr TT rfl ?_ | refine oj_then ?_ | refine cj_ret ?_ | refine nj_then_ret ?_))
    refine nj_ret TT rfl fun β w' _ _=>?_
    rfl
  have h:(decG b).2=0:=by
    have h':(!decide ((decG b).2=0))=false:=h
    simpa using h'
  obtain ⟨hrt,h16,hfl2,henc⟩:=there_law h
  have hEn:=Encode_c s6 m hm6 (decG b).1 (by omega) (fun p hp=>by
    have h1:=put_ge (hrt p hp)
    have h2:=flat_ge hp
    rw [hfl2] at h2
    unfold mostLen
    omega) po pc HP
  rw [henc] at hEn
  (repeat (first | refine cj_seq ?_ | refine cjr TT rfl ?_ | refine cj_skip ?_ | refine nj_then ?_))
  refine oj_callS rfl rfl rfl rfl rfl Tryd.call12 ⟨trivial,trivial⟩ hEn fun v s7 hle7 ⟨yo,yc,hv,HY⟩=>⟨.tup [.a (.v (.slice yo b.length yc)),.a (.v (.int .i64 0))],(by (repeat' (first | exact trivial | refine SV.lt_tup ?_ | constructor))),hv.symm,?_⟩
  have HB:=HB.mono hle7
  refine oj_run TT rfl ?_
  (repeat (first | refine cj_seq ?_ | refine cjr TT rfl ?_ | refine oj_then ?_))
  refine oj_split 69 rfl (fun _=>?_) (fun h=>absurd (show decide ((0:Int)=0)=false from h) (by decide))
  refine oj_run TT rfl ?_
  refine oj_strOf TT rfl rfl rfl rfl rfl rfl rfl rfl rfl rfl rfl rfl HY (oj_run TT rfl ?_)
  refine oj_strOf TT rfl rfl rfl rfl rfl rfl rfl rfl rfl rfl rfl rfl HB (oj_run TT rfl ?_)
  (repeat (first | refine oj_then ?_ | refine cj_ret ?_))
  refine nj_ret TT rfl fun β w' _ _=>?_
  show Value.bool (decide ((⟨b.toArray⟩:ByteArray)=⟨b.toArray⟩))=_
  rw [decide_eq_true rfl]
end Go.Sy
/- From a row's data to what the walks ask: a value that is read in the world is a tree that lies in memory, all of it sealed. -/
namespace Go.Sy
open Go.ChangeShapes Go.RowKit
def snapOf (W:World):Snap:=fun b=>W.heap[b]?
theorem snapOf_sealed (W:World):Sealed (snapOf W) W:=fun _ _ h=>h
theorem snapOf_cell (W:World) (a:Addr):(snapOf W).cell a=W.cell? a:=rfl
structure VT (P:Program) (tV tL tM tE tD tS tI tB:TypeId):Prop where
  v:∃ fs:Array Field,P.underlying tV=some (.struct fs)/\fs.toList.map (fun f=>(f.type,f.offset))=[(tI,0),(tB,1),(tD,2),(tS,5),(tL,6),(tM,7)]
  l:P.underlying tL=some (.slice tV)
  m:P.underlying tM=some (.slice tE)
  e:∃ fs:Array Field,P.underlying tE=some (.struct fs)/\fs.toList.map (fun f=>(f.type,f.offset))=[(tS,0),(tV,1)]
  d:∃ fs:Array Field,P.underlying tD=some (.struct fs)/\fs.toList.map (fun f=>(f.type,f.offset))=[(tB,0),(tS,1),(tI,2)]
  s:P.underlying tS=some .string
  i:P.underlying tI=some (.int .i64)
  b:P.underlying tB=some .bool
  cV:P.cellsOf tV=8
  cE:P.cellsOf tE=9
  cD:P.cellsOf tD=3
  cS:P.cellsOf tS=1
  cI:P.cellsOf tI=1
  cB:P.cellsOf tB=1
  cL:P.cellsOf tL=1
  cM:P.cellsOf tM=1
  bV:0<P.bytesOf tV
  bE:0<P.bytesOf tE
section
variable {H:Type} {enc:TypeId×Value->H} {P:Program} {w:World} {sp:Nat->Bool} {held:Bool}
theorem field_at {fs:Array Field} {l:List (TypeId×Nat)} (h:fs.toList.map (fun f=>(f.type,f.offset))=l) {i:Nat} {t:TypeId} {o:Nat} (hi:l[i]?=some (t,o)) :
    ∃ f,fs[i]?=some f/\f.type=t/\f.offset=o:=by
  subst h
  rw [List.getElem?_map] at hi
  simp only [Option.map_eq_some_iff,Prod.mk.injEq] at hi
  obtain ⟨f,h1,h2,h3⟩:=hi
  exact ⟨f,by simpa using h1,h2,h3⟩
theorem open_struct {t:TypeId} {fs:Array Field} {l:List (TypeId×Nat)} {n:Nat} {cs:List Value} {x:DataW H×List MemPlace} (hu:P.underlying t=some (.struct fs)) (hl:fs.toList.map (fun f=>(f.type,f.offset))=l)
    (h:DataW.trod enc P w 0 sp held n t cs=some x) :
    ∃ m,m<n/\cs.length=P.cellsOf t/\∀ (i:Nat) (u:TypeId) (o:Nat),l[i]?=some (u,o)->∃ y:DataW H×List MemPlace,DataW.trod enc P w 0 sp held m u ((cs.drop o).take (P.cellsOf u))=some y/\∀ k∈y.1.weights P u,k∈x.1.weights P t:=by
  obtain ⟨xs,m,rfl,rfl,h1,h2,h3⟩:=DataW.trod_struct hu h
  refine ⟨m,by omega,h1,fun i u o hi=>?_⟩
  obtain ⟨f,hf,rfl,rfl⟩:=field_at hl hi
  have hi':i<xs.length:=by
    rw [h2]
    have:=(List.getElem?_eq_some_iff.1 (show fs.toList[i]?=some f by simpa using hf)).1
    simpa using this
  refine ⟨xs[i],by rw [h3 i f hf,List.getElem?_eq_getElem hi'],fun k hk=>?_⟩
  rw [DataW.weights.eq_def]
  simp only [hu]
  exact DataW.weights_mem_each (j:=i) (t:=f.type) (d:=xs[i].1) (by simp;exact ⟨f,by simpa using hf,rfl⟩) (by simp [List.getElem?_eq_getElem hi']) k hk
theorem weightsAll_mem {e:TypeId}:∀ {ds:List (DataW H)} {d:DataW H},d∈ds->∀ k∈d.weights P e,k∈DataW.weightsAll P e ds
  | _::_,_,.head _,k,hk=>by rw [DataW.weightsAll];exact List.mem_append_left _ hk
  | _::_,_,.tail _ h,k,hk=>by rw [DataW.weightsAll];exact List.mem_append_right _ (weightsAll_mem h k hk)
theorem open_sl {t e:TypeId} {n sz:Nat} {c:Value} {x:DataW H×List MemPlace} (hu:P.underlying t=some (.slice e)) (hc:P.cellsOf e=sz) (hb:0<P.bytesOf e) (h:DataW.trod enc P w 0 sp held n t [c]=some x)
    (hw:∀ k∈x.1.weights P t,k<=reachBytes) :
    ∃ (ao:Option Addr) (len cap m:Nat),c=.slice ao len cap/\m<n/\len<=cap/\len<=reachBytes /\
      (len=0\/∃ a,ao=some a/\∀ i,i<len->∃ (cs:List Value) (y:DataW H×List MemPlace),cs.length=sz/\(∀ j v,cs[j]?=some v->w.cell? (a.add (i*sz+j))=some v) /\
        DataW.trod enc P w 0 sp held m e cs=some y/\∀ k∈y.1.weights P e,k∈x.1.weights P t):=by
  rcases DataW.trod_slice hu h with ⟨h1,rfl⟩ | ⟨a,len,cap,elems,rest,m,rfl,h1,rfl,_,h3,h4,h5,h6,_,_⟩
  · injection h1 with h1
    subst h1
    refine ⟨none,0,0,0,rfl,?_,Nat.le_refl _,by decide,.inl rfl⟩
    cases n with
    | zero=>simp [DataW.trod] at h
    | succ n=>omega
  · injection h1 with h1
    subst h1
    have hwt:(DataW.slice (elems.map (·.1)) (rest.map (·.1)):DataW H).weights P t=((elems.map (·.1)).length+(rest.map (·.1)).length)*P.bytesOf e::(DataW.weightsAll P e (elems.map (·.1))++DataW.weightsAll P e (rest.map (·.1))):=by
      rw [DataW.weights.eq_def]
      simp only [hu]
    refine ⟨some a,len,cap,m,rfl,by omega,h3,?_,.inr ⟨a,rfl,fun i hi=>?_⟩⟩
    · have:=hw _ (by rw [hwt];exact List.mem_cons_self)
      simp only [List.length_map] at this
      have h7:elems.length<=(elems.length+rest.length)*P.bytesOf e:=Nat.le_trans (Nat.le_add_right _ _) (Nat.le_mul_of_pos_right _ hb)
      omega
    · have hi':i<elems.length:=by omega
      have h8:=h6 i hi
      rw [List.getElem?_eq_getElem hi',hc] at h8
      obtain ⟨cs,h9,h10⟩:=Option.bind_eq_some_iff.1 h8
      obtain ⟨_,h11,h12⟩:=World.cells?_some h9
      refine ⟨cs,elems[i],h11,fun j v hj=>?_,h10,fun k hk=>?_⟩
      · have hj':j<sz:=by rw [<-h11];exact (List.getElem?_eq_some_iff.1 hj).1
        have:=h12 j hj'
        rw [hj] at this
        rw [<-this]
        congr 1
        exact (Addr.add_add _ _ _).symm
      · rw [hwt]
        exact List.mem_cons_of_mem _ (List.mem_append_left _ (weightsAll_mem (List.mem_map.2 ⟨elems[i],List.getElem_mem hi',rfl⟩) k hk))
theorem RepL.range {σ:Snap} {G:Nat->GVal} {R:Nat->List AT}:∀ l:List Nat,(∀ i∈l,RepV σ (G i) (R i))->RepL σ (l.map G) (l.map R)
  | [],_=>by simp [RepL]
  | a::l,h=>by
    simp only [List.map_cons,RepL]
    exact ⟨R a,l.map R,rfl,h a List.mem_cons_self,RepL.range l fun i hi=>h i (List.mem_cons_of_mem _ hi)⟩
theorem keyRows_range (K:Nat->ByteArray) (R:Nat->List AT):∀ l:List Nat,keyRows (l.map K) (l.map R)=l.map fun i=>keyRow (K i) (R i)
  | []=>rfl
  | a::l=>by simp [keyRows,keyRows_range K R l]
theorem slAt_range {ao:Option Addr} {len cap sz:Nat} {R:Nat->List AT} (h1:len<=cap) (h2:∀ i,i<len->(R i).length=sz/\∀ c∈R i,c.lt 0)
    (h3:len=0\/∃ a,ao=some a/\∀ i,i<len->∀ j v,((R i).map (AT.den β0))[j]?=some v->w.cell? (a.add (i*sz+j))=some v):SlAt (snapOf w) ao len cap sz ((List.range len).map R):=by
  refine ⟨by simp,h1,fun r hr=>?_,?_⟩
  · obtain ⟨i,hi,rfl⟩:=List.mem_map.1 hr
    exact h2 i (List.mem_range.1 hi)
  · rcases h3 with h3 | ⟨a,h3,h4⟩
    · exact .inl h3
    · refine .inr ⟨a,h3,fun i r j c hr hc=>?_⟩
      rw [List.getElem?_map] at hr
      obtain ⟨i',h5,rfl⟩:=Option.map_eq_some_iff.1 hr
      obtain ⟨h6,h7⟩:=List.getElem?_eq_some_iff.1 h5
      have h8:i<len:=by simpa using h6
      have h9:i'=i:=by simpa using h7.symm
      subst h9
      rw [snapOf_cell]
      exact h4 i' h8 j _ (by rw [List.getElem?_map,hc];rfl)
variable {tV tL tM tE tD tS tI tB:TypeId}
theorem open_str {n:Nat} {t:TypeId} {c:Value} {x:DataW H×List MemPlace} (hu:P.underlying t=some .string) (h:DataW.trod enc P w 0 sp held n t [c]=some x) (hw:∀ k∈x.1.weights P t,k<=reachBytes) :
    ∃ s:ByteArray,c=.string s/\s.size<=mostLen:=by
  obtain ⟨s,h1,rfl,_⟩:=DataW.trod_string hu h
  injection h1 with h1
  subst h1
  refine ⟨s,rfl,?_⟩
  have:=hw s.data.toList.length (by rw [DataW.weights.eq_def];exact List.mem_cons_self)
  have h2:s.data.toList.length=s.size:=rfl
  rw [h2] at this
  exact this
theorem open_val (T:VT P tV tL tM tE tD tS tI tB):∀ (n:Nat) (cs:List Value) (x:DataW H×List MemPlace),DataW.trod enc P w 0 sp held n tV cs=some x->(∀ k∈x.1.weights P tV,k<=reachBytes) ->
    ∃ (g:GVal) (r:List AT),cs=r.map (AT.den β0)/\RepV (snapOf w) g r:=by
  intro n
  induction n using Nat.strongRecOn with
  | _ n ih=>?_
  intro cs x h hw
  obtain ⟨fs,hu,hl⟩:=T.v
  obtain ⟨m,hm,hlen,hf⟩:=open_struct hu hl h
  rw [T.cV] at hlen
  match cs,hlen with
  | [c0,c1,c2,c3,c4,c5,c6,c7],_ =>
  obtain ⟨y0,h0,_⟩:=hf 0 tI 0 rfl
  obtain ⟨y1,h1,_⟩:=hf 1 tB 1 rfl
  obtain ⟨y2,h2,w2⟩:=hf 2 tD 2 rfl
  obtain ⟨y3,h3,w3⟩:=hf 3 tS 5 rfl
  obtain ⟨y4,h4,w4⟩:=hf 4 tL 6 rfl
  obtain ⟨y5,h5,w5⟩:=hf 5 tM 7 rfl
  rw [T.cI] at h0
  rw [T.cB] at h1
  rw [T.cD] at h2
  rw [T.cS] at h3
  rw [T.cL] at h4
  rw [T.cM] at h5
  simp only [List.drop_zero,List.drop_succ_cons,List.take_succ_cons,List.take_zero] at h0 h1 h2 h3 h4 h5
  obtain ⟨k,e0,-,-⟩:=DataW.trod_int T.i h0
  obtain ⟨b,e1,-⟩:=DataW.trod_bool T.b h1
  obtain ⟨s,e5,hs⟩:=open_str T.s h3 fun k hk=>hw k (w3 k hk)
  obtain ⟨fd,hud,hld⟩:=T.d
  obtain ⟨md,hmd,-,hfd⟩:=open_struct hud hld h2
  obtain ⟨z0,g0,_⟩:=hfd 0 tB 0 rfl
  obtain ⟨z1,g1,v1⟩:=hfd 1 tS 1 rfl
  obtain ⟨z2,g2,_⟩:=hfd 2 tI 2 rfl
  rw [T.cB] at g0
  rw [T.cS] at g1
  rw [T.cI] at g2
  simp only [List.drop_zero,List.drop_succ_cons,List.take_succ_cons,List.take_zero] at g0 g1 g2
  obtain ⟨ng,e2,-⟩:=DataW.trod_bool T.b g0
  obtain ⟨dg,e3,hdg⟩:=open_str T.s g1 fun k hk=>hw k (w2 k (v1 k hk))
  obtain ⟨ex,e4,-,-⟩:=DataW.trod_int T.i g2
  injection e0 with e0
  injection e1 with e1
  injection e2 with e2
  injection e4 with e4
  subst e0 e1 e2 e3 e4 e5
  obtain ⟨la,ll,lc,ml,rfl,hml,hll,hlr,hle⟩:=open_sl T.l T.cV T.bV h4 fun k hk=>hw k (w4 k hk)
  obtain ⟨ma,lm,mc,mm,rfl,hmm,hlm,hmr,hme⟩:=open_sl T.m T.cE T.bE h5 fun k hk=>hw k (w5 k hk)
  have HL:∀ i,∃ gr:GVal×List AT,i<ll->RepV (snapOf w) gr.1 gr.2/\∀ a,la=some a->∀ j v,(gr.2.map (AT.den β0))[j]?=some v->w.cell? (a.add (i*8+j))=some v:=by
    intro i
    by_cases hi:i<ll
    · rcases hle with h0 | ⟨a,rfl,hle⟩
      · omega
      · obtain ⟨cs,y,_,q2,q3,q4⟩:=hle i hi
        obtain ⟨g,r,rfl,hr⟩:=ih ml (by omega) cs y q3 fun k hk=>hw k (w4 k (q4 k hk))
        exact ⟨(g,r),fun _=>⟨hr,fun a' ha=>by injection ha with ha;subst ha;exact q2⟩⟩
    · exact ⟨(.mk 0 false ⟨false,⟨#[]⟩,0⟩ ⟨#[]⟩ [] [] [],[]),fun h=>absurd h hi⟩
  have HM:∀ i,∃ gr:ByteArray×GVal×List AT,i<lm->gr.1.size<=mostLen/\RepV (snapOf w) gr.2.1 gr.2.2/\∀ a,ma=some a->∀ j v,((keyRow gr.1 gr.2.2).map (AT.den β0))[j]?=some v->w.cell? (a.add (i*9+j))=some v:=by
    intro i
    by_cases hi:i<lm
    · rcases hme with h0 | ⟨a,rfl,hme⟩
      · omega
      · obtain ⟨cs,y,q1,q2,q3,q4⟩:=hme i hi
        obtain ⟨fe,hue,hle'⟩:=T.e
        obtain ⟨me,hme',-,hfe⟩:=open_struct hue hle' q3
        obtain ⟨u0,p0,x0⟩:=hfe 0 tS 0 rfl
        obtain ⟨u1,p1,x1⟩:=hfe 1 tV 1 rfl
        rw [T.cS] at p0
        rw [T.cV] at p1
        match cs,q1 with
        | c::cs',q1 =>
          simp only [List.drop_zero,List.drop_succ_cons,List.take_succ_cons,List.take_zero] at p0 p1
          rw [List.take_of_length_le (by simp at q1;omega)] at p1
          obtain ⟨key,rfl,hk⟩:=open_str T.s p0 fun k hk=>hw k (w5 k (q4 k (x0 k hk)))
          obtain ⟨g,r,rfl,hr⟩:=ih me (by omega) cs' u1 p1 fun k hk=>hw k (w5 k (q4 k (x1 k hk)))
          exact ⟨(key,g,r),fun _=>⟨hk,hr,fun a' ha=>by injection ha with ha;subst ha;exact q2⟩⟩
    · exact ⟨(⟨#[]⟩,.mk 0 false ⟨false,⟨#[]⟩,0⟩ ⟨#[]⟩ [] [] [],[]),fun h=>absurd h hi⟩
  obtain ⟨FL,HL⟩:=Classical.axiomOfChoice HL
  obtain ⟨FM,HM⟩:=Classical.axiomOfChoice HM
  refine ⟨.mk k b ⟨ng,dg,ex⟩ s ((List.range ll).map fun i=>(FL i).1) ((List.range lm).map fun i=>(FM i).1) ((List.range lm).map fun i=>(FM i).2.1),
    [.v (.int .i64 k),.b b,.b ng,.v (.string dg),.v (.int .i64 ex),.v (.string s),.v (.slice la ll lc),.v (.slice ma lm mc)],rfl,?_⟩
  simp only [RepV]
  refine ⟨la,lc,(List.range ll).map fun i=>(FL i).2,ma,mc,(List.range lm).map fun i=>(FM i).2.2,by simp,?_,RepL.range _ fun i hi=>(HL i (List.mem_range.1 hi)).1,by simp,?_,RepL.range _ fun i hi=>(HM i (List.mem_range.1 hi)).2.1,hdg,hs,by simpa [mostLen,reachBytes] using hlr,by simpa [mostLen,reachBytes] using hmr,?_⟩
  · simp only [List.length_map,List.length_range]
    refine slAt_range hll (fun i hi=>⟨(HL i hi).1.len,(HL i hi).1.clo⟩) ?_
    rcases hle with h0 | ⟨a,rfl,_⟩
    · exact .inl h0
    · exact .inr ⟨a,rfl,fun i hi=>(HL i hi).2 a rfl⟩
  · rw [keyRows_range]
    simp only [List.length_map,List.length_range]
    refine slAt_range hlm (fun i hi=>⟨by simp [keyRow,(HM i hi).2.1.len],fun c hc=>?_⟩) ?_
    · cases hc with
      | head=>trivial
      | tail _ hc=>exact (HM i hi).2.1.clo c hc
    · rcases hme with h0 | ⟨a,rfl,_⟩
      · exact .inl h0
      · exact .inr ⟨a,rfl,fun i hi=>(HM i hi).2.2 a rfl⟩
  · intro key hk
    obtain ⟨i,hi,rfl⟩:=List.mem_map.1 hk
    exact (HM i (List.mem_range.1 hi)).1
end
end Go.Sy
/- The closing of a law's row, alike from law to law. -/
namespace Go.Sy
open Go.ChangeShapes Go.RowKit
section
variable {H:Type} {enc:TypeId×Value->H} {P:Program} {W W':World} {sp:Nat->Bool}
theorem trodAll_stays {T:TypeId->Prop} (K:_root_.Go.Kids P T) (hz:∀ t e,T t->P.underlying t=some (.slice e)->0<P.cellsOf e) :
    ∀ {ts:List TypeId} {vs:List Value} {ds:List (DataW H)} {ps:List MemPlace},(∀ t∈ts,T t)->DataW.TrodAll enc P W 0 (fun _=>true) true ts vs ds ps ->
      (∀ p∈ps,W.sameAt W' p)->(∀ p∈ps,sp p.block=true)->DataW.TrodAll enc P W' 0 sp true ts vs ds ps
  | [],[],[],_,_,h,_,_=>h
  | _::_,_::_,_::_,_,hT,⟨p,q,⟨n,h1⟩,h2,e⟩,hs,hb =>
    ⟨p,q,⟨n,DataW.trod_stays K (fun ht hu=>hz _ _ ht hu) (fun h=>by cases h) (hT _ List.mem_cons_self) h1 (fun x hx=>hs x (by rw [e];exact List.mem_append_left _ hx)) (fun x hx=>hb x (by rw [e];exact List.mem_append_left _ hx))⟩,
      trodAll_stays K hz (fun t ht=>hT t (List.mem_cons_of_mem _ ht)) h2 (fun x hx=>hs x (by rw [e];exact List.mem_append_right _ hx)) (fun x hx=>hb x (by rw [e];exact List.mem_append_right _ hx)),e⟩
theorem below_of_fr {M:Nat->Prop} {w w':World} (h:Fr M w w') (hM:∀ b,¬ M b):Below w.heap.size w w':=⟨h.os,h.tape,h.output,h.size,fun k hk=>h.block k hk (hM k)⟩
theorem post_of_law {f:Func} {s:ChangeSpec} {apart fresh handsOn again:Bool} {args:Array Value} {ds gs:List (DataW H)} {before:List MemPlace} {tB:TypeId}
    (hl:laidOutB P=true) (hm:mapsRowed P=true) (hz:∀ t e,t<P.types.size->P.underlying t=some (.slice e)->0<P.cellsOf e)
    (hts:∀ t∈f.params.toList,t<P.types.size) (hr:f.resultTypes=#[tB]) (hB:P.underlying tB=some .bool) (hv:s.vars=[])
    (hres:(s.fn H (ds++gs)).results=[.lit (.bool true)]) (hargs:(s.fn H (ds++gs)).args=ds) (hvars:(s.fn H (ds++gs)).vars=[])
    (hW:DataW.Whole enc P f.params.toList s.vars apart W args.toList ds gs before) (hb:Below W.heap.size W W') :
    s.post enc P f apart fresh handsOn again W args (.bool true) W':=by
  have hW':=hW
  obtain ⟨p,q,hA,hV,rfl,hfz,hnd⟩:=hW
  rw [hv] at hV
  obtain ⟨rfl,rfl⟩:=trodVars_none hV
  have hlt:∀ x∈p++([]:List MemPlace),x.block<W.heap.size:=fun x hx=>hW'.lt x hx
  have h1:∀ (b:Nat) (sp:Nat->Bool) (hd:Bool),DataW.TrodAll enc P W' b sp hd f.resultTypes.toList ((Value.bool true).resultList f.resultTypes.size) (s.fn H (ds++[])).results []:=by
    intro b sp hd
    rw [hr,hres]
    exact trodAll_mk1 (shut_bool hB true)
  have h2:∀ sp:Nat->Bool,(∀ x∈p++([]:List MemPlace),sp x.block=true)->DataW.TrodAll enc P W' 0 sp true f.params.toList args.toList (s.fn H (ds++[])).args p:=by
    intro sp hs
    rw [hargs]
    exact trodAll_stays (T:=(·<P.types.size)) (kids_rows hl hm) hz hts hA (fun x hx=>hb.same (hlt x (List.mem_append_left _ hx))) (fun x hx=>hs x (List.mem_append_left _ hx))
  have h3:∀ sp:Nat->Bool,DataW.TrodVars enc P W' sp s.vars (s.fn H (ds++[])).vars []:=by
    intro sp
    rw [hv,hvars]
    rfl
  have hold:∀ x∈p++([]:List MemPlace),(fun b=>decide (b<W.heap.size)) x.block=true:=fun x hx=>by simpa using hlt x hx
  refine ⟨ds,[],_,[],p,[],hW',h1 _ _ _,h2 _ hold,h3 _,hb.frame _,fun _=>⟨ok_one hr rfl (okWide_bool_mk hB _),_,_,([]++p)++[],⟨[]++p,[],trodAll_append (h2 _ (fun _ _=>rfl)) (h1 _ _ _),h3 _,rfl,?_,?_⟩,?_⟩⟩
  · intro b off hp
    have hp':MemPlace.cell b off∈p++([]:List MemPlace):=by simpa using hp
    rw [hb.frozen (p:=⟨b,off,none⟩) (hlt _ hp')]
    exact hfz b off hp'
  · intro ha
    have:=hnd ha
    simpa using this
  · intro x hp _
    simpa using hp
theorem okWide_agg {tV tL tM tE tD tS tI tB:TypeId} (T:VT P tV tL tM tE tD tS tI tB) {r:Reach} {base:Nat} {v:Value} (h:Value.okWide P W r base tV v):∃ cs:Array Value,v=.agg cs/\cs.size=P.cellsOf tV:=by
  obtain ⟨fs,hu,_⟩:=T.v
  unfold Value.okWide at h
  rw [hu] at h
  obtain ⟨cs,h1,h2,_⟩:=h
  exact ⟨cs,h1,h2⟩
theorem okWide_str {t:TypeId} (T:∃ fs,P.underlying t=some (.struct fs)) {r:Reach} {base:Nat} {v:Value} (h:Value.okWide P W r base t v):∃ (fs:Array Field) (_:P.underlying t=some (.struct fs)) (cs:Array Value),v=.agg cs/\cs.size=P.cellsOf t:=by
  obtain ⟨fs,hu⟩:=T
  unfold Value.okWide at h
  rw [hu] at h
  obtain ⟨cs,h1,h2,_⟩:=h
  exact ⟨fs,hu,cs,h1,h2⟩
theorem weights_le {ts:List TypeId} {ds:List (DataW H)} (h:(DataW.weightsEach P ts ds).all (·<=reachBytes)=true) {j:Nat} {t:TypeId} {d:DataW H} (ht:ts[j]?=some t) (hd:ds[j]?=some d):∀ k∈d.weights P t,k<=reachBytes:=by
  intro k hk
  have:=List.all_eq_true.1 h k (DataW.weights_mem_each ht hd k hk)
  simpa using this
end
end Go.Sy
/- Closed facts of the program that every row's closing asks. -/
namespace Go.Proofs.YtlonlnagmfdlbaaDoor.Row
open Go Go.Proofs Go.Sy Go.ChangeShapes Go.WideShapes Go.ChangeAt Go.RowKit
set_option maxRecDepth 100000
theorem own:ownKnob Tryd.prog.godebug=none:=by kernel_rfl
theorem laidOut:laidOutB Tryd.prog=true:=by kernel_rfl
theorem rowed:mapsRowed Tryd.prog=true:=by kernel_rfl
theorem full:∀ t e,t<Tryd.prog.types.size->Tryd.prog.underlying t=some (.slice e)->0<Tryd.prog.cellsOf e:=slices_full_of Tryd.prog (by kernel_rfl)
theorem vt:VT Tryd.prog 44 41 42 139 40 9 3 4 where
  v:=⟨_,Tryd.underlying44,rfl⟩
  l:=by kernel_rfl
  m:=by kernel_rfl
  e:=⟨_,Tryd.underlying139,rfl⟩
  d:=⟨_,Tryd.underlying40,rfl⟩
  s:=by kernel_rfl
  i:=by kernel_rfl
  b:=by kernel_rfl
  cV:=by kernel_rfl
  cE:=by kernel_rfl
  cD:=by kernel_rfl
  cS:=by kernel_rfl
  cI:=by kernel_rfl
  cB:=by kernel_rfl
  cL:=by kernel_rfl
  cM:=by kernel_rfl
  bV:=of_decide_eq_true (by kernel_rfl)
  bE:=of_decide_eq_true (by kernel_rfl)
theorem farLen (w:World) (h:w.ShapedOpen Tryd.prog):∃ m,w.cell? ⟨0,0,none⟩=some (.int .i64 m):=Go.Proofs.cell_of_shapedOpen_int (zero:=#[.int .i64 0]) (t:=3) h (of_decide_eq_true (by kernel_rfl)) (by kernel_rfl) rfl (by kernel_rfl) (by kernel_rfl) Tryd.underlying3
end Go.Proofs.YtlonlnagmfdlbaaDoor.Row
