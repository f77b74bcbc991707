/- Parts of the proof of CKeysCode: K19, K18b, K20, K21, K10, K15, SyYa, K22. No conditions. -/
import Derived.Test.YtlonlnagmfdlbaaDoorM7
namespace Go.Sy
open Go.Proofs
def RText (b:List UInt8):Option (List UInt8×List UInt8)->Value
  | none=>.tuple #[.string emptyB,.int .i64 0]
  | some (s,r)=>.tuple #[.string (mkB s),.int .i64 ((b.length - r.length:Nat):Int)]
theorem drop_two {b:List UInt8} {k:Nat} {c d:UInt8} (hc:b[k]?=some c) (hd:b[k+1]?=some d):b.drop k=c::d::b.drop (k+2):=by
  obtain ⟨h1,e1⟩:=List.getElem?_eq_some_iff.1 hc
  obtain ⟨h2,e2⟩:=List.getElem?_eq_some_iff.1 hd
  rw [List.drop_eq_getElem_cons h1,e1,List.drop_eq_getElem_cons h2,e2]
theorem text_two (c d:UInt8) (r:List UInt8):textG (c::d::r)=if c≠0 then (textG (d::r)).map fun p=>(c::p.1,p.2) else if d=0 then some ([],r) else if d=255 then (textG r).map fun p=>(0::p.1,p.2) else none:=by rw [textG]
theorem text_short {b:List UInt8} (h:b.length<=1):textG b=none:=by
  match b,h with
  | [],_=>rfl
  | [_],_=>rfl
  | _::_::_,h=>simp at h
structure RtS where
  k:Nat
  out:List UInt8
  oo:Option Addr
  oc:Nat
set_option maxRecDepth 100000 in
set_option maxHeartbeats 4000000 in
theorem rtext_c (σ:Snap) (b:List UInt8) (hb:b.length<=1000000) (ao:Option Addr) (cap:Nat) (H:SlAt σ ao b.length cap 1 (u8Rows b)) :
    PlainS Tryd.prog 43 [.a (.v (.slice ao b.length cap))] σ (fun v=>v=RText b (textG b)):=by
  refine enter_p Tryd.func43 rfl rfl (by (repeat' (first | exact trivial | constructor))) fun w=>?_
  (repeat (first | refine cj_seq ?_ | refine cjr TT rfl ?_ | refine oj_then ?_ | refine cj_block ?_))
  refine cj_nilarr 5 1 ?_
  skip
  refine cj_loop (fun (_:RtS)=>σ) (fun t=>[(0,.a (.v (.slice ao b.length cap))),(4,.a (.v (.slice t.oo t.out.length t.oc))),(5,.a (.v (.int .i64 (t.k:Nat))))]) (fun _=>[]) (fun t=>[u8E t.oo t.oc t.out]) 0
    (fun t=>t.k<=b.length/\t.out.length<=t.k/\t.out.length<=t.oc/\textG b=(textG (b.drop t.k)).map fun p=>(t.out++p.1,p.2)) (fun t=>b.length - t.k) ⟨0,[],none,0⟩ ⟨Nat.zero_le _,Nat.le_refl _,Nat.le_refl _,by simp⟩ rfl (by (repeat first | exact trivial | refine ⟨rfl,?_⟩)) (by (repeat first | exact trivial | refine ⟨rfl,?_⟩)) rfl (by (repeat' (first | exact trivial | constructor))) (by (repeat' exact trivial)) fun ⟨k,out,oo,oc⟩ ⟨hk,hok,hoc,hI⟩=>?_
  dsimp only at hk hok hoc hI ⊢
  (repeat (first | refine cj_seq ?_ | refine cjr TT rfl ?_ | refine oj_then ?_ | (refine oj_add rfl rfl rfl rfl rfl rfl (by omega) ?_;refine oj_run TT rfl ?_)))
  refine cj_if rfl (fun hc=>?_) (fun hc=>?_)
  rotate_left
  · have hc:¬ ((k:Int)+1<b.length):=of_decide_eq_false hc
    rw [hI,text_short (by rw [List.length_drop];omega)]
    (repeat (first | refine cj_seq ?_ | refine cjr TT rfl ?_ | refine oj_then ?_ | refine cj_exit ?_ | refine cj_ret ?_ | refine nj_then ?_ | refine nj_then_exit ?_ | refine nj_block_out ?_))
    refine nj_ret TT rfl fun β w' _ _=>?_
    rfl
  have hc:(k:Int)+1<b.length:=of_decide_eq_true hc
  have hk1:k<b.length:=by omega
  have hk2:k+1<b.length:=by omega
  have hx:=List.getElem?_eq_getElem hk1
  have hy:=List.getElem?_eq_getElem hk2
  generalize b[k]=c at *
  generalize b[k+1]=d at *
  have hd2:=drop_two hx hy
  have hd1:b.drop (k+1)=d::b.drop (k+2):=by
    have:=congrArg List.tail hd2
    rw [List.tail_drop] at this
    exact this
  have hrx:=u8Rows_get hx
  have hry:∀ z:Int,z=(k:Int)+1->(u8Rows b)[z.toNat]?=some [.v (.int .u8 d.toNat)]:=fun z hz=>by rw [hz,show ((k:Int)+1).toNat=k+1 by omega];exact u8Rows_get hy
  rw [hd2,text_two] at hI
  (repeat (first | refine cj_seq ?_ | refine cjr TT rfl ?_ | refine cj_skip ?_ | refine cj_block ?_ | refine nj_then ?_))
  refine oj_idx TT rfl rfl rfl rfl rfl rfl rfl rfl rfl H (by omega) hrx (oj_run TT rfl ?_)
  (repeat refine oj_then ?_)
  refine cj_if rfl (fun h0=>?_) (fun h0=>?_)
  · have h0:c≠0:=fun e=>by
      have h:(!decide ((c.toNat:Int)=0))=true:=h0
      rw [e] at h
      simp at h
    rw [if_pos h0,<-hd1] at hI
    (repeat (first | refine cj_seq ?_ | refine cjr TT rfl ?_))
    refine oj_idx TT rfl rfl rfl rfl rfl rfl rfl rfl rfl H (by omega) hrx (oj_run TT rfl ?_)
    refine oj_append_lit TT 0 rfl rfl rfl rfl rfl rfl rfl rfl rfl rfl rfl rfl rfl rfl rfl rfl rfl rfl (by (repeat' (first | exact trivial | refine AllLt.of ?_ | constructor))) rfl (by omega) (by show (out.length+1)*1<=_;omega) fun oo' oc' hoc'=>oj_run TT rfl ?_
    (repeat (first | refine cjr TT rfl ?_ | refine oj_then ?_ | refine oj_nil ?_ | refine cj_exit ?_ | refine nj_then ?_ | refine nj_then_exit ?_ | refine nj_block_out ?_ | (refine oj_add rfl rfl rfl rfl rfl rfl (by omega) ?_;refine oj_run TT rfl ?_)))
    have hl1:(out++[c]).length=out.length+1:=by simp
    refine nj_again (⟨k+1,out++[c],oo',oc'⟩:RtS) ⟨hk1,by dsimp only;omega,by dsimp only;omega,?_⟩ (by dsimp only;omega) rfl ?_ (by (repeat first | exact trivial | refine ⟨rfl,?_⟩)) ?_ (by (repeat' (first | exact trivial | constructor))) (by (repeat' exact trivial))
    · dsimp only
      rw [hI]
      cases textG (b.drop (k+1)) with
      | none=>rfl
      | some p=>simp
    · dsimp only
      rw [hl1]
      (repeat first | exact trivial | refine ⟨rfl,?_⟩)
    · show [_]=[_]
      dsimp only
      exact congrArg (fun q=>[q]) (u8E_app (a:=out) (b:=[c]) hl1.symm).symm
  have h0:c=0:=by
    have h:(!decide ((c.toNat:Int)=0))=false:=h0
    simp only [Bool.not_eq_false',decide_eq_true_eq] at h
    exact UInt8.toNat_inj.1 (by show c.toNat=0;omega)
  rw [if_neg (by simp [h0])] at hI
  (repeat (first | refine cj_seq ?_ | refine cjr TT rfl ?_ | refine cj_skip ?_ | refine nj_then ?_ | (refine oj_add rfl rfl rfl rfl rfl rfl (by omega) ?_;refine oj_run TT rfl ?_)))
  refine oj_idx TT rfl rfl rfl rfl rfl rfl rfl rfl rfl H (by omega) (hry _ rfl) (oj_run TT rfl ?_)
  (repeat refine oj_then ?_)
  refine cj_if rfl (fun h1=>?_) (fun h1=>?_)
  · have h1:d=0:=by
      have h:decide ((d.toNat:Int)=0)=true:=h1
      rw [decide_eq_true_eq] at h
      exact UInt8.toNat_inj.1 (by show d.toNat=0;omega)
    rw [if_pos h1] at hI
    (repeat (first | refine cj_seq ?_ | refine cjr TT rfl ?_))
    refine oj_strOfA 0 TT rfl rfl rfl rfl rfl rfl rfl rfl rfl rfl rfl rfl rfl rfl (oj_run TT rfl ?_)
    (repeat (first | refine oj_then ?_ | refine cj_ret ?_ | refine nj_then_ret ?_ | refine nj_block_ret ?_ | (refine oj_add rfl rfl rfl rfl rfl rfl (by omega) ?_;refine oj_run TT rfl ?_)))
    refine nj_ret TT rfl fun β w' _ _=>?_
    rw [hI]
    show Value.tuple #[.string ⟨out.toArray⟩,.int .i64 ((k:Int)+2)]=.tuple #[.string (mkB (out++[])),.int .i64 ((b.length - (b.drop (k+2)).length:Nat):Int)]
    rw [List.append_nil,List.length_drop,show b.length - (b.length - (k+2))=k+2 by omega]
    rfl
  have h1:d≠0:=fun e=>by
    have h:decide ((d.toNat:Int)=0)=false:=h1
    rw [e] at h
    simp at h
  rw [if_neg h1] at hI
  (repeat (first | refine cj_seq ?_ | refine cjr TT rfl ?_ | refine cj_skip ?_ | refine nj_then ?_ | (refine oj_add rfl rfl rfl rfl rfl rfl (by omega) ?_;refine oj_run TT rfl ?_)))
  refine oj_idx TT rfl rfl rfl rfl rfl rfl rfl rfl rfl H (by omega) (hry _ rfl) (oj_run TT rfl ?_)
  (repeat refine oj_then ?_)
  refine cj_if rfl (fun h2=>?_) (fun h2=>?_)
  · have h2:d≠255:=fun e=>by
      have h:(!decide ((d.toNat:Int)=255))=true:=h2
      rw [e] at h
      simp at h
    rw [if_neg h2] at hI
    rw [hI]
    (repeat (first | refine cj_seq ?_ | refine cjr TT rfl ?_ | refine oj_then ?_ | refine cj_ret ?_ | refine nj_then_ret ?_ | refine nj_block_ret ?_))
    refine nj_ret TT rfl fun β w' _ _=>?_
    rfl
  have h2:d=255:=by
    have h:(!decide ((d.toNat:Int)=255))=false:=h2
    simp only [Bool.not_eq_false',decide_eq_true_eq] at h
    exact UInt8.toNat_inj.1 (by show d.toNat=255;omega)
  rw [if_pos h2] at hI
  (repeat (first | refine cj_seq ?_ | refine cjr TT rfl ?_ | refine cj_skip ?_ | refine nj_then ?_))
  refine oj_append_lit TT 0 rfl rfl rfl rfl rfl rfl rfl rfl rfl rfl rfl rfl rfl rfl rfl rfl rfl rfl (by (repeat' (first | exact trivial | refine AllLt.of ?_ | constructor))) rfl (by omega) (by show (out.length+1)*1<=_;omega) fun oo' oc' hoc'=>oj_run TT rfl ?_
  (repeat (first | refine cjr TT rfl ?_ | refine oj_then ?_ | refine oj_nil ?_ | refine nj_then ?_ | refine nj_block ?_ | (refine oj_add rfl rfl rfl rfl rfl rfl (by omega) ?_;refine oj_run TT rfl ?_)))
  have hl1:(out++[0]).length=out.length+1:=by simp
  refine nj_again (⟨k+1+1,out++[0],oo',oc'⟩:RtS) ⟨hk2,by dsimp only;omega,by dsimp only;omega,?_⟩ (by dsimp only;omega) rfl ?_ (by (repeat first | exact trivial | refine ⟨rfl,?_⟩)) ?_ (by (repeat' (first | exact trivial | constructor))) (by (repeat' exact trivial))
  · dsimp only
    rw [hI]
    show Option.map _ (Option.map _ (textG (b.drop (k+2))))=_
    cases textG (b.drop (k+2)) with
    | none=>rfl
    | some p=>simp
  · dsimp only
    rw [hl1]
    (repeat first | exact trivial | refine ⟨rfl,?_⟩)
  · show [_]=[_]
    dsimp only
    exact congrArg (fun q=>[q]) (u8E_app (a:=out) (b:=[0]) hl1.symm).symm
def zeroD:List AT:=[.ff,.v (.string ⟨#[]⟩),.v (.int .i64 0)]
def RNum (b:List UInt8):Option (GDec×List UInt8)->Value
  | none=>.tuple #[.agg #[.bool false,.string emptyB,.int .i64 0],.int .i64 0]
  | some (d,r)=>.tuple #[.agg #[.bool d.neg,.string d.dg,.int .i64 d.ex],.int .i64 ((b.length - r.length:Nat):Int)]
theorem mkB_app (a b:List UInt8):mkB a++mkB b=mkB (a++b):=by
  apply ByteArray.ext
  rw [ByteArray.data_append]
  simp [mkB]
theorem fig_str:∀ c:UInt8,c≠0->c<=10->(mkB [48,49,50,51,52,53,54,55,56,57]).extract (c - 1).toNat c.toNat=mkB [48+c - 1]:=by
  intro c h0 h1
  rw [mkB_extract]
  congr 1
  revert h0 h1
  exact all8 (p:=fun c=>c≠0->c<=10->List.drop (c - 1).toNat (List.take c.toNat [48,49,50,51,52,53,54,55,56,57])=[48+c - 1]) (by decide +kernel) c
structure NbS where
  k:Nat
  e:Int
  oo:Option Addr
  oc:Nat
def Found (T:List UInt8) (k:Nat) (e:Int):Prop :=
  (e = -1/\∀ (j:Nat) c,2<=j->j<k->T[j]?=some c->c≠0)\/∃ m:Nat,2<=m/\e=(m:Nat)/\k=m+1/\T[m]?=some 0/\∀ (j:Nat) c,2<=j->j<m->T[j]?=some c->c≠0
theorem found_none {b T:List UInt8} {neg:Bool} (hT:(if neg then turnG b else b)=T) (h:∀ (j:Nat) c,2<=j->j<b.length->T[j]?=some c->c≠0):numberG b neg=none:=by
  have hl:T.length=b.length:=by rw [<-hT];split<;>simp [turnG_len]
  match T,hT,hl with
  | [],_,hl=>exact num_short (by rw [<-hl];decide)
  | [_],_,hl=>exact num_short (by rw [<-hl];show 1<3;omega)
  | x::y::s,hT,hl =>
    refine num_noz hT fun c hc=>?_
    obtain ⟨j,hj,e⟩:=List.mem_iff_getElem.1 hc
    refine h (j+2) c (by omega) (by rw [<-hl];simp only [List.length_cons];omega) ?_
    show s[j]?=some c
    rw [List.getElem?_eq_getElem hj,e]
theorem found_some {b T:List UInt8} {neg:Bool} {m:Nat} (hT:(if neg then turnG b else b)=T) (h2:2<=m) (hz:T[m]?=some 0) (h:∀ (j:Nat) c,2<=j->j<m->T[j]?=some c->c≠0) :
    ∃ (x y:UInt8) (ds t:List UInt8),T=x::y::(ds++0::t)/\m=2+ds.length/\∀ c∈ds,c≠0:=by
  obtain ⟨hm,he⟩:=List.getElem?_eq_some_iff.1 hz
  match T,hm,he,h with
  | [],hm,_,_=>simp at hm
  | [_],hm,_,_=>simp only [List.length_singleton] at hm;omega
  | x::y::s,hm,he,h =>
    obtain ⟨n,rfl⟩:∃ n,m=n+2:=⟨m - 2,by omega⟩
    have hn:n<s.length:=by simp only [List.length_cons] at hm;omega
    have he:s[n]=0:=he
    refine ⟨x,y,s.take n,s.drop (n+1),?_,by rw [List.length_take];omega,fun c hc=>?_⟩
    · rw [<-he,<-List.drop_eq_getElem_cons hn,List.take_append_drop]
    · obtain ⟨j,hj,e⟩:=List.mem_iff_getElem.1 hc
      rw [List.length_take] at hj
      refine h (j+2) c (by omega) (by omega) ?_
      show s[j]?=some c
      rw [List.getElem_take] at e
      rw [List.getElem?_eq_getElem (by omega),e]
theorem mul256 (c:UInt8):-9223372036854775808<=(c.toNat:Int)*256/\(c.toNat:Int)*256<=9223372036854775807:=by
  have:=c.toNat_lt
  omega
set_option maxRecDepth 100000 in
set_option maxHeartbeats 8000000 in
theorem rnumber_c (σ:Snap) (b:List UInt8) (hb:b.length<=1000000) (ao:Option Addr) (cap:Nat) (H:SlAt σ ao b.length cap 1 (u8Rows b)) (neg:Bool) :
    PlainS Tryd.prog 42 [.a (.v (.slice ao b.length cap)),.a (.b neg)] σ (fun v=>v=RNum b (numberG b neg)):=by
  obtain ⟨T,hT⟩:∃ T,(if neg then turnG b else b)=T:=⟨_,rfl⟩
  have hTl:T.length=b.length:=by rw [<-hT];split<;>simp [turnG_len]
  refine enter_p Tryd.func42 rfl rfl (by (repeat' (first | exact trivial | constructor))) fun w=>?_
  (repeat (first | refine cj_seq ?_ | refine cjr TT rfl ?_ | refine oj_then ?_ | refine cj_block ?_))
  refine cj_nilarr 5 1 ?_
  skip
  refine cj_cutB (fun _=>σ) (fun (t:NbS)=>[(1,.a (.b neg)),(4,.a (.p 0 0)),(6,.a (.v (.slice t.oo t.k t.oc))),(7,.a (.v (.int .i64 t.e)))]) (fun _=>[(0,.loc 40,zeroD)]) (fun t=>[⟨t.oo,t.k,t.oc,5,1,u8Xs (T.take t.k)⟩]) 1
    (fun t=>t.k<=b.length/\t.k<=t.oc/\Found T t.k t.e/\(t.k=b.length\/0<=t.e)) ?_ (fun ⟨k,e,oo,oc⟩ ⟨hk,hoc,hF,hE⟩=>?_)
  · refine cj_loop (fun (_:NbS)=>σ) (fun t=>[(0,.a (.v (.slice ao b.length cap))),(1,.a (.b neg)),(4,.a (.p 0 0)),(6,.a (.v (.slice t.oo t.k t.oc))),(7,.a (.v (.int .i64 t.e))),(8,.a (.v (.int .i64 (t.k:Nat))))]) (fun _=>[(0,.loc 40,zeroD)]) (fun t=>[⟨t.oo,t.k,t.oc,5,1,u8Xs (T.take t.k)⟩]) 1
      (fun t=>t.k<=b.length/\t.k<=t.oc/\Found T t.k t.e) (fun t=>b.length - t.k) ⟨0,-1,none,0⟩ ⟨Nat.zero_le _,Nat.le_refl _,.inl ⟨rfl,fun j c h1 h2=>by dsimp only at h2;omega⟩⟩ rfl (by (repeat first | exact trivial | refine ⟨rfl,?_⟩)) (by (repeat first | exact trivial | refine ⟨rfl,?_⟩)) rfl (by (repeat' (first | exact trivial | exact Nat.le_of_ble_eq_true rfl | constructor))) (by (repeat' (first | exact trivial | exact Nat.le_of_ble_eq_true rfl | refine AllLt.of ?_ | constructor))) fun ⟨k,e,oo,oc⟩ ⟨hk,hoc,hF⟩=>?_
    dsimp only at hk hoc hF ⊢
    (repeat (first | refine cj_seq ?_ | refine cjr TT rfl ?_))
    refine oj_split 16 rfl (fun h1=>?_) (fun h1=>?_)
    rotate_left
    · have h1:¬ ((k:Int)<b.length):=of_decide_eq_false h1
      refine oj_run TT rfl ?_
      (repeat (first | refine oj_then ?_ | refine cj_if_f rfl ?_ | refine cj_exit ?_ | refine nj_then_exit ?_ | refine nj_block_out ?_))
      refine nj_again (⟨k,e,oo,oc⟩:NbS) ⟨hk,hoc,hF,.inl (by dsimp only;omega)⟩ Nat.zero_lt_one rfl (by (repeat first | exact trivial | refine ⟨rfl,?_⟩)) (by (repeat first | exact trivial | refine ⟨rfl,?_⟩)) rfl (by (repeat' (first | exact trivial | exact Nat.le_of_ble_eq_true rfl | constructor))) (by (repeat' (first | exact trivial | exact Nat.le_of_ble_eq_true rfl | refine AllLt.of ?_ | constructor)))
    have h1:(k:Int)<b.length:=of_decide_eq_true h1
    refine oj_run TT rfl ?_
    (repeat refine oj_then ?_)
    refine cj_if rfl (fun h2=>?_) (fun h2=>?_)
    rotate_left
    · have h2:¬ (e<0):=of_decide_eq_false h2
      (repeat (first | refine cj_exit ?_ | refine nj_then_exit ?_ | refine nj_block_out ?_))
      refine nj_again (⟨k,e,oo,oc⟩:NbS) ⟨hk,hoc,hF,.inr (by dsimp only;omega)⟩ Nat.zero_lt_one rfl (by (repeat first | exact trivial | refine ⟨rfl,?_⟩)) (by (repeat first | exact trivial | refine ⟨rfl,?_⟩)) rfl (by (repeat' (first | exact trivial | exact Nat.le_of_ble_eq_true rfl | constructor))) (by (repeat' (first | exact trivial | exact Nat.le_of_ble_eq_true rfl | refine AllLt.of ?_ | constructor)))
    have h2:e<0:=of_decide_eq_true h2
    have hno:e = -1/\∀ (j:Nat) c,2<=j->j<k->T[j]?=some c->c≠0:=by
      rcases hF with h | ⟨m,-,h,-⟩
      · exact h
      · omega
    obtain ⟨rfl,hno⟩:=hno
    clear hF h2
    have hkl:k<b.length:=by omega
    have hx:=List.getElem?_eq_getElem hkl
    have hrow:=u8Rows_get hx
    have hTk:T[k]?=some (if neg then 255 - b[k] else b[k]):=by
      rw [<-hT]
      cases neg
      · exact hx
      · show (turnG b)[k]?=_
        unfold turnG
        rw [List.getElem?_map,hx]
        rfl
    have htk:T.take (k+1)=T.take k++[if neg then 255 - b[k] else b[k]]:=by
      obtain ⟨h3,h4⟩:=List.getElem?_eq_some_iff.1 hTk
      rw [List.take_succ_eq_append_getElem h3,h4]
    generalize b[k]=c0 at *
    (repeat (first | refine cj_seq ?_ | refine cjr TT rfl ?_ | refine cj_skip ?_ | refine cj_block ?_ | refine nj_then ?_))
    refine oj_idx TT rfl rfl rfl rfl rfl rfl rfl rfl rfl H (by omega) hrow (oj_run TT rfl ?_)
    (repeat (first | refine cj_seq ?_ | refine cjr TT rfl ?_ | refine oj_then ?_))
    refine cj_cutN (fun _=>σ) (fun (_:Unit)=>[(0,.a (.v (.slice ao b.length cap))),(1,.a (.b neg)),(4,.a (.p 0 0)),(6,.a (.v (.slice oo k oc))),(7,.a (.v (.int .i64 (-1)))),(8,.a (.v (.int .i64 (k:Nat)))),(9,.a (.v (.int .u8 ((if neg then 255 - c0 else c0:UInt8).toNat:Nat))))]) (fun _=>[(0,.loc 40,zeroD)]) (fun _=>[⟨oo,k,oc,5,1,u8Xs (T.take k)⟩]) 1 (fun _=>True) ?_ (fun _ _=>?_)
    · refine cj_if rfl (fun hn=>?_) (fun hn=>?_)
      · have hn:neg=true:=hn
        subst hn
        (repeat refine cjr TT rfl ?_)
        refine oj_arith ((255 - c0).toNat:Int) rfl rfl rfl rfl rfl rfl (run_sub (wrap8_turn c0)) (oj_run TT rfl ?_)
        (repeat refine oj_nil ?_)
        refine nj_again () trivial Nat.zero_lt_one rfl (by (repeat first | exact trivial | refine ⟨rfl,?_⟩)) (by (repeat first | exact trivial | refine ⟨rfl,?_⟩)) rfl (by (repeat' (first | exact trivial | exact Nat.le_of_ble_eq_true rfl | constructor))) (by (repeat' (first | exact trivial | exact Nat.le_of_ble_eq_true rfl | refine AllLt.of ?_ | constructor)))
      · have hn:neg=false:=hn
        subst hn
        (repeat refine cj_skip ?_)
        refine nj_again () trivial Nat.zero_lt_one rfl (by (repeat first | exact trivial | refine ⟨rfl,?_⟩)) (by (repeat first | exact trivial | refine ⟨rfl,?_⟩)) rfl (by (repeat' (first | exact trivial | exact Nat.le_of_ble_eq_true rfl | constructor))) (by (repeat' (first | exact trivial | exact Nat.le_of_ble_eq_true rfl | refine AllLt.of ?_ | constructor)))
    generalize (if neg then 255 - c0 else c0:UInt8)=c at *
    dsimp only
    (repeat (first | refine cj_seq ?_ | refine cjr TT rfl ?_))
    refine oj_append_lit TT 0 rfl rfl rfl rfl rfl rfl rfl rfl rfl rfl rfl rfl rfl rfl rfl rfl rfl rfl (by (repeat' (first | exact trivial | refine AllLt.of ?_ | constructor))) rfl (by omega) (by show (k+1)*1<=_;omega) fun oo' oc' hoc'=>oj_run TT rfl ?_
    have hA:([⟨oo,k,oc,5,1,u8Xs (T.take k)⟩]:List AE).set 0 ⟨oo',k+1,oc',5,1,u8Xs (T.take k)++[.int .u8 (c.toNat:Nat)]⟩=[⟨oo',k+1,oc',5,1,u8Xs (T.take (k+1))⟩]:=by
      rw [htk,u8Xs_append]
      rfl
    (repeat (first | refine cj_seq ?_ | refine cjr TT rfl ?_ | refine oj_then ?_))
    refine oj_split 35 rfl (fun h3=>?_) (fun h3=>?_)
    rotate_left
    · have h3:¬ ((k:Int) > 1):=of_decide_eq_false h3
      refine oj_run TT rfl ?_
      (repeat (first | refine cjr TT rfl ?_ | refine oj_then ?_ | refine oj_nil ?_ | refine cj_if_f rfl ?_ | refine cj_skip ?_ | refine nj_then ?_ | refine nj_block ?_ | (refine oj_add rfl rfl rfl rfl rfl rfl (by omega) ?_;refine oj_run TT rfl ?_)))
      refine nj_again (⟨k+1,-1,oo',oc'⟩:NbS) ⟨hkl,hoc',.inl ⟨rfl,fun j c' q1 q2 q3=>by dsimp only at q2;omega⟩⟩ (by dsimp only;omega) rfl (by (repeat first | exact trivial | refine ⟨rfl,?_⟩)) (by (repeat first | exact trivial | refine ⟨rfl,?_⟩)) hA.symm (by (repeat' (first | exact trivial | exact Nat.le_of_ble_eq_true rfl | constructor))) (by (repeat' (first | exact trivial | exact Nat.le_of_ble_eq_true rfl | refine AllLt.of ?_ | constructor)))
    have h3:(k:Int) > 1:=of_decide_eq_true h3
    refine oj_run TT rfl ?_
    (repeat refine oj_then ?_)
    refine cj_if rfl (fun h4=>?_) (fun h4=>?_)
    · have h4:c=0:=by
        have h:decide ((c.toNat:Int)=0)=true:=h4
        rw [decide_eq_true_eq] at h
        exact UInt8.toNat_inj.1 (by show c.toNat=0;omega)
      (repeat (first | refine cjr TT rfl ?_ | refine oj_nil ?_ | refine nj_then ?_ | refine nj_block ?_ | (refine oj_add rfl rfl rfl rfl rfl rfl (by omega) ?_;refine oj_run TT rfl ?_)))
      refine nj_again (⟨k+1,(k:Int),oo',oc'⟩:NbS) ⟨hkl,hoc',.inr ⟨k,by omega,rfl,rfl,by rw [<-h4];exact hTk,hno⟩⟩ (by dsimp only;omega) rfl (by (repeat first | exact trivial | refine ⟨rfl,?_⟩)) (by (repeat first | exact trivial | refine ⟨rfl,?_⟩)) hA.symm (by (repeat' (first | exact trivial | exact Nat.le_of_ble_eq_true rfl | constructor))) (by (repeat' (first | exact trivial | exact Nat.le_of_ble_eq_true rfl | refine AllLt.of ?_ | constructor)))
    have h4:c≠0:=fun e=>by
      have h:decide ((c.toNat:Int)=0)=false:=h4
      rw [e] at h
      simp at h
    (repeat (first | refine cjr TT rfl ?_ | refine oj_nil ?_ | refine cj_skip ?_ | refine nj_then ?_ | refine nj_block ?_ | (refine oj_add rfl rfl rfl rfl rfl rfl (by omega) ?_;refine oj_run TT rfl ?_)))
    refine nj_again (⟨k+1,-1,oo',oc'⟩:NbS) ⟨hkl,hoc',.inl ⟨rfl,fun j c' q1 q2 q3=>?_⟩⟩ (by dsimp only;omega) rfl (by (repeat first | exact trivial | refine ⟨rfl,?_⟩)) (by (repeat first | exact trivial | refine ⟨rfl,?_⟩)) hA.symm (by (repeat' (first | exact trivial | exact Nat.le_of_ble_eq_true rfl | constructor))) (by (repeat' (first | exact trivial | exact Nat.le_of_ble_eq_true rfl | refine AllLt.of ?_ | constructor)))
    dsimp only at q2
    by_cases hj:j=k
    · subst hj
      rw [hTk] at q3
      injection q3 with q3
      rw [<-q3]
      exact h4
    · exact hno j c' q1 (by omega) q3
  dsimp only at hk hoc hF hE ⊢
  refine cj_seal 0 rfl rfl fun s1 hle1 hS=>?_
  (repeat (first | refine cj_seq ?_ | refine cjr TT rfl ?_ | refine oj_then ?_))
  rcases hF with ⟨rfl,hno⟩ | ⟨m,hm2,rfl,rfl,hTm,hno⟩
  · have hkb:k=b.length:=by omega
    rw [hkb] at hno
    rw [found_none hT hno]
    refine cj_if rfl (fun _=>?_) (fun h=>absurd h (by decide))
    (repeat (first | refine cj_seq ?_ | refine cjr TT rfl ?_ | refine oj_then ?_ | refine cj_ret ?_ | refine nj_then_ret ?_))
    refine nj_ret TT rfl fun β w' _ _=>?_
    rfl
  obtain ⟨x,y,ds,t,hTe,hmd,hds0⟩:=found_some hT hm2 hTm hno
  have hlen:T.length=ds.length+t.length+3:=by rw [hTe];simp only [List.length_cons,List.length_append];omega
  rw [num_z (hT.trans hTe) hds0]
  refine cj_if rfl (fun h=>?_) (fun h=>?_)
  · have h:(m:Int)<3:=of_decide_eq_true h
    rw [if_pos (.inl (List.eq_nil_of_length_eq_zero (by omega)))]
    (repeat (first | refine cj_seq ?_ | refine cjr TT rfl ?_ | refine oj_then ?_ | refine cj_ret ?_ | refine nj_then_ret ?_))
    refine nj_ret TT rfl fun β w' _ _=>?_
    rfl
  have h:¬ (m:Int)<3:=of_decide_eq_false h
  have hdn:ds≠[]:=fun e=>by rw [e] at hmd;simp at hmd;omega
  have hTk:T.take (m+1)=x::y::(ds++[0]):=by
    rw [hTe,show m+1=ds.length+1+1+1 by omega,List.take_succ_cons,List.take_succ_cons,List.take_append,List.take_of_length_le (by omega)]
    simp
  have HS:SlAt s1 oo (m+1) oc 1 (u8Rows (x::y::(ds++[0]))):=by
    have hl:(x::y::(ds++[0])).length=m+1:=by simp;omega
    rw [hTk] at hS
    have hS:ArrSealed s1 (u8E oo oc (x::y::(ds++[0]))):=by unfold u8E;rw [hl];exact hS
    have:=u8_sealed hS (by rw [hl];exact hoc)
    rw [hl] at this
    exact this
  (repeat (first | refine cj_seq ?_ | refine cjr TT rfl ?_ | refine oj_then ?_ | refine cj_skip ?_ | refine cj_block ?_ | refine nj_then ?_))
  refine cj_cutB (fun _=>s1) (fun (_:Unit)=>[(4,.a (.p 0 0)),(6,.a (.v (.slice oo (m+1) oc))),(7,.a (.v (.int .i64 (m:Nat)))),(10,.a (.p 1 0))]) (fun _=>[(0,.loc 40,zeroD),(1,.loc 40,[.b neg,.v (.string (mkB (ds.map fun c=>48+c - 1))),.v (.int .i64 0)])]) (fun _=>[]) 2
    (fun _=>∀ c∈ds,c<=10) ?_ (fun _ h10=>?_)
  · refine cj_loop (fun (_:Nat)=>s1) (fun i=>[(4,.a (.p 0 0)),(6,.a (.v (.slice oo (m+1) oc))),(7,.a (.v (.int .i64 (m:Nat)))),(10,.a (.p 1 0)),(11,.a (.v (.int .i64 (i:Nat))))]) (fun i=>[(0,.loc 40,zeroD),(1,.loc 40,[.b neg,.v (.string (mkB ((ds.take (i - 2)).map fun c=>48+c - 1))),.v (.int .i64 0)])]) (fun _=>[]) 2
      (fun i=>2<=i/\i<=m/\∀ c∈ds.take (i - 2),c<=10) (fun i=>m - i) 2 ⟨Nat.le_refl _,hm2,fun c hc=>by cases hc⟩ rfl (by (repeat first | exact trivial | refine ⟨rfl,?_⟩)) (by (repeat first | exact trivial | refine ⟨rfl,?_⟩)) rfl (by (repeat' (first | exact trivial | exact Nat.le_of_ble_eq_true rfl | constructor))) (by (repeat' (first | exact trivial | exact Nat.le_of_ble_eq_true rfl | refine AllLt.of ?_ | constructor))) fun i ⟨hi2,him,h10⟩=>?_
    (repeat (first | refine cj_seq ?_ | refine cjr TT rfl ?_ | refine oj_then ?_))
    refine cj_if rfl (fun h1=>?_) (fun h1=>?_)
    rotate_left
    · have h1:¬ ((i:Int)<m):=of_decide_eq_false h1
      have him:i - 2=ds.length:=by omega
      rw [him,List.take_length] at h10 ⊢
      (repeat (first | refine cj_exit ?_ | refine nj_then_exit ?_ | refine nj_block_out ?_))
      refine nj_again () h10 Nat.zero_lt_one rfl (by (repeat first | exact trivial | refine ⟨rfl,?_⟩)) (by (repeat first | exact trivial | refine ⟨rfl,?_⟩)) rfl (by (repeat' (first | exact trivial | exact Nat.le_of_ble_eq_true rfl | constructor))) (by (repeat' (first | exact trivial | exact Nat.le_of_ble_eq_true rfl | refine AllLt.of ?_ | constructor)))
    have h1:(i:Int)<m:=of_decide_eq_true h1
    have hil:i - 2<ds.length:=by omega
    have hx:=List.getElem?_eq_getElem hil
    have hc0:=hds0 _ (List.getElem_mem hil)
    have htk:ds.take (i+1 - 2)=ds.take (i - 2)++[ds[i - 2]]:=by rw [show i+1 - 2=(i - 2)+1 by omega];exact List.take_succ_eq_append_getElem hil
    have hrow:(u8Rows (x::y::(ds++[0])))[i]?=some [.v (.int .u8 ds[i - 2].toNat)]:=by
      refine u8Rows_get ?_
      obtain ⟨n,rfl⟩:∃ n,i=n+2:=⟨i - 2,by omega⟩
      show (ds++[0])[n]?=_
      have e:(ds++[0])[n]?=ds[n]?:=List.getElem?_append_left (by omega)
      rw [e]
      exact hx
    have hmem:=List.getElem_mem hil
    generalize ds[i - 2]=c at *
    (repeat (first | refine cj_seq ?_ | refine cjr TT rfl ?_ | refine cj_skip ?_ | refine cj_block ?_ | refine nj_then ?_))
    refine oj_idx TT rfl rfl rfl rfl rfl rfl rfl rfl rfl HS (by omega) hrow (oj_run TT rfl ?_)
    (repeat refine oj_then ?_)
    refine cj_if rfl (fun h2=>?_) (fun h2=>?_)
    · have h2:(c.toNat:Int) > 10:=of_decide_eq_true h2
      rw [if_pos (.inr (.inl (List.any_eq_true.2 ⟨c,hmem,by rw [decide_eq_true_eq,UInt8.lt_iff_toNat_lt];show 10<c.toNat;omega⟩)))]
      (repeat (first | refine cj_seq ?_ | refine cjr TT rfl ?_ | refine oj_then ?_ | refine cj_ret ?_ | refine nj_then_ret ?_ | refine nj_block_ret ?_))
      refine nj_ret TT rfl fun β w' _ _=>?_
      rfl
    have h2:¬ (c.toNat:Int) > 10:=of_decide_eq_false h2
    have hc10:c<=10:=by rw [UInt8.le_iff_toNat_le];show c.toNat<=10;omega
    have hfig:=fig_str c hc0 hc10
    have hcp:(c - 1).toNat+1=c.toNat:=by
      have:=(all8 (p:=fun c=>c≠0->(c - 1).toNat+1=c.toNat) (by decide +kernel) c) hc0
      exact this
    have htl:(ds.take (i - 2)).length<=ds.length:=by rw [List.length_take];omega
    (repeat (first | refine cj_skip ?_ | refine nj_then ?_))
    refine cj_draw [(0,.pure),(1,.quiet),(2,.pure),(3,.pure),(4,.pure),(5,.quiet),(6,.pure),(7,.pure),(8,.pure),(9,.pure),(10,.quiet),(11,.pure),(12,.pure),(13,.pure),(14,.sink)] mixed (by kernel_rfl) (oj_run TT rfl ?_)
    refine oj_idx TT rfl rfl rfl rfl rfl rfl rfl rfl rfl HS (by omega) hrow (oj_run TT rfl ?_)
    refine oj_arith ((c - 1).toNat:Int) rfl rfl rfl rfl rfl rfl (run_sub (wrap8_dec c)) (oj_run TT rfl ?_)
    refine oj_idx TT rfl rfl rfl rfl rfl rfl rfl rfl rfl HS (by omega) hrow (oj_run TT rfl ?_)
    refine oj_slice_str (vl:=some (.int .u8 ((c - 1).toNat:Int))) (vh:=some (.int .u8 (c.toNat:Int))) TT (c - 1).toNat c.toNat rfl rfl rfl rfl rfl rfl rfl rfl rfl (.inr ⟨_,_,rfl,rfl⟩) (.inr ⟨_,_,rfl,rfl⟩) (by omega) (by show c.toNat<=10;omega) ?_
    rw [show ((⟨#[48,49,50,51,52,53,54,55,56,57]⟩:ByteArray).extract (c - 1).toNat c.toNat)=mkB [48+c - 1] from hfig]
    refine oj_run TT rfl ?_
    refine oj_strcat rfl rfl rfl rfl rfl rfl (by rw [mkB_size,mkB_size,List.length_map,List.length_singleton];omega) ?_
    have hdg:(ds.take (i - 2)).map (fun c=>48+c - 1)++[48+c - 1]=(ds.take (i+1 - 2)).map (fun c=>48+c - 1):=by rw [htk,List.map_append];rfl
    rw [mkB_app,hdg]
    refine oj_run TT rfl ?_
    (repeat (first | refine cjr TT rfl ?_ | refine oj_nil ?_ | refine nj_then ?_ | refine nj_block ?_ | (refine oj_add rfl rfl rfl rfl rfl rfl (by omega) ?_;refine oj_run TT rfl ?_)))
    refine nj_again (i+1) ⟨by omega,by omega,fun z hz=>?_⟩ (by omega) rfl (by (repeat first | exact trivial | refine ⟨rfl,?_⟩)) (by (repeat first | exact trivial | refine ⟨rfl,?_⟩)) rfl (by (repeat' (first | exact trivial | exact Nat.le_of_ble_eq_true rfl | constructor))) (by (repeat' (first | exact trivial | exact Nat.le_of_ble_eq_true rfl | refine AllLt.of ?_ | constructor)))
    rw [htk] at hz
    rcases List.mem_append.1 hz with hz | hz
    · exact h10 z hz
    · rw [List.mem_singleton] at hz
      rw [hz]
      exact hc10
  have hany:(ds.any fun c=>decide (10<c))=false:=any_false_of h10
  have hcond:(ds=[]\/(ds.any fun c=>decide (10<c))=true\/decSane (decOf neg x y ds)=false)↔decSane (decOf neg x y ds)=false:=by
    rw [hany]
    exact ⟨fun h=>(h.resolve_left hdn).resolve_left (fun h=>by cases h),fun h=>.inr (.inr h)⟩
  simp only [hcond]
  have hx7:=x.toNat_lt
  have hy7:=y.toNat_lt
  (repeat refine cj_seq ?_)
  refine cj_draw [(0,.pure),(1,.pure),(2,.quiet),(3,.pure),(4,.pure),(5,.pure),(6,.pure),(7,.quiet),(8,.pure),(9,.pure),(10,.pure),(11,.pure),(12,.quiet),(13,.pure),(14,.pure),(15,.pure),(16,.sink)] mixed (by kernel_rfl) (oj_run TT rfl ?_)
  refine oj_idx TT rfl rfl rfl rfl rfl rfl rfl rfl rfl HS (by omega) (r:=[.v (.int .u8 x.toNat)]) rfl (oj_run TT rfl ?_)
  refine oj_conv TT (x.toNat:Int) rfl rfl rfl rfl rfl rfl rfl rfl (wrap64 x) (oj_run TT rfl ?_)
  refine oj_mul rfl rfl rfl rfl rfl rfl (mul256 x) (oj_run TT rfl ?_)
  refine oj_idx TT rfl rfl rfl rfl rfl rfl rfl rfl rfl HS (by omega) (r:=[.v (.int .u8 y.toNat)]) rfl (oj_run TT rfl ?_)
  refine oj_conv TT (y.toNat:Int) rfl rfl rfl rfl rfl rfl rfl rfl (wrap64 y) (oj_run TT rfl ?_)
  refine oj_add rfl rfl rfl rfl rfl rfl (by omega) (oj_run TT rfl ?_)
  refine oj_minus rfl rfl rfl rfl rfl rfl (by omega) (oj_run TT rfl ?_)
  rw [show ((mkB (ds.map fun c=>48+c - 1)).size:Int)=ds.length by rw [mkB_size,List.length_map]]
  refine oj_minus rfl rfl rfl rfl rfl rfl (by omega) (oj_run TT rfl ?_)
  (repeat (first | refine cj_seq ?_ | refine cjr TT rfl ?_ | refine oj_then ?_))
  refine oj_callP rfl rfl rfl rfl rfl Tryd.call40 (by (repeat' (first | exact trivial | refine AllLt.of ?_ | constructor))) (rdecSane_c s1 (decOf neg x y ds) (by show (mkB _).size<=_;rw [mkB_size,List.length_map];unfold mostLen;omega)) fun v hv=>⟨.a (.b (decSane (decOf neg x y ds))),trivial,hv.symm,?_⟩
  refine oj_run TT rfl ?_
  (repeat refine oj_then ?_)
  refine cj_if rfl (fun h=>?_) (fun h=>?_)
  · have h:decSane (decOf neg x y ds)=false:=by simpa using h
    rw [if_pos h]
    (repeat (first | refine cj_seq ?_ | refine cjr TT rfl ?_ | refine oj_then ?_ | refine cj_ret ?_ | refine nj_then_ret ?_))
    refine nj_ret TT rfl fun β w' _ _=>?_
    rfl
  have h:decSane (decOf neg x y ds)=true:=by simpa using h
  rw [if_neg (by rw [h];decide)]
  (repeat (first | refine cj_seq ?_ | refine cjr TT rfl ?_ | refine oj_then ?_ | refine cj_skip ?_ | refine cj_ret ?_ | refine nj_then ?_ | (refine oj_add rfl rfl rfl rfl rfl rfl (by omega) ?_;refine oj_run TT rfl ?_)))
  refine nj_ret TT rfl fun β w' _ _=>?_
  show _=Value.tuple #[.agg #[.bool neg,.string (mkB (ds.map fun c=>48+c - 1)),.int .i64 (x.toNat*256+y.toNat - 1000 - ds.length)],.int .i64 ((b.length - (b.drop (3+ds.length)).length:Nat):Int)]
  rw [List.length_drop,show b.length - (b.length - (3+ds.length))=m+1 by omega]
  rfl
end Go.Sy
namespace Go.Sy
open Go.Proofs
structure ReS where
  k:Nat
  oo:Option Addr
  oc:Nat
set_option maxRecDepth 100000 in
set_option maxHeartbeats 4000000 in
theorem REncode_c (σ:Snap) (l:List GPart) (hl:l.length<=140737488355328) (hb:∀ p∈l,p.n.dg.size<=mostLen/\p.s.size<=1000000) (lo:Option Addr) (lc:Nat) (H:SlAt σ lo l.length lc 7 (paRows l)) :
    PureS Tryd.prog 17 [.a (.v (.slice lo l.length lc))] σ (fun v σ'=>∃ bo bc,v=.tuple #[.slice bo (encG l).1.length bc,.int .i64 (encG l).2]/\SlAt σ' bo (encG l).1.length bc 1 (u8Rows (encG l).1)):=by
  refine enter_s Tryd.func17 rfl rfl (by (repeat' (first | exact trivial | constructor))) fun w=>?_
  (repeat (first | refine cj_seq ?_ | refine cjr TT rfl ?_ | refine oj_then ?_))
  refine cj_if rfl (fun h=>?_) (fun h=>?_)
  · have h:=of_decide_eq_true (show decide ((16:Int)<l.length)=true from h)
    have e:encG l=([],4):=by unfold encG;rw [if_pos (by omega)]
    rw [e]
    (repeat (first | refine cj_seq ?_ | refine cjr TT rfl ?_ | refine oj_then ?_ | refine cj_ret ?_ | refine nj_then_ret ?_))
    refine nj_ret TT rfl fun β w' _ _=>?_
    exact ⟨none,0,rfl,SlAt.nil _ none 0 1⟩
  have h16:l.length<=16:=by have:=of_decide_eq_false (show decide ((16:Int)<l.length)=false from h);omega
  (repeat (first | refine cj_seq ?_ | refine cjr TT rfl ?_ | refine oj_then ?_ | refine cj_skip ?_ | refine cj_block ?_ | refine nj_then ?_))
  refine cj_nilarr 5 1 ?_
  refine cj_loop2 (fun (s:Snap) (_:ReS)=>s) (fun _ t=>[(0,.a (.v (.slice lo l.length lc))),(4,.a (.v (.slice t.oo (enK l t.k).length t.oc))),(5,.a (.v (.int .i64 (t.k:Nat))))]) (fun _ _=>[]) (fun _ t=>[u8E t.oo t.oc (enK l t.k)]) 0
    (fun s t=>σ.le s/\t.k<=l.length/\(enK l t.k).length<=t.oc/\∀ p∈l.take t.k,Rt p) (fun _ t=>l.length - t.k) σ ⟨0,none,0⟩ ⟨Snap.le_refl _,Nat.zero_le _,Nat.le_refl _,fun _ h=>(by cases h)⟩ rfl (by (repeat first | exact trivial | refine ⟨rfl,?_⟩)) (by (repeat first | exact trivial | refine ⟨rfl,?_⟩)) rfl (by (repeat' (first | exact trivial | constructor))) (by (repeat' exact trivial)) fun s ⟨k,oo,oc⟩ ⟨hle,hk,hoc,hr⟩=>?_
  dsimp only at hk hoc hr ⊢
  have H:=H.mono hle
  (repeat (first | refine cj_seq ?_ | refine cjr TT rfl ?_ | refine oj_then ?_))
  refine cj_if rfl (fun h=>?_) (fun h=>?_)
  rotate_left
  · have hk0:k=l.length:=by have:=of_decide_eq_false h;omega
    rw [hk0,List.take_length] at hr
    have e:encG l=(enK l k,0):=by
      unfold encG enK
      rw [if_neg (by omega),if_pos (all_rt.2 hr),hk0,List.take_length]
    rw [e]
    (repeat (first | refine cj_seq ?_ | refine cjr TT rfl ?_ | refine oj_then ?_ | refine cj_exit ?_ | refine cj_ret ?_ | refine nj_then ?_ | refine nj_then_exit ?_ | refine nj_block_out ?_))
    refine nj_seal 0 rfl rfl fun s1 hle1 hS=>?_
    refine nj_ret TT rfl fun β w' _ _=>?_
    exact ⟨oo,oc,rfl,u8_sealed hS hoc⟩
  have hkl:k<l.length:=by have:=of_decide_eq_true h;omega
  have hx:=List.getElem?_eq_getElem hkl
  have hmem:=List.getElem_mem hkl
  have hrow:=paRows_get hx
  have hs1:=enK_succ hx
  have htk:l.take (k+1)=l.take k++[l[k]]:=List.take_succ_eq_append_getElem hkl
  have hbk:(enK l k).length<=16*2000060:=by
    have h1:=putF_len (l:=l.take k) fun p hp=>⟨hr p hp,(hb p (List.mem_of_mem_take hp)).2⟩
    have h2:(l.take k).length<=16:=by rw [List.length_take];omega
    exact Nat.le_trans h1 (Nat.mul_le_mul_right _ h2)
  obtain ⟨hb1,hb2⟩:=hb l[k] hmem
  generalize l[k]=p at *
  (repeat (first | refine cj_seq ?_ | refine cjr TT rfl ?_ | refine cj_skip ?_ | refine cj_block ?_ | refine nj_then ?_))
  refine oj_idx TT rfl rfl rfl rfl rfl rfl rfl rfl rfl H (by omega) hrow (oj_run TT rfl ?_)
  skip
  refine oj_callP rfl rfl rfl rfl rfl Tryd.call28 (by (repeat' (first | exact trivial | refine AllLt.of ?_ | constructor))) (rright_c s p hb1) fun v hv=>⟨.a (.b (rightG p)),trivial,hv.symm,?_⟩
  refine oj_run TT rfl ?_
  (repeat refine oj_then ?_)
  refine cj_if rfl (fun hq=>?_) (fun hq=>?_)
  · have hq:rightG p=false:=by simpa using hq
    have e:encG l=([],1):=by
      unfold encG
      rw [if_neg (by omega),if_neg]
      intro ha
      have:=List.all_eq_true.1 ha p hmem
      rw [hq] at this
      cases this
    rw [e]
    (repeat (first | refine cj_seq ?_ | refine cjr TT rfl ?_ | refine oj_then ?_ | refine cj_ret ?_ | refine nj_then_ret ?_ | refine nj_block_ret ?_))
    refine nj_ret TT rfl fun β w' _ _=>?_
    exact ⟨none,0,rfl,SlAt.nil _ none 0 1⟩
  have hq:rightG p=true:=by simpa using hq
  have hrt:=(right_iff p).1 hq
  have hpl:=put_len hrt
  (repeat (first | refine cjr TT rfl ?_ | refine cj_skip ?_ | refine nj_then ?_))
  refine oj_idx TT rfl rfl rfl rfl rfl rfl rfl rfl rfl H (by omega) hrow (oj_run TT rfl ?_)
  skip
  refine oj_callS rfl rfl rfl rfl rfl Tryd.call29 ⟨paCells_lt 0 p,trivial⟩ (one_c s p hrt hb2) fun v s1 hle1 ⟨ao,cap,hv,HP⟩=>⟨.a (.v (.slice ao (putG p).length cap)),trivial,hv.symm,?_⟩
  refine oj_run TT rfl ?_
  refine oj_append_sl TT 0 rfl rfl rfl rfl rfl rfl rfl HP rfl rfl rfl rfl rfl rfl rfl rfl rfl (fun r hr=>(u8Rows_all _ r hr).2.2) (by omega) (by show ((enK l k).length+(putG p).length)*1<=_;omega) fun oo' oc' hoc'=>oj_run TT rfl ?_
  (repeat (first | refine cjr TT rfl ?_ | refine oj_nil ?_ | refine nj_then ?_ | refine nj_block ?_ | (refine oj_add rfl rfl rfl rfl rfl rfl (by omega) ?_;refine oj_run TT rfl ?_)))
  have hl1:(enK l (k+1)).length=(enK l k).length+(putG p).length:=by rw [hs1,List.length_append]
  refine nj_again (s1,(⟨k+1,oo',oc'⟩:ReS)) ⟨Snap.le_trans hle hle1,hkl,by dsimp only;rw [hl1];exact hoc',fun q hq'=>?_⟩ (by dsimp only;omega) rfl ?_ (by (repeat first | exact trivial | refine ⟨rfl,?_⟩)) ?_ (by (repeat' (first | exact trivial | constructor))) (by (repeat' exact trivial))
  · dsimp only at hq'
    rw [htk] at hq'
    rcases List.mem_append.1 hq' with hq' | hq'
    · exact hr q hq'
    · rw [List.mem_singleton] at hq'
      subst hq'
      exact hrt
  · dsimp only
    rw [hl1]
    (repeat first | exact trivial | refine ⟨rfl,?_⟩)
  · show [_]=[_]
    dsimp only
    unfold u8E
    rw [hl1,hs1,u8Xs_append,u8Xs_rows (putG p)]
end Go.Sy
namespace Go.Sy
open Go.Proofs
def RFirst (b:List UInt8):Option (GPart×List UInt8)->Value
  | none=>.tuple #[.agg (paVals part0),.int .i64 0]
  | some (p,r)=>.tuple #[.agg (paVals p),.int .i64 ((b.length - r.length:Nat):Int)]
theorem num_pos {b r:List UInt8} {neg:Bool} {d:GDec} (h:numberG b neg=some (d,r)):r.length+3<=b.length:=by
  obtain ⟨-,-,-,e⟩:=number_size h
  have hs:=size_len d
  have hl:(if neg then turnG (sizeG d) else sizeG d).length=3+d.dg.size:=by
    split
    · rw [turnG_len,hs]
    · exact hs
  rw [e,List.length_append,hl]
  omega
theorem text_pos {b s r:List UInt8} (h:textG b=some (s,r)):r.length+2<=b.length:=by
  rw [text_esc b h,List.length_append,List.length_cons,List.length_cons]
  omega
section
variable {cf:Cf} {Q:Exit->Act->World->Prop} {σ:Snap} {env:Env} {hp:HP} {A:List AE} {nh:Nat}
theorem gj_from {ops:Array Oper} {U bef:List Nat} {n:Nat} {listed:Array Bool} {fst:Bool} {i d:Nat} {o:Oper} {x lo:Operand} {t e:TypeId} {T:List (Nat×TI)} (hT:TTok cf.P T) {ti te:TI} {ad:Addr} {m cap:Nat} {kk:IntKind} {z:Int} (l:Nat) (hop:o.op=.slice t x (some lo) none none) (hi:ops[i]?=some o) (hr:(Region.ready .any ops listed).contains i=true) (hf:Region.free .any ops listed i=true) (hk:(U.contains i||fst)=true)
    (hd:o.dst=some d) (hg:guardVal (slotOf ops o) env=some true) (hN:Nat.blt d cf.N=true) (hx:evalO env x=some (.a (.v (.slice (some ad) m cap)))) (hlo:evalO env lo=some (.a (.v (.int kk z))))
    (ht:tget T t=some ti) (hkd:ti.kind=.slice e) (hte:tget T e=some te) (hs1:te.size=1) (hm:z=(l:Int)) (hl:l<=m) (hnc:m<=cap)
    (k:GJ cf ops U (bef++[i]) n (listed.setIfInBounds i true) fst Q σ ((d,.a (.v (.slice (some (dropA ad cap l)) (m - l) (cap - l))))::env) hp A nh):GJ cf ops U bef (n+1) listed fst Q σ env hp A nh:=by
  refine gj_slice (vl:=some (.int kk z)) (vh:=none) hT l m hop hi hr hf hk hd hg hN hx (by simp [optV,hlo]) rfl ht hkd hte (.inr ⟨kk,z,rfl,hm⟩) (.inl ⟨rfl,rfl⟩) hl hnc hnc ?_
  have e1:(if cap=l then some ad else (some ad).map (·.add (l*te.size)))=some (dropA ad cap l):=by unfold dropA;rw [hs1];split<;>rfl
  rw [e1]
  exact k
end
structure RnS where
  d:GDec
  n:Int
def RnOk (r:List UInt8) (res:Option (GDec×List UInt8)) (t:RnS):Prop :=
  match res with
  | none=>t.n=0
  | some (d,r')=>t.d=d/\t.n=((r.length - r'.length:Nat):Int)
set_option maxRecDepth 100000 in
set_option maxHeartbeats 8000000 in
theorem rfirst_c (σ:Snap) (t:UInt8) (r:List UInt8) (hb:r.length<=999999) (ao:Option Addr) (cap:Nat) (H:SlAt σ ao (r.length+1) cap 1 (u8Rows (t::r))) :
    PlainS Tryd.prog 30 [.a (.v (.slice ao (r.length+1) cap))] σ (fun v=>v=RFirst (t::r) (firstG (t::r))):=by
  obtain ⟨ad,rfl⟩:=H.at0 (by omega)
  have HR:=u8_drop H (k:=1) (by omega)
  rw [show (t::r).drop 1=r from rfl,show r.length+1 - 1=r.length by omega] at HR
  have hrow:(u8Rows (t::r))[(0:Int).toNat]?=some [.v (.int .u8 t.toNat)]:=rfl
  have hu:∀ (k:UInt8) (b:Bool),decide ((t.toNat:Int)=k.toNat)=b->decide (t=k)=b:=fun k b h=>by
    rw [<-h,Bool.eq_iff_iff,decide_eq_true_eq,decide_eq_true_eq]
    exact ⟨fun e=>by rw [e],fun e=>UInt8.toNat_inj.1 (by omega)⟩
  have hone:((t::r).length - r.length:Nat)=1:=by rw [List.length_cons];omega
  refine enter_p Tryd.func30 rfl rfl (by (repeat' (first | exact trivial | constructor))) fun w=>?_
  (repeat (first | refine cj_seq ?_ | refine cjr TT rfl ?_ | refine oj_then ?_))
  refine oj_idx TT rfl rfl rfl rfl rfl rfl rfl rfl rfl H (by omega) (r:=[.v (.int .u8 t.toNat)]) hrow (oj_run TT rfl ?_)
  (repeat (first | refine cj_seq ?_ | refine cjr TT rfl ?_ | refine oj_then ?_ | refine cj_block ?_))
  refine cj_if rfl (fun h=>?_) (fun h=>?_)
  · have h:=of_decide_eq_true (hu 16 true h)
    have e:firstG (t::r)=some (part0,r):=by unfold firstG;dsimp only;rw [if_pos h]
    rw [e]
    (repeat (first | refine cj_seq ?_ | refine cjr TT rfl ?_ | refine oj_then ?_ | refine cj_ret ?_ | refine nj_then_ret ?_ | refine nj_block_ret ?_))
    refine nj_ret TT rfl fun β w' _ _=>?_
    unfold RFirst
    dsimp only
    rw [hone]
    rfl
  have h16:=of_decide_eq_false (hu 16 false h)
  (repeat (first | refine cj_seq ?_ | refine cjr TT rfl ?_ | refine oj_then ?_))
  refine cj_cutN (fun (_:Unit)=>σ) (fun _=>[(0,.a (.v (.slice (some ad) (r.length+1) cap))),(2,.a (.p 0 0)),(10,.a (.v (.int .u8 t.toNat))),(14,.a (.b (decide (t=32\/t=33))))]) (fun _=>[(0,.loc 52,zeroP)]) (fun _=>[]) 1 (fun _=>True) ?_ (fun _ _=>?_)
  · refine cj_if rfl (fun h=>?_) (fun h=>?_)
    · have h:=of_decide_eq_true (hu 32 true h)
      (repeat refine cj_skip ?_)
      refine nj_set 14 (.a (.b (decide (t=32\/t=33)))) rfl trivial (fun _=>by subst h;rfl) ?_
      refine nj_again () trivial Nat.zero_lt_one rfl (by (repeat first | exact trivial | refine ⟨rfl,?_⟩)) (by (repeat first | exact trivial | refine ⟨rfl,?_⟩)) rfl (by (repeat' (first | exact trivial | exact Nat.le_of_ble_eq_true rfl | constructor))) (by (repeat' (first | exact trivial | exact Nat.le_of_ble_eq_true rfl | refine AllLt.of ?_ | constructor)))
    · have h:=of_decide_eq_false (hu 32 false h)
      (repeat (first | refine cjr TT rfl ?_ | refine oj_nil ?_))
      refine nj_set 14 (.a (.b (decide (t=32\/t=33)))) rfl trivial (fun _=>by
        show Value.bool (decide ((t.toNat:Int)=33))=.bool _
        congr 1
        have e33:decide (t=33)=decide ((t.toNat:Int)=33):=hu 33 _ rfl
        rw [<-e33,Bool.eq_iff_iff,decide_eq_true_eq,decide_eq_true_eq]
        exact ⟨.inr,fun q=>q.resolve_left h⟩) ?_
      refine nj_again () trivial Nat.zero_lt_one rfl (by (repeat first | exact trivial | refine ⟨rfl,?_⟩)) (by (repeat first | exact trivial | refine ⟨rfl,?_⟩)) rfl (by (repeat' (first | exact trivial | exact Nat.le_of_ble_eq_true rfl | constructor))) (by (repeat' (first | exact trivial | exact Nat.le_of_ble_eq_true rfl | refine AllLt.of ?_ | constructor)))
  refine cj_if rfl (fun h=>?_) (fun h=>?_)
  · have h:=of_decide_eq_true (show decide (t=32\/t=33)=true from h)
    have e:firstG (t::r)=some (⟨1,decide (t=33),dec0,emptyB,0⟩,r):=by unfold firstG;dsimp only;rw [if_neg h16,if_pos h]
    rw [e,hu 33 _ rfl]
    (repeat (first | refine cj_seq ?_ | refine cjr TT rfl ?_))
    refine oj_idx TT rfl rfl rfl rfl rfl rfl rfl rfl rfl H (by omega) (r:=[.v (.int .u8 t.toNat)]) hrow (oj_run TT rfl ?_)
    (repeat (first | refine oj_then ?_ | refine cj_ret ?_ | refine nj_then_ret ?_ | refine nj_block_ret ?_))
    refine nj_ret TT rfl fun β w' _ _=>?_
    unfold RFirst
    dsimp only
    rw [hone]
    rfl
  have h32:=of_decide_eq_false (show decide (t=32\/t=33)=false from h)
  (repeat (first | refine cj_seq ?_ | refine cjr TT rfl ?_ | refine oj_then ?_))
  refine cj_if rfl (fun h=>?_) (fun h=>?_)
  · have h:=of_decide_eq_true (hu 49 true h)
    have e:firstG (t::r)=some (⟨2,false,dec0,emptyB,0⟩,r):=by unfold firstG;dsimp only;rw [if_neg h16,if_neg h32,if_pos h]
    rw [e]
    (repeat (first | refine cj_seq ?_ | refine cjr TT rfl ?_ | refine oj_then ?_ | refine cj_ret ?_ | refine nj_then_ret ?_ | refine nj_block_ret ?_))
    refine nj_ret TT rfl fun β w' _ _=>?_
    unfold RFirst
    dsimp only
    rw [hone]
    rfl
  have h49:=of_decide_eq_false (hu 49 false h)
  (repeat (first | refine cj_seq ?_ | refine cjr TT rfl ?_ | refine oj_then ?_))
  refine cj_cutN (fun (_:Unit)=>σ) (fun _=>[(0,.a (.v (.slice (some ad) (r.length+1) cap))),(2,.a (.p 0 0)),(10,.a (.v (.int .u8 t.toNat))),(25,.a (.b (decide (t=48\/t=50))))]) (fun _=>[(0,.loc 52,zeroP)]) (fun _=>[]) 1 (fun _=>True) ?_ (fun _ _=>?_)
  · refine cj_if rfl (fun h=>?_) (fun h=>?_)
    · have h:=of_decide_eq_true (hu 48 true h)
      (repeat refine cj_skip ?_)
      refine nj_set 25 (.a (.b (decide (t=48\/t=50)))) rfl trivial (fun _=>by subst h;rfl) ?_
      refine nj_again () trivial Nat.zero_lt_one rfl (by (repeat first | exact trivial | refine ⟨rfl,?_⟩)) (by (repeat first | exact trivial | refine ⟨rfl,?_⟩)) rfl (by (repeat' (first | exact trivial | exact Nat.le_of_ble_eq_true rfl | constructor))) (by (repeat' (first | exact trivial | exact Nat.le_of_ble_eq_true rfl | refine AllLt.of ?_ | constructor)))
    · have h:=of_decide_eq_false (hu 48 false h)
      (repeat (first | refine cjr TT rfl ?_ | refine oj_nil ?_))
      refine nj_set 25 (.a (.b (decide (t=48\/t=50)))) rfl trivial (fun _=>by
        show Value.bool (decide ((t.toNat:Int)=50))=.bool _
        congr 1
        have e50:decide (t=50)=decide ((t.toNat:Int)=50):=hu 50 _ rfl
        rw [<-e50,Bool.eq_iff_iff,decide_eq_true_eq,decide_eq_true_eq]
        exact ⟨.inr,fun q=>q.resolve_left h⟩) ?_
      refine nj_again () trivial Nat.zero_lt_one rfl (by (repeat first | exact trivial | refine ⟨rfl,?_⟩)) (by (repeat first | exact trivial | refine ⟨rfl,?_⟩)) rfl (by (repeat' (first | exact trivial | exact Nat.le_of_ble_eq_true rfl | constructor))) (by (repeat' (first | exact trivial | exact Nat.le_of_ble_eq_true rfl | refine AllLt.of ?_ | constructor)))
  refine cj_if rfl (fun h=>?_) (fun h=>?_)
  · have h:=of_decide_eq_true (show decide (t=48\/t=50)=true from h)
    have e:firstG (t::r)=(numberG r (decide (t=48))).map numP:=by unfold firstG;dsimp only;rw [if_neg h16,if_neg h32,if_neg h49,if_pos h];rfl
    have e48:decide (t=48)=decide ((t.toNat:Int)=48):=hu 48 _ rfl
    rw [e,e48]
    have hnum:=rnumber_c σ r (by omega) _ _ HR (decide ((t.toNat:Int)=48))
    have hpos:=fun d r'=>num_pos (b:=r) (r:=r') (neg:=decide ((t.toNat:Int)=48)) (d:=d)
    generalize numberG r (decide ((t.toNat:Int)=48))=res at *
    (repeat refine cj_seq ?_)
    refine cj_cutN (fun (_:RnS)=>σ) (fun s=>[(0,.a (.v (.slice (some ad) (r.length+1) cap))),(2,.a (.p 0 0)),(4,.a (.p 2 0)),(5,.a (.v (.int .i64 s.n)))]) (fun s=>[(0,.loc 52,zeroP),(2,.loc 40,[.b s.d.neg,.v (.string s.d.dg),.v (.int .i64 s.d.ex)])]) (fun _=>[]) 3 (RnOk r res) ?_ (fun ⟨d,n⟩ hs=>?_)
    · have hN:∃ s:RnS,RnOk r res s/\RNum r res=.tuple #[.agg #[.bool s.d.neg,.string s.d.dg,.int .i64 s.d.ex],.int .i64 s.n]:=by
        cases res with
        | none=>exact ⟨⟨dec0,0⟩,rfl,rfl⟩
        | some p=>exact ⟨⟨p.1,_⟩,⟨rfl,rfl⟩,rfl⟩
      obtain ⟨s,hs,hRN⟩:=hN
      refine cj_drawG 13 [0,1,2,3,5,7,8,9,12] mixed (by kernel_rfl) rfl ?_
      refine gj_val (i:=0) TT rfl (by kernel_rfl) (by kernel_rfl) rfl rfl rfl rfl rfl ?_
      refine gj_from (i:=1) TT 1 rfl rfl (by kernel_rfl) (by kernel_rfl) rfl rfl rfl rfl rfl rfl rfl rfl rfl rfl rfl (by omega) H.ncap ?_
      rw [show r.length+1 - 1=r.length by omega]
      refine gj_val (i:=2) TT rfl (by kernel_rfl) (by kernel_rfl) rfl rfl rfl rfl rfl ?_
      refine gj_idx (i:=3) TT rfl rfl (by kernel_rfl) (by kernel_rfl) rfl rfl rfl rfl rfl rfl rfl rfl rfl H (by omega) (r:=[.v (.int .u8 t.toNat)]) hrow ?_
      refine gj_val (i:=4) TT rfl (by kernel_rfl) (by kernel_rfl) rfl rfl rfl rfl rfl ?_
      refine gj_val (i:=5) TT rfl (by kernel_rfl) (by kernel_rfl) rfl rfl rfl rfl rfl ?_
      refine gj_two (i:=6) (j:=10) (by kernel_rfl) ?_ ?_
      · refine gk_callP rfl rfl rfl rfl rfl Tryd.call42 ⟨trivial,trivial,trivial⟩ hnum fun v hv=>⟨.tup [.agg [.b s.d.neg,.v (.string s.d.dg),.v (.int .i64 s.d.ex)],.a (.v (.int .i64 s.n))],(by (repeat' (first | exact trivial | exact decCells_lt _ _ | refine SV.lt_tup ?_ | constructor))),(hv.trans hRN).symm,?_⟩
        refine gj_order [(7,.pure),(8,.pure),(9,.pure),(10,.keep),(11,.sink),(12,.pure)] rfl rfl (by kernel_rfl) ?_
        refine oj_run TT rfl ?_
        (repeat refine oj_nil ?_)
        refine nj_again s hs Nat.zero_lt_one rfl (by (repeat first | exact trivial | refine ⟨rfl,?_⟩)) (by (repeat first | exact trivial | refine ⟨rfl,?_⟩)) rfl (by (repeat' (first | exact trivial | exact Nat.le_of_ble_eq_true rfl | constructor))) (by (repeat' (first | exact trivial | exact Nat.le_of_ble_eq_true rfl | exact decCells_lt _ _ | refine AllLt.of ?_ | constructor)))
      · refine gk_new TT rfl rfl rfl rfl rfl ?_
        refine gj_order [(6,.keep),(7,.pure),(8,.pure),(9,.pure),(11,.sink),(12,.pure)] rfl rfl (by kernel_rfl) ?_
        refine oj_callP rfl rfl rfl rfl rfl Tryd.call42 ⟨trivial,trivial,trivial⟩ hnum fun v hv=>⟨.tup [.agg [.b s.d.neg,.v (.string s.d.dg),.v (.int .i64 s.d.ex)],.a (.v (.int .i64 s.n))],(by (repeat' (first | exact trivial | exact decCells_lt _ _ | refine SV.lt_tup ?_ | constructor))),(hv.trans hRN).symm,?_⟩
        refine oj_run TT rfl ?_
        (repeat refine oj_nil ?_)
        refine nj_again s hs Nat.zero_lt_one rfl (by (repeat first | exact trivial | refine ⟨rfl,?_⟩)) (by (repeat first | exact trivial | refine ⟨rfl,?_⟩)) rfl (by (repeat' (first | exact trivial | exact Nat.le_of_ble_eq_true rfl | constructor))) (by (repeat' (first | exact trivial | exact Nat.le_of_ble_eq_true rfl | exact decCells_lt _ _ | refine AllLt.of ?_ | constructor)))
    dsimp only
    cases res with
    | none =>
      have hs:n=0:=hs
      subst hs
      (repeat (first | refine cj_seq ?_ | refine cjr TT rfl ?_ | refine oj_then ?_))
      refine cj_if rfl (fun _=>?_) (fun h=>absurd h (by decide))
      (repeat (first | refine cj_seq ?_ | refine cjr TT rfl ?_ | refine oj_then ?_ | refine cj_ret ?_ | refine nj_then_ret ?_ | refine nj_block_ret ?_))
      refine nj_ret TT rfl fun β w' _ _=>?_
      rfl
    | some p =>
      obtain ⟨d',r'⟩:=p
      obtain ⟨hs1,hs2⟩:=hs
      dsimp only at hs1 hs2
      subst hs1
      have hp:=hpos d r' rfl
      (repeat (first | refine cj_seq ?_ | refine cjr TT rfl ?_ | refine oj_then ?_))
      refine cj_if rfl (fun h=>?_) (fun _=>?_)
      · have h:n=0:=of_decide_eq_true h
        omega
      (repeat (first | refine cj_seq ?_ | refine cjr TT rfl ?_ | refine oj_then ?_ | refine cj_skip ?_ | refine cj_ret ?_ | refine nj_then ?_ | refine nj_then_ret ?_ | refine nj_block_ret ?_ | (refine oj_add rfl rfl rfl rfl rfl rfl (by omega) ?_;refine oj_run TT rfl ?_)))
      refine nj_ret TT rfl fun β w' _ _=>?_
      show Value.tuple #[.agg _,.int .i64 (n+1)]=.tuple #[.agg _,.int .i64 (((t::r).length - r'.length:Nat):Int)]
      rw [hs2,show (((r.length - r'.length:Nat):Int)+1)=(((t::r).length - r'.length:Nat):Int) by rw [List.length_cons];omega]
      rfl
  have h48:=of_decide_eq_false (show decide (t=48\/t=50)=false from h)
  (repeat (first | refine cj_seq ?_ | refine cjr TT rfl ?_ | refine oj_then ?_))
  refine cj_if rfl (fun h=>?_) (fun h=>?_)
  · have h:=of_decide_eq_true (hu 64 true h)
    have e:firstG (t::r)=(textG r).map fun p=>(⟨3,false,dec0,mkB p.1,0⟩,p.2):=by unfold firstG;dsimp only;rw [if_neg h16,if_neg h32,if_neg h49,if_neg h48,if_pos h]
    rw [e]
    have htx:=rtext_c σ r (by omega) _ _ HR
    have hpos:=fun s r'=>text_pos (b:=r) (s:=s) (r:=r')
    generalize textG r=res at *
    (repeat (first | refine cj_seq ?_ | refine cjr TT rfl ?_))
    refine oj_from TT 1 rfl rfl rfl rfl rfl rfl rfl rfl rfl rfl rfl (by omega) H.ncap ?_
    rw [show r.length+1 - 1=r.length by omega]
    refine oj_run TT rfl ?_
    cases res with
    | none =>
      refine oj_callP rfl rfl rfl rfl rfl Tryd.call43 (by (repeat' (first | exact trivial | constructor))) htx fun v hv=>⟨.tup [.a (.v (.string emptyB)),.a (.v (.int .i64 0))],(by (repeat' (first | exact trivial | refine SV.lt_tup ?_ | constructor))),hv.symm,?_⟩
      refine oj_run TT rfl ?_
      (repeat (first | refine cj_seq ?_ | refine cjr TT rfl ?_ | refine oj_then ?_))
      refine cj_if rfl (fun _=>?_) (fun h=>absurd h (by decide))
      (repeat (first | refine cj_seq ?_ | refine cjr TT rfl ?_ | refine oj_then ?_ | refine cj_ret ?_ | refine nj_then_ret ?_ | refine nj_block_ret ?_))
      refine nj_ret TT rfl fun β w' _ _=>?_
      rfl
    | some p =>
      obtain ⟨s,r'⟩:=p
      have hp:=hpos s r' rfl
      refine oj_callP rfl rfl rfl rfl rfl Tryd.call43 (by (repeat' (first | exact trivial | constructor))) htx fun v hv=>⟨.tup [.a (.v (.string (mkB s))),.a (.v (.int .i64 ((r.length - r'.length:Nat):Int)))],(by (repeat' (first | exact trivial | refine SV.lt_tup ?_ | constructor))),hv.symm,?_⟩
      refine oj_run TT rfl ?_
      (repeat (first | refine cj_seq ?_ | refine cjr TT rfl ?_ | refine oj_then ?_))
      refine cj_if rfl (fun h=>?_) (fun _=>?_)
      · have h:((r.length - r'.length:Nat):Int)=0:=of_decide_eq_true h
        omega
      (repeat (first | refine cj_seq ?_ | refine cjr TT rfl ?_ | refine oj_then ?_ | refine cj_skip ?_ | refine cj_ret ?_ | refine nj_then ?_ | refine nj_then_ret ?_ | refine nj_block_ret ?_ | (refine oj_add rfl rfl rfl rfl rfl rfl (by omega) ?_;refine oj_run TT rfl ?_)))
      refine nj_ret TT rfl fun β w' _ _=>?_
      show Value.tuple #[.agg _,.int .i64 (((r.length - r'.length:Nat):Int)+1)]=.tuple #[.agg _,.int .i64 (((t::r).length - r'.length:Nat):Int)]
      rw [show (((r.length - r'.length:Nat):Int)+1)=(((t::r).length - r'.length:Nat):Int) by rw [List.length_cons];omega]
      rfl
  have h64:=of_decide_eq_false (hu 64 false h)
  (repeat (first | refine cj_seq ?_ | refine cjr TT rfl ?_ | refine oj_then ?_))
  refine cj_if rfl (fun h=>?_) (fun h=>?_)
  · have h:=of_decide_eq_true (hu 80 true h)
    subst h
    (repeat (first | refine cj_seq ?_ | refine cjr TT rfl ?_ | refine oj_then ?_))
    refine cj_if rfl (fun h4=>?_) (fun h4=>?_)
    · have h4:((r.length+1:Nat):Int)<5:=of_decide_eq_true h4
      rw [first80_short (by omega)]
      (repeat (first | refine cj_seq ?_ | refine cjr TT rfl ?_ | refine oj_then ?_ | refine cj_ret ?_ | refine nj_then_ret ?_ | refine nj_block_ret ?_))
      refine nj_ret TT rfl fun β w' _ _=>?_
      rfl
    have h4:¬ ((r.length+1:Nat):Int)<5:=of_decide_eq_false h4
    match r,hb,H,h4 with
    | a::b::c::d::r,hb,H,h4 =>
      have e:firstG (80::a::b::c::d::r)=some (⟨9,false,dec0,emptyB,(a.toNat:Int)*16777216+b.toNat*65536+c.toNat*256+d.toNat⟩,r):=rfl
      rw [e]
      have ha:=a.toNat_lt
      have hb':=b.toNat_lt
      have hc:=c.toNat_lt
      have hd:=d.toNat_lt
      simp only [List.length_cons] at hb h4 H ⊢
      (repeat (first | refine cj_seq ?_ | refine cj_skip ?_ | refine nj_then ?_))
      refine cj_draw [(0,.pure),(1,.pure),(2,.quiet),(3,.pure),(4,.pure),(5,.pure),(6,.pure),(7,.quiet),(8,.pure),(9,.pure),(10,.pure),(11,.pure),(12,.pure),(13,.quiet),(14,.pure),(15,.pure),(16,.pure),(17,.pure),(18,.pure),(19,.quiet),(20,.pure),(21,.pure),(22,.pure),(23,.sink),(24,.pure)] mixed (by kernel_rfl) (oj_run TT rfl ?_)
      refine oj_idx TT rfl rfl rfl rfl rfl rfl rfl rfl rfl H (by omega) (r:=[.v (.int .u8 a.toNat)]) rfl (oj_run TT rfl ?_)
      refine oj_conv TT (a.toNat:Int) rfl rfl rfl rfl rfl rfl rfl rfl (wrap64 a) (oj_run TT rfl ?_)
      refine oj_bshl rfl rfl rfl rfl rfl rfl (by decide) ?_
      rw [shl64_24 a]
      refine oj_run TT rfl ?_
      refine oj_idx TT rfl rfl rfl rfl rfl rfl rfl rfl rfl H (by omega) (r:=[.v (.int .u8 b.toNat)]) rfl (oj_run TT rfl ?_)
      refine oj_conv TT (b.toNat:Int) rfl rfl rfl rfl rfl rfl rfl rfl (wrap64 b) (oj_run TT rfl ?_)
      refine oj_bshl rfl rfl rfl rfl rfl rfl (by decide) ?_
      rw [shl64_16 b]
      refine oj_run TT rfl ?_
      refine oj_add rfl rfl rfl rfl rfl rfl (by omega) (oj_run TT rfl ?_)
      refine oj_idx TT rfl rfl rfl rfl rfl rfl rfl rfl rfl H (by omega) (r:=[.v (.int .u8 c.toNat)]) rfl (oj_run TT rfl ?_)
      refine oj_conv TT (c.toNat:Int) rfl rfl rfl rfl rfl rfl rfl rfl (wrap64 c) (oj_run TT rfl ?_)
      refine oj_bshl rfl rfl rfl rfl rfl rfl (by decide) ?_
      rw [shl64 c]
      refine oj_run TT rfl ?_
      refine oj_add rfl rfl rfl rfl rfl rfl (by omega) (oj_run TT rfl ?_)
      refine oj_idx TT rfl rfl rfl rfl rfl rfl rfl rfl rfl H (by omega) (r:=[.v (.int .u8 d.toNat)]) rfl (oj_run TT rfl ?_)
      refine oj_conv TT (d.toNat:Int) rfl rfl rfl rfl rfl rfl rfl rfl (wrap64 d) (oj_run TT rfl ?_)
      refine oj_add rfl rfl rfl rfl rfl rfl (by omega) (oj_run TT rfl ?_)
      (repeat (first | refine oj_then ?_ | refine cj_ret ?_ | refine nj_then_ret ?_ | refine nj_block_ret ?_))
      refine nj_ret TT rfl fun β w' _ _=>?_
      unfold RFirst
      dsimp only
      rw [show (80::a::b::c::d::r:List UInt8).length - r.length=5 by simp only [List.length_cons];omega]
      rfl
    | [],_,_,h4=>exact absurd h4 (by simp)
    | [_],_,_,h4=>exact absurd h4 (by simp)
    | [_,_],_,_,h4=>exact absurd h4 (by simp)
    | [_,_,_],_,_,h4=>exact absurd h4 (by simp)
  have h80:=of_decide_eq_false (hu 80 false h)
  have e:firstG (t::r)=none:=by unfold firstG;dsimp only;rw [if_neg h16,if_neg h32,if_neg h49,if_neg h48,if_neg h64,if_neg h80]
  rw [e]
  (repeat (first | refine cj_seq ?_ | refine cjr TT rfl ?_ | refine oj_then ?_ | refine cj_skip ?_ | refine cj_ret ?_ | refine nj_then ?_ | refine nj_block ?_))
  refine nj_ret TT rfl fun β w' _ _=>?_
  rfl
end Go.Sy
namespace Go.Sy
open Go.Proofs
theorem first_drop {c:UInt8} {q r:List UInt8} {p:GPart} (h:firstG (c::q)=some (p,r)):r.length<=q.length/\(c::q).drop ((c::q).length - r.length)=r:=by
  obtain ⟨hp,e⟩:=put_first h
  have hne:=put_ne hp
  have hl:0<(putG p).length:=List.length_pos_iff.2 hne
  have hlen:(c::q).length=(putG p).length+r.length:=by rw [e,List.length_append]
  refine ⟨by rw [List.length_cons] at hlen;omega,?_⟩
  rw [hlen,Nat.add_sub_cancel,e]
  exact List.drop_left
structure RdS where
  q:List UInt8
  ao:Option Addr
  cap:Nat
  ps:List GPart
  oo:Option Addr
  oc:Nat
set_option maxRecDepth 100000 in
set_option maxHeartbeats 4000000 in
theorem RDecode_c (σ:Snap) (b:List UInt8) (hb:b.length<=1000000) (ao:Option Addr) (cap:Nat) (H:SlAt σ ao b.length cap 1 (u8Rows b)) :
    PureS Tryd.prog 18 [.a (.v (.slice ao b.length cap))] σ (fun v σ'=>∃ bo bc,v=.tuple #[.slice bo (decG b).1.length bc,.int .i64 (decG b).2]/\SlAt σ' bo (decG b).1.length bc 7 (paRows (decG b).1)):=by
  refine enter_s Tryd.func18 rfl rfl (by (repeat' (first | exact trivial | constructor))) fun w=>?_
  (repeat (first | refine cj_seq ?_ | refine cjr TT rfl ?_ | refine oj_then ?_ | refine cj_block ?_))
  refine cj_nilarr 52 7 ?_
  skip
  refine cj_loop (fun (_:RdS)=>σ) (fun t=>[(0,.a (.v (.slice t.ao t.q.length t.cap))),(4,.a (.v (.slice t.oo t.ps.length t.oc)))]) (fun _=>[]) (fun t=>[paE 52 t.oo t.oc t.ps]) 0
    (fun t=>t.q.length<=1000000/\SlAt σ t.ao t.q.length t.cap 1 (u8Rows t.q)/\t.ps.length<=t.oc/\t.ps.length<=16/\decR t.ps t.q=decG b) (fun t=>t.q.length) ⟨b,ao,cap,[],none,0⟩ ⟨hb,H,Nat.le_refl _,Nat.zero_le _,(decG_R b).symm⟩ rfl (by (repeat first | exact trivial | refine ⟨rfl,?_⟩)) (by (repeat first | exact trivial | refine ⟨rfl,?_⟩)) rfl (by (repeat' (first | exact trivial | constructor))) (by (repeat' exact trivial)) fun ⟨q,qo,qc,ps,oo,oc⟩ ⟨hq,HQ,hoc,h16,hR⟩=>?_
  dsimp only at hq HQ hoc h16 hR ⊢
  (repeat (first | refine cj_seq ?_ | refine cjr TT rfl ?_ | refine oj_then ?_))
  refine cj_if rfl (fun h=>?_) (fun h=>?_)
  rotate_left
  · have h:¬ ((0:Int)<q.length):=of_decide_eq_false h
    have hq0:q=[]:=List.eq_nil_of_length_eq_zero (by omega)
    rw [hq0,decR_nil] at hR
    (repeat (first | refine cj_seq ?_ | refine cjr TT rfl ?_ | refine oj_then ?_ | refine cj_exit ?_ | refine cj_ret ?_ | refine nj_then ?_ | refine nj_then_exit ?_ | refine nj_block_out ?_))
    refine nj_seal 0 rfl rfl fun s2 hle2 hS=>?_
    refine nj_ret TT rfl fun β w' _ _=>?_
    rw [<-hR]
    exact ⟨oo,oc,rfl,pa_sealed hS hoc⟩
  have h:(0:Int)<q.length:=of_decide_eq_true h
  match q,hq,HQ,hR,h with
  | [],_,_,_,h=>exact absurd h (by decide)
  | c::q,hq,HQ,hR,_ =>
  rw [List.length_cons] at hq HQ ⊢
  obtain ⟨ad,rfl⟩:=HQ.at0 (by omega)
  have hfi:=rfirst_c σ c q (by omega) _ _ HQ
  cases hf:firstG (c::q) with
  | none =>
    rw [decR_none hf] at hR
    rw [hf] at hfi
    (repeat (first | refine cj_seq ?_ | refine cjr TT rfl ?_ | refine cj_skip ?_ | refine cj_block ?_ | refine nj_then ?_))
    refine oj_callP rfl rfl rfl rfl rfl Tryd.call30 (by (repeat' (first | exact trivial | constructor))) hfi fun v hv=>⟨.tup [.agg (paCells part0),.a (.v (.int .i64 0))],(by intro x hx;simp only [List.mem_cons,List.not_mem_nil,or_false] at hx;rcases hx with rfl | rfl;exact paCells_lt 0 _;trivial),hv.symm,?_⟩
    refine oj_run TT rfl ?_
    (repeat (first | refine cj_seq ?_ | refine cjr TT rfl ?_ | refine oj_then ?_))
    refine cj_if rfl (fun _=>?_) (fun h=>absurd h (by decide))
    (repeat (first | refine cj_seq ?_ | refine cjr TT rfl ?_ | refine oj_then ?_ | refine cj_ret ?_ | refine nj_then_ret ?_ | refine nj_block_ret ?_))
    refine nj_ret TT rfl fun β w' _ _=>?_
    rw [<-hR]
    exact ⟨none,0,rfl,SlAt.nil _ none 0 7⟩
  | some z =>
    obtain ⟨p,r⟩:=z
    obtain ⟨hrl,hdr⟩:=first_drop hf
    rw [hf] at hfi
    rw [List.length_cons] at hdr
    have HR:=u8_drop HQ (k:=q.length+1 - r.length) (by omega)
    rw [hdr,show q.length+1 - (q.length+1 - r.length)=r.length by omega] at HR
    have e1:((c::q).length - r.length:Nat)=q.length+1 - r.length:=by rw [List.length_cons]
    have hnc:=HQ.ncap
    (repeat (first | refine cj_seq ?_ | refine cjr TT rfl ?_ | refine cj_skip ?_ | refine cj_block ?_ | refine nj_then ?_))
    refine oj_callP rfl rfl rfl rfl rfl Tryd.call30 (by (repeat' (first | exact trivial | constructor))) hfi fun v hv=>⟨.tup [.agg (paCells p),.a (.v (.int .i64 ((q.length+1 - r.length:Nat):Int)))],(by intro x hx;simp only [List.mem_cons,List.not_mem_nil,or_false] at hx;rcases hx with rfl | rfl;exact paCells_lt 0 _;trivial),hv.symm,?_⟩
    refine oj_run TT rfl ?_
    (repeat (first | refine cj_seq ?_ | refine cjr TT rfl ?_ | refine oj_then ?_))
    refine cj_if rfl (fun h=>?_) (fun _=>?_)
    · have h:((q.length+1 - r.length:Nat):Int)=0:=of_decide_eq_true h
      omega
    (repeat (first | refine cj_seq ?_ | refine cjr TT rfl ?_ | refine oj_then ?_ | refine cj_skip ?_ | refine nj_then ?_))
    refine cj_if rfl (fun h=>?_) (fun h=>?_)
    · have h:(ps.length:Int)=16:=of_decide_eq_true h
      rw [decR_full hf (by omega)] at hR
      (repeat (first | refine cj_seq ?_ | refine cjr TT rfl ?_ | refine oj_then ?_ | refine cj_ret ?_ | refine nj_then_ret ?_ | refine nj_block_ret ?_))
      refine nj_ret TT rfl fun β w' _ _=>?_
      rw [<-hR]
      exact ⟨none,0,rfl,SlAt.nil _ none 0 7⟩
    have h:¬ (ps.length:Int)=16:=of_decide_eq_false h
    rw [decR_some hf (by omega)] at hR
    have hl:(ps++[p]).length=ps.length+1:=by rw [List.length_append];rfl
    (repeat (first | refine cj_seq ?_ | refine cjr TT rfl ?_ | refine cj_skip ?_ | refine nj_then ?_))
    refine oj_append_lit TT 0 rfl rfl rfl rfl rfl rfl rfl rfl rfl rfl rfl rfl rfl rfl rfl rfl rfl rfl (by exact paCells_lt 0 p) rfl (by omega) (by show (ps.length+1)*72<=_;omega) fun o1 c1 hc1=>oj_run TT rfl ?_
    (repeat (first | refine cjr TT rfl ?_ | refine oj_then ?_))
    refine oj_from TT (q.length+1 - r.length) rfl rfl rfl rfl rfl rfl rfl rfl rfl rfl rfl (by omega) hnc ?_
    rw [show q.length+1 - (q.length+1 - r.length)=r.length by omega]
    refine oj_run TT rfl ?_
    (repeat (first | refine oj_nil ?_ | refine nj_block ?_))
    refine nj_again (⟨r,some (dropA ad qc (q.length+1 - r.length)),qc - (q.length+1 - r.length),ps++[p],o1,c1⟩:RdS) ⟨by dsimp only;omega,HR,by dsimp only;omega,by dsimp only;omega,hR⟩ (by dsimp only;omega) rfl ?_ (by (repeat first | exact trivial | refine ⟨rfl,?_⟩)) ?_ (by (repeat' (first | exact trivial | constructor))) (by (repeat' exact trivial))
    · dsimp only
      rw [hl]
      (repeat first | exact trivial | refine ⟨rfl,?_⟩)
    · show [_]=[_]
      dsimp only
      unfold paE
      rw [hl,paXs_append]
      rfl
def scalG (g:GVal):GPart×Bool :=
  if g.kind=0 then (part0,true)
  else if g.kind=1 then (⟨1,g.b,dec0,emptyB,0⟩,true)
  else if g.kind=2 then (⟨2,false,g.n,emptyB,0⟩,true)
  else if g.kind=3 then (⟨3,false,dec0,g.s,0⟩,true)
  else (part0,false)
set_option maxRecDepth 100000 in
set_option maxHeartbeats 1000000 in
theorem Scalar_c (σ:Snap) (g:GVal) (la:Option Addr) (lc:Nat) (ma:Option Addr) (mc:Nat):PlainS Tryd.prog 19 [.agg (vCells g la lc ma mc)] σ (fun v=>v=.tuple #[.agg (paVals (scalG g).1),.bool (scalG g).2]):=by
  refine enter_p Tryd.func19 rfl rfl ⟨vCells_lt 0 _ _ _ _ _,trivial⟩ fun w=>?_
  (repeat (first | refine cj_seq ?_ | refine cjr TT rfl ?_ | refine oj_then ?_ | refine cj_block ?_))
  refine cj_if rfl (fun h=>?_) (fun h0=>?_)
  · have h:g.kind=0:=of_decide_eq_true h
    have e:scalG g=(part0,true):=by unfold scalG;rw [if_pos h]
    rw [e]
    (repeat (first | refine cj_seq ?_ | refine cjr TT rfl ?_ | refine oj_then ?_ | refine cj_ret ?_ | refine nj_then_ret ?_ | refine nj_block_ret ?_))
    refine nj_ret TT rfl fun β w' _ _=>?_
    rfl
  have h0:¬ g.kind=0:=of_decide_eq_false h0
  (repeat (first | refine cj_seq ?_ | refine cjr TT rfl ?_ | refine oj_then ?_))
  refine cj_if rfl (fun h=>?_) (fun h1=>?_)
  · have h:g.kind=1:=of_decide_eq_true h
    have e:scalG g=(⟨1,g.b,dec0,emptyB,0⟩,true):=by unfold scalG;rw [if_neg h0,if_pos h]
    rw [e]
    (repeat (first | refine cj_seq ?_ | refine cjr TT rfl ?_ | refine oj_then ?_ | refine cj_ret ?_ | refine nj_then_ret ?_ | refine nj_block_ret ?_))
    refine nj_ret TT rfl fun β w' _ _=>?_
    rfl
  have h1:¬ g.kind=1:=of_decide_eq_false h1
  (repeat (first | refine cj_seq ?_ | refine cjr TT rfl ?_ | refine oj_then ?_))
  refine cj_if rfl (fun h=>?_) (fun h2=>?_)
  · have h:g.kind=2:=of_decide_eq_true h
    have e:scalG g=(⟨2,false,g.n,emptyB,0⟩,true):=by unfold scalG;rw [if_neg h0,if_neg h1,if_pos h]
    rw [e]
    (repeat (first | refine cj_seq ?_ | refine cjr TT rfl ?_ | refine oj_then ?_ | refine cj_ret ?_ | refine nj_then_ret ?_ | refine nj_block_ret ?_))
    refine nj_ret TT rfl fun β w' _ _=>?_
    rfl
  have h2:¬ g.kind=2:=of_decide_eq_false h2
  (repeat (first | refine cj_seq ?_ | refine cjr TT rfl ?_ | refine oj_then ?_))
  refine cj_if rfl (fun h=>?_) (fun h3=>?_)
  · have h:g.kind=3:=of_decide_eq_true h
    have e:scalG g=(⟨3,false,dec0,g.s,0⟩,true):=by unfold scalG;rw [if_neg h0,if_neg h1,if_neg h2,if_pos h]
    rw [e]
    (repeat (first | refine cj_seq ?_ | refine cjr TT rfl ?_ | refine oj_then ?_ | refine cj_ret ?_ | refine nj_then_ret ?_ | refine nj_block_ret ?_))
    refine nj_ret TT rfl fun β w' _ _=>?_
    rfl
  have h3:¬ g.kind=3:=of_decide_eq_false h3
  have e:scalG g=(part0,false):=by unfold scalG;rw [if_neg h0,if_neg h1,if_neg h2,if_neg h3]
  rw [e]
  (repeat (first | refine cj_seq ?_ | refine cjr TT rfl ?_ | refine oj_then ?_ | refine cj_skip ?_ | refine cj_ret ?_ | refine nj_then ?_ | refine nj_block ?_))
  refine nj_ret TT rfl fun β w' _ _=>?_
  rfl
set_option maxRecDepth 100000 in
set_option maxHeartbeats 1000000 in
theorem RScalar_c (σ:Snap) (g:GVal) (la:Option Addr) (lc:Nat) (ma:Option Addr) (mc:Nat):PlainS Tryd.prog 20 [.agg (vCells g la lc ma mc)] σ (fun v=>v=.tuple #[.agg (paVals (scalG g).1),.bool (scalG g).2]):=by
  refine enter_p Tryd.func20 rfl rfl ⟨vCells_lt 0 _ _ _ _ _,trivial⟩ fun w=>?_
  (repeat (first | refine cj_seq ?_ | refine cjr TT rfl ?_ | refine oj_then ?_ | refine cj_block ?_))
  refine cj_if rfl (fun h=>?_) (fun h0=>?_)
  · have h:g.kind=0:=of_decide_eq_true h
    have e:scalG g=(part0,true):=by unfold scalG;rw [if_pos h]
    rw [e]
    (repeat (first | refine cj_seq ?_ | refine cjr TT rfl ?_ | refine oj_then ?_ | refine cj_ret ?_ | refine nj_then_ret ?_ | refine nj_block_ret ?_))
    refine nj_ret TT rfl fun β w' _ _=>?_
    rfl
  have h0:¬ g.kind=0:=of_decide_eq_false h0
  (repeat (first | refine cj_seq ?_ | refine cjr TT rfl ?_ | refine oj_then ?_))
  refine cj_if rfl (fun h=>?_) (fun h1=>?_)
  · have h:g.kind=1:=of_decide_eq_true h
    have e:scalG g=(⟨1,g.b,dec0,emptyB,0⟩,true):=by unfold scalG;rw [if_neg h0,if_pos h]
    rw [e]
    (repeat (first | refine cj_seq ?_ | refine cjr TT rfl ?_ | refine oj_then ?_ | refine cj_ret ?_ | refine nj_then_ret ?_ | refine nj_block_ret ?_))
    refine nj_ret TT rfl fun β w' _ _=>?_
    rfl
  have h1:¬ g.kind=1:=of_decide_eq_false h1
  (repeat (first | refine cj_seq ?_ | refine cjr TT rfl ?_ | refine oj_then ?_))
  refine cj_if rfl (fun h=>?_) (fun h2=>?_)
  · have h:g.kind=2:=of_decide_eq_true h
    have e:scalG g=(⟨2,false,g.n,emptyB,0⟩,true):=by unfold scalG;rw [if_neg h0,if_neg h1,if_pos h]
    rw [e]
    (repeat (first | refine cj_seq ?_ | refine cjr TT rfl ?_ | refine oj_then ?_ | refine cj_ret ?_ | refine nj_then_ret ?_ | refine nj_block_ret ?_))
    refine nj_ret TT rfl fun β w' _ _=>?_
    rfl
  have h2:¬ g.kind=2:=of_decide_eq_false h2
  (repeat (first | refine cj_seq ?_ | refine cjr TT rfl ?_ | refine oj_then ?_))
  refine cj_if rfl (fun h=>?_) (fun h3=>?_)
  · have h:g.kind=3:=of_decide_eq_true h
    have e:scalG g=(⟨3,false,dec0,g.s,0⟩,true):=by unfold scalG;rw [if_neg h0,if_neg h1,if_neg h2,if_pos h]
    rw [e]
    (repeat (first | refine cj_seq ?_ | refine cjr TT rfl ?_ | refine oj_then ?_ | refine cj_ret ?_ | refine nj_then_ret ?_ | refine nj_block_ret ?_))
    refine nj_ret TT rfl fun β w' _ _=>?_
    rfl
  have h3:¬ g.kind=3:=of_decide_eq_false h3
  have e:scalG g=(part0,false):=by unfold scalG;rw [if_neg h0,if_neg h1,if_neg h2,if_neg h3]
  rw [e]
  (repeat (first | refine cj_seq ?_ | refine cjr TT rfl ?_ | refine oj_then ?_ | refine cj_skip ?_ | refine cj_ret ?_ | refine nj_then ?_ | refine nj_block ?_))
  refine nj_ret TT rfl fun β w' _ _=>?_
  rfl
set_option maxRecDepth 100000 in
set_option maxHeartbeats 2000000 in
theorem RAfter_c (σ:Snap) (b:List UInt8) (hl:b.length<=1000000) (ao:Option Addr) (cap:Nat) (H:SlAt σ ao b.length cap 1 (u8Rows b)) :
    PureS Tryd.prog 21 [.a (.v (.slice ao b.length cap))] σ (fun v σ'=>∃ bo bc,v=.slice bo (afterG b).length bc/\SlAt σ' bo (afterG b).length bc 1 (u8Rows (afterG b))):=by
  refine enter_s Tryd.func21 rfl rfl (by (repeat' (first | exact trivial | constructor))) fun w=>?_
  (repeat (first | refine cj_seq ?_ | refine cjr TT rfl ?_ | refine oj_then ?_ | refine cj_block ?_))
  refine cj_cutB (fun _=>σ) (fun (n:Nat)=>[(0,.a (.v (.slice ao b.length cap))),(2,.a (.v (.slice none 0 0))),(3,.a (.v (.int .i64 (n:Nat))))]) (fun _=>[]) (fun _=>[]) 0 (fun n=>n<=b.length/\(∀ x∈b.drop n,x=255)/\(n=0\/∃ k c,n=k+1/\b[k]?=some c/\c≠255)) ?_ (fun n ⟨hn,hd,he⟩=>?_)
  · refine cj_loop (fun (_:Nat)=>σ) (fun n=>[(0,.a (.v (.slice ao b.length cap))),(2,.a (.v (.slice none 0 0))),(3,.a (.v (.int .i64 (n:Nat))))]) (fun _=>[]) (fun _=>[]) 0 (fun n=>n<=b.length/\∀ x∈b.drop n,x=255) (fun n=>n) b.length ⟨Nat.le_refl _,fun x hx=>(by rw [List.drop_length] at hx;cases hx)⟩ rfl (by (repeat first | exact trivial | refine ⟨rfl,?_⟩)) (by (repeat first | exact trivial | refine ⟨rfl,?_⟩)) rfl (by (repeat' (first | exact trivial | constructor))) (by (repeat' exact trivial)) fun n ⟨hn,hd⟩=>?_
    (repeat (first | refine cj_seq ?_ | refine cjr TT rfl ?_))
    refine oj_split 9 rfl (fun h=>?_) (fun h=>?_)
    rotate_left
    · have h:=of_decide_eq_false (show decide ((0:Int)<n)=false from h)
      refine oj_run TT rfl ?_
      (repeat (first | refine oj_then ?_ | refine cj_if_f rfl ?_ | refine cj_exit ?_ | refine nj_then_exit ?_ | refine nj_block_out ?_))
      refine nj_again n ⟨hn,hd,.inl (by omega)⟩ Nat.zero_lt_one rfl (by (repeat first | exact trivial | refine ⟨rfl,?_⟩)) (by (repeat first | exact trivial | refine ⟨rfl,?_⟩)) rfl (by (repeat' (first | exact trivial | constructor))) (by (repeat' exact trivial))
    have h:=of_decide_eq_true (show decide ((0:Int)<n)=true from h)
    obtain ⟨k,rfl⟩:∃ k,n=k+1:=⟨n - 1,by omega⟩
    have hkl:k<b.length:=by omega
    have hx:=List.getElem?_eq_getElem hkl
    have hrow:=u8Rows_get hx
    have hdk:=List.drop_eq_getElem_cons hkl
    generalize b[k]=c at *
    have hr1':∀ z:Int,z=((k+1:Nat):Int) - 1->(u8Rows b)[z.toNat]?=some [.v (.int .u8 c.toNat)]:=fun z hz=>by rw [hz,show (((k+1:Nat):Int) - 1).toNat=k by omega];exact hrow
    refine oj_run TT rfl ?_
    refine oj_minus rfl rfl rfl rfl rfl rfl (by omega) (oj_run TT rfl ?_)
    refine oj_idx TT rfl rfl rfl rfl rfl rfl rfl rfl rfl H (by omega) (hr1' _ rfl) (oj_run TT rfl ?_)
    (repeat refine oj_then ?_)
    refine cj_if rfl (fun hc=>?_) (fun hc=>?_)
    · have hc:c=255:=by
        have:=of_decide_eq_true (show decide ((c.toNat:Int)=255)=true from hc)
        exact UInt8.toNat_inj.1 (by show c.toNat=255;omega)
      (repeat (first | refine cjr TT rfl ?_ | refine oj_nil ?_ | refine cj_skip ?_ | refine cj_block ?_ | refine nj_then ?_ | refine nj_block ?_ | (refine oj_minus rfl rfl rfl rfl rfl rfl (by omega) ?_;refine oj_run TT rfl ?_)))
      refine nj_set 3 (.a (.v (.int .i64 (k:Nat)))) rfl trivial (fun _=>congrArg (Value.int .i64) (by omega)) ?_
      refine nj_again k ⟨by omega,fun x hx=>?_⟩ (by omega) rfl (by (repeat first | exact trivial | refine ⟨rfl,?_⟩)) (by (repeat first | exact trivial | refine ⟨rfl,?_⟩)) rfl (by (repeat' (first | exact trivial | constructor))) (by (repeat' exact trivial))
      rw [hdk] at hx
      rcases List.mem_cons.1 hx with rfl | hx
      · exact hc
      · exact hd x hx
    · have hc:c≠255:=fun e=>by
        have:=of_decide_eq_false (show decide ((c.toNat:Int)=255)=false from hc)
        rw [e] at this
        exact this rfl
      (repeat (first | refine cj_exit ?_ | refine nj_then_exit ?_ | refine nj_block_out ?_))
      refine nj_again (k+1) ⟨hn,hd,.inr ⟨k,c,rfl,hx,hc⟩⟩ Nat.zero_lt_one rfl (by (repeat first | exact trivial | refine ⟨rfl,?_⟩)) (by (repeat first | exact trivial | refine ⟨rfl,?_⟩)) rfl (by (repeat' (first | exact trivial | constructor))) (by (repeat' exact trivial))
  (repeat (first | refine cj_seq ?_ | refine cjr TT rfl ?_ | refine oj_then ?_))
  refine cj_if rfl (fun h=>?_) (fun h=>?_)
  · have h:=of_decide_eq_true (show decide ((n:Int)=0)=true from h)
    have e:afterG b=[]:=after_zero fun c hc=>hd c (by rw [show n=0 by omega];exact hc)
    rw [e]
    (repeat (first | refine cj_seq ?_ | refine cjr TT rfl ?_ | refine oj_then ?_ | refine cj_ret ?_ | refine nj_then_ret ?_))
    refine nj_ret TT rfl fun β w' _ _=>?_
    exact ⟨none,0,rfl,SlAt.nil _ none 0 1⟩
  have h:=of_decide_eq_false (show decide ((n:Int)=0)=false from h)
  obtain ⟨k,c,rfl,hx,hc⟩:=he.resolve_left (by omega)
  have e:=after_at hx hc hd
  have hset:=take_set_last hx (c+1)
  have hkl:=(List.getElem?_eq_some_iff.1 hx).1
  have hF:=H.sub (Nat.zero_le _) hn
  have hfr:SlAt σ ao (k+1) cap 1 (u8Rows (b.take (k+1))):=by
    refine ⟨by rw [u8Rows_len,List.length_take];omega,Nat.le_trans hn H.ncap,fun r hr=>⟨(u8Rows_all _ r hr).1,(u8Rows_all _ r hr).2.1⟩,?_⟩
    rcases H.at_ with h1 | ⟨ad,h1,h2⟩
    · omega
    · refine .inr ⟨ad,h1,fun i r j cc hr hcc=>h2 i r j cc ?_ hcc⟩
      unfold u8Rows at hr ⊢
      rw [List.map_take,List.getElem?_take] at hr
      split at hr
      · exact hr
      · cases hr
  have hlt:(b.take (k+1)).length=k+1:=by rw [List.length_take];omega
  have hxt:(b.take (k+1))[k]?=some c:=by rw [List.getElem?_take,if_pos (Nat.lt_succ_self k)];exact hx
  (repeat (first | refine cj_seq ?_ | refine cjr TT rfl ?_ | refine cj_skip ?_ | refine nj_then ?_))
  refine oj_slice_to TT (k+1) rfl rfl rfl rfl rfl rfl rfl rfl rfl rfl (Nat.le_trans hn H.ncap) H.ncap (oj_run TT rfl ?_)
  refine oj_own 0 0 1 rfl (by (repeat' (first | exact trivial | refine AllLt.of ?_))) rfl (by decide) fun gb=>?_
  have eA:∀ (bo:Option Addr) (bc:Nat),(⟨bo,0+(k+1),bc,5,1,[]++(u8Rows (b.take (k+1))).flatten.map AT.val⟩:AE)=u8E bo bc (b.take (k+1)):=fun bo bc=>by
    unfold u8E
    rw [u8Xs_flat,Nat.zero_add,hlt]
    rfl
  refine oj_append_sl TT 0 rfl rfl rfl rfl rfl rfl rfl hfr rfl rfl rfl rfl rfl rfl rfl rfl rfl (fun r hr=>(u8Rows_all _ r hr).2.2) (by omega) (by show (0+(k+1))*1<=_;omega) fun bo bc hbc=>?_
  refine (?_:OJ _ _ _ _ ((25,.a (.v (.slice bo (0+(k+1)) bc)))::_) _ [(⟨bo,0+(k+1),bc,5,1,[]++(u8Rows (b.take (k+1))).flatten.map AT.val⟩:AE)] _)
  rw [eA,Nat.zero_add]
  rw [Nat.zero_add] at hbc
  refine oj_run TT rfl ?_
  refine oj_arrAt 0 (E:=u8E bo bc (b.take (k+1))) rfl (by show 0<(b.take (k+1)).length;omega) fun g hg=>?_
  have hg:bo=some ⟨g,0,none⟩:=hg
  subst hg
  have had:∀ z:Int,z=((k+1:Nat):Int) - 1->some (SV.a (AT.v (.pointer (some (Addr.add ⟨g,0,none⟩ (z.toNat*1))))))=some (SV.a (AT.v (.pointer (some ⟨g,k,none⟩)))):=fun z hz=>by rw [hz,show (((k+1:Nat):Int) - 1).toNat=k by omega,add0,Nat.mul_one]
  (repeat (first | refine cj_seq ?_ | refine cjr TT rfl ?_ | refine oj_then ?_ | (refine oj_minus rfl rfl rfl rfl rfl rfl (by omega) ?_;refine oj_run TT rfl ?_)))
  refine oj_indexAddr TT rfl rfl rfl rfl rfl rfl rfl rfl rfl ⟨by omega,by omega⟩ (oj_run TT rfl ?_)
  refine oj_ldA 0 (off:=k) (c:=.v (.int .u8 c.toNat)) TT rfl rfl rfl rfl rfl (had _ rfl) rfl rfl rfl rfl (u8Xs_get hxt) trivial (oj_run TT rfl ?_)
  refine oj_arith ((c+1).toNat:Int) rfl rfl rfl rfl rfl rfl (run_add (wrap8_inc c)) (oj_run TT rfl ?_)
  refine oj_indexAddr TT rfl rfl rfl rfl rfl rfl rfl rfl rfl ⟨by omega,by omega⟩ (oj_run TT rfl ?_)
  refine oj_stA 0 (off:=k) (A':=[u8E (some ⟨g,0,none⟩) bc (afterG b)]) (c:=.v (.int .u8 ((c+1).toNat:Int))) TT rfl rfl rfl rfl (had _ rfl) rfl rfl rfl rfl rfl (by show k<(b.take (k+1)).length*1;omega) trivial rfl (by
    show [_]=[_]
    congr 1
    unfold u8E
    have hl2:(afterG b).length=(b.take (k+1)).length:=by rw [e,hlt,List.length_append,List.length_take];show _+1=_;omega
    rw [hl2]
    congr 1
    rw [e,<-hset]
    exact u8Xs_set _ _ _) (oj_run TT rfl ?_)
  (repeat (first | refine cj_seq ?_ | refine cjr TT rfl ?_ | refine oj_then ?_ | refine cj_ret ?_))
  refine nj_seal 0 rfl rfl fun s2 hle2 hS=>?_
  refine nj_ret TT rfl fun β w' _ _=>?_
  have hl2:(afterG b).length=k+1:=by rw [e,List.length_append,List.length_take];show _+1=_;omega
  have:=u8_sealed hS (by rw [hl2];omega)
  exact ⟨some ⟨g,0,none⟩,bc,by rw [hl2];rfl,this⟩
end Go.Sy
namespace Go.Sy
open Go.Proofs
theorem few_b {l:List GPart} (h:fewG l=true):∀ p∈l,p.n.dg.size<=mostLen/\p.s.size<=1000000:=fun p hp=>by
  have:=(few_iff.1 h).2 p hp
  unfold mostLen
  omega
end Go.Sy
namespace Go.Sy
open Go.Proofs
theorem decF_err:∀ (n k:Nat) (l:List UInt8) {e:Int},decF n k l=.error e->e=2\/e=4
  | 0,_,_,_,h=>by cases h
  | _+1,_,[],_,h=>by cases h
  | n+1,k,c::b,e,h=>by
    rw [decF] at h
    cases hf:firstG (c::b) with
    | none =>
      rw [hf] at h
      injection h with h
      exact .inl h.symm
    | some q =>
      obtain ⟨p,r⟩:=q
      rw [hf] at h
      dsimp only at h
      split at h
      · injection h with h
        exact .inr h.symm
      · cases hd:decF n (k+1) r with
        | ok l=>rw [hd] at h;cases h
        | error e' =>
          rw [hd] at h
          injection h with h
          subst h
          exact decF_err n (k+1) r hd
theorem dec_bad {b:List UInt8} (h:(decG b).2≠0):(decG b).1=[]:=by
  unfold decG at h ⊢
  cases hd:decF b.length 0 b with
  | ok l=>rw [hd] at h;exact absurd rfl h
  | error e=>rfl
theorem there_law {b:List UInt8} (h:(decG b).2=0):(∀ p∈(decG b).1,Rt p)/\(decG b).1.length<=16/\(decG b).1.flatMap putG=b/\encG (decG b).1=(b,0):=by
  unfold decG at h ⊢
  cases hd:decF b.length 0 b with
  | ok l =>
    obtain ⟨h1,h2,h3⟩:=enc_dec b.length 0 b (by omega) (Nat.le_refl _) hd
    refine ⟨h1,by dsimp only;omega,h3,?_⟩
    show encG l=(b,0)
    unfold encG
    rw [if_neg (by omega),if_pos (all_rt.2 h1),h3]
  | error e =>
    rw [hd] at h
    have h:e=0:=h
    rcases decF_err _ _ _ hd with h' | h'<;>omega
end Go.Sy
/- Regions over a base: quiet reads of bytes; calls behind which the base is what is known then. No program in sight. -/
namespace Go.Sy
section
variable {cf:Cf} {Q:Exit->Act->World->Prop} {σ σb:Snap} {env:Env} {hp hpb:HP} {A:List AE} {nh nb:Nat} {ops:Array Oper} {U bef:List Nat} {n:Nat} {listed:Array Bool}
theorem gb_set (t:Nat) {x:SV} (y:SV) (h:env.get t=some x) (hy:y.lt nh) (hxy:∀ β,x.den β=y.den β) (k:GB cf ops U bef σb hpb nb n listed Q σ ((t,y)::env) hp A nh):GB cf ops U bef σb hpb nb n listed Q σ env hp A nh:=by
  refine ⟨fun hs hb hbb hnb hle hsub a β ha hex hex0 hc=>k.run hs (hb.put hy t) hbb hnb hle hsub a β ⟨ha.size,ha.defers,fun i z hz=>?_⟩ hex hex0 hc⟩
  rw [Env.get_cons] at hz
  by_cases hi:t=i
  · rw [if_pos hi] at hz
    injection hz with hz
    subst hz;subst hi
    rw [<-hxy β];exact ha.env t _ h
  · rw [if_neg hi] at hz;exact ha.env i z hz
theorem gb_quiet {i d:Nat} {o:Oper} (y:SV) (hi:ops[i]?=some o) (hr:(Region.ready .any ops listed).contains i=true) (hf:Region.free .any ops listed i=true) (hk:U.contains i=false)
    (hd:o.dst=some d) (hg:guardVal (slotOf ops o) env=some true) (hN:Nat.blt d cf.N=true) (hy:y.lt nh)
    (hrun:∀ a β,StA cf env β a->∀ w,StW cf σb hpb [] β w->(execOp a.eval o).run cf.P w=.ok (.value (y.den β)) w)
    (k:GB cf ops U (bef++[i]) σb hpb nb n (listed.setIfInBounds i true) Q σ ((d,y)::env) hp A nh):GB cf ops U bef σb hpb nb (n+1) listed Q σ env hp A nh:=by
  refine ⟨fun hs hb hbb hnb hle hsub a β ha hex hex0 hc=>?_⟩
  obtain ⟨w0,hw0⟩:=id hex0
  have hN':d<cf.N:=by simpa [Nat.blt_eq] using hN
  have hr':i∈Region.ready .any ops listed:=by simpa using hr
  have hw:Region.wanted o (yielded ops a.tmps)=true:=by rw [<-wantedS_slotOf];exact guardVal_ok ha hg
  have hrest:=k.run hs (hb.put hy d) hbb hnb hle hsub _ β (ha.put hN' y) hex hex0 (hc.set hr')
  exact wpAnyC_first hi (Region.noSelect_spec hs) n listed a _ _ hc (fun y hy=>hw0.base hle hsub hy) (Region.free_spec hi hf) hr' ⟨.inl ⟨hw,fun w hE0=>.inl (hrun a β ha w hE0)⟩,fun hu=>absurd (List.contains_iff_mem.2 hu) (by rw [hk];decide)⟩ (by rw [hd];exact hrest)
theorem gb_strOf {i d nn cap:Nat} {o:Oper} {x:Operand} {s t e:TypeId} {T:List (Nat×TI)} (hT:TTok cf.P T) {ts ti te:TI} {ao:Option Addr} {l:List UInt8} (hop:o.op=.convert s t x)
    (hi:ops[i]?=some o) (hr:(Region.ready .any ops listed).contains i=true) (hf:Region.free .any ops listed i=true) (hk:U.contains i=false) (hd:o.dst=some d) (hg:guardVal (slotOf ops o) env=some true) (hN:Nat.blt d cf.N=true)
    (hx:evalO env x=some (.a (.v (.slice ao nn cap)))) (hs:tget T s=some ts) (hks:ts.kind=.slice e) (hte:tget T e=some te) (hke:te.kind=.int .u8) (ht:tget T t=some ti) (hkt:ti.kind=.str)
    (H:SlAt σb ao nn cap 1 (u8Rows l)) (k:GB cf ops U (bef++[i]) σb hpb nb n (listed.setIfInBounds i true) Q σ ((d,.a (.v (.string ⟨l.toArray⟩)))::env) hp A nh):GB cf ops U bef σb hpb nb (n+1) listed Q σ env hp A nh:=by
  refine gb_quiet (.a (.v (.string ⟨l.toArray⟩))) hi hr hf hk hd hg hN trivial (fun a β ha w hw=>?_) k
  have us:=tk_slice (hT _ _ hs) hks
  have ue:=tk_u8 (hT _ _ hte) hke
  have ut:=tk_str (hT _ _ ht) hkt
  have hx':a.eval x=.slice ao nn cap:=evalO_eval ha hx
  have hn:l.length=nn:=by rw [<-H.len,u8Rows_len]
  have hrun:(convert s t (.slice ao nn cap)).run cf.P w=.ok (.string ⟨l.toArray⟩) w:=by
    subst hn
    cases ao with
    | none =>
      have h0:l.length=0:=by
        rcases H.at_ with h | ⟨ad,h,_⟩
        · exact h
        · cases h
      have:l=[]:=List.eq_nil_of_length_eq_zero h0
      subst this
      exact Lib.run_convert_nil_bytes w s t e cap us ue ut
    | some ad =>
      refine run_convert_bytes_back w s t e ad cap l us ue ut fun j hj=>?_
      rcases H.at_ with h | ⟨ad2,h1,h2⟩
      · omega
      · injection h1 with h1
        subst h1
        have h3:=Snap.cell_sealed hw (h2 j _ 0 _ (u8Rows_get (List.getElem?_eq_getElem hj)) rfl)
        rw [Nat.mul_one,Nat.add_zero] at h3
        exact h3
  simp only [execOp,hop,hx',hrun,Sem.run_bind,Result.andThen_ok,Sem.run_pure]
  rfl
theorem gb_callS {j d:Nat} {o:Oper} {f:FuncId} {ys:List SV} {Φ:Value->Snap->Prop} (hj:ops[j]?=some o) (hc:callee env o.op=some (f,ys)) (hd:o.dst=some d) (hg:guardVal (slotOf ops o) env=some true)
    (hN:Nat.blt d cf.N=true) (hcall:∀ args w,(callFunc f args).run cf.P w=.ok (.enter f args) w) (hlt:LtAll ys) (hC:PureS cf.P f ys σ Φ)
    (k:∀ v σ',σ.le σ'->Φ v σ'->∃ y:SV,y.lt 0/\y.den β0=v/\GB cf ops U (bef++[j]) σ' hpb nb n (listed.setIfInBounds j true) Q σ' ((d,y)::env) hp A nh):GBK cf ops U bef σb hpb nb n listed j Q σ env hp A nh:=by
  refine ⟨fun hs hb hbb hnb hle hsub a β ha hex hex0 hcl hr=>?_⟩
  obtain ⟨w0,hw0⟩:=id hex0
  have hN':d<cf.N:=by simpa [Nat.blt_eq] using hN
  have den0:∀ {y:SV},y.lt 0->y.den β=y.den β0:=fun hy=>SV.den_congr (n:=0) (fun i hi=>by omega) hy
  have hargs:(ys.map (SV.den β)).toArray=(ys.map (SV.den β0)).toArray:=by
    rw [List.map_congr_left fun y hy=>den0 (hlt.of y hy)]
  have hwant:Region.wanted o (yielded ops a.tmps)=true:=by rw [<-wantedS_slotOf];exact guardVal_ok ha hg
  unfold stepC
  simp only [hj]
  rw [if_pos hwant]
  intro w hw
  unfold Oper.wq
  rw [callee_ok ha hc hcall]
  simp only [Oper.uponIn]
  rw [hargs]
  refine ⟨fun h=>(by cases h),CallsIn.mono (callsIn_FR.2 (hC w hw.sealed)) fun e w' ⟨v,σ',he,h1,h2,h3,h4⟩=>?_⟩
  subst he
  have hw':=hw.after h1 h2 h3
  obtain ⟨y,hy,hyv,hk⟩:=k v σ' h2.le h4
  have hw0':StW cf σ' hpb [] β w':=by
    have:=hw'.dropA
    exact this.sub hsub
  refine ⟨fun x=>StW cf σ' hpb [] β x,_,hw',fun x hx=>hw0'.base (Snap.le_refl _) hsub hx,.inl fun x hx=>hw0.base (Snap.le_trans hle h2.le) (fun i y h=>h) hx,?_⟩
  have:=hk.run hs (hb.put (SV.lt_mono (Nat.zero_le _) hy) d) hbb hnb (Snap.le_refl _) hsub (a.put (some d) (y.den β)) β (ha.put hN' y) ⟨_,hw'⟩ ⟨w',hw0'⟩ (hcl.set hr)
  rw [hd,<-hyv,<-den0 hy]
  exact this
theorem gb_callP {j d:Nat} {o:Oper} {f:FuncId} {ys:List SV} {Φ:Value->Prop} (hj:ops[j]?=some o) (hc:callee env o.op=some (f,ys)) (hd:o.dst=some d) (hg:guardVal (slotOf ops o) env=some true)
    (hN:Nat.blt d cf.N=true) (hcall:∀ args w,(callFunc f args).run cf.P w=.ok (.enter f args) w) (hlt:LtAll ys) (hC:PlainS cf.P f ys σ Φ)
    (k:∀ v σ',σ.le σ'->Φ v->∃ y:SV,y.lt 0/\y.den β0=v/\GB cf ops U (bef++[j]) σ' hpb nb n (listed.setIfInBounds j true) Q σ' ((d,y)::env) hp A nh):GBK cf ops U bef σb hpb nb n listed j Q σ env hp A nh :=
  gb_callS (Φ:=fun v _=>Φ v) hj hc hd hg hN hcall hlt hC k
end
end Go.Sy
namespace Go.Sy
open Go.Proofs
theorem decG_len (b:List UInt8):(decG b).1.length<=16:=by
  by_cases h:(decG b).2=0
  · exact (there_law h).2.1
  · rw [dec_bad h];exact Nat.zero_le _
set_option maxRecDepth 100000 in
set_option maxHeartbeats 8000000 in
theorem KeysCode_c (σ:Snap) (m:Int) (hm:σ.cell ⟨0,0,none⟩=some (.int .i64 m)) (g:GVal) (c:List AT) (hR:RepV σ g c) (l:List GPart) (lo:Option Addr) (lc:Nat) (HL:SlAt σ lo l.length lc 7 (paRows l)) (hl:l.length<=140737488355328) (b:List UInt8) (bo:Option Addr) (bc:Nat) (HB:SlAt σ bo b.length bc 1 (u8Rows b)) (hb:b.length<=140737488355328) :
    PureS Tryd.prog 7 [.a (.v (.slice lo l.length lc)),.a (.v (.slice bo b.length bc)),.agg c] σ (fun v _=>v=.bool true):=by
  obtain ⟨gla,glc,glrows,gma,gmc,gvrows,rfl,-⟩:=hR.open
  clear hR
  refine enter_s Tryd.func7 rfl rfl ⟨trivial,trivial,vCells_lt 0 _ _ _ _ _,trivial⟩ fun w=>?_
  (repeat (first | refine cj_seq ?_ | refine cjr TT rfl ?_ | refine oj_then ?_))
  refine oj_callS rfl rfl rfl rfl rfl Tryd.call8 trivial (awake09_c σ m hm) fun v s0 hle0 hv=>⟨.a .tt,trivial,hv.symm,?_⟩
  have HL:=HL.mono hle0
  have HB:=HB.mono hle0
  have hm:=hle0.cell hm
  refine oj_run TT rfl ?_
  (repeat (first | refine cj_seq ?_ | refine cjr TT rfl ?_ | refine oj_then ?_))
  refine oj_callP rfl rfl rfl rfl rfl Tryd.call11 (by (repeat' (first | exact trivial | constructor))) (Few_c s0 l hl lo lc HL) fun v hv=>⟨.a (.b (fewG l)),trivial,hv.symm,?_⟩
  refine oj_run TT rfl ?_
  refine oj_split 24 rfl (fun h=>?_) (fun h=>?_)
  · refine oj_run TT rfl ?_
    (repeat (first | refine cj_seq ?_ | refine cjr TT rfl ?_ | refine oj_then ?_ | refine cj_if_t rfl ?_ | refine cj_ret ?_ | refine nj_then_ret ?_))
    refine nj_ret TT rfl fun β w' _ _=>?_
    rfl
  have hfl:fewG l=true:=by simpa using h
  have hll:=(few_iff.1 hfl).1
  refine oj_run TT rfl ?_
  (repeat refine oj_then ?_)
  refine cj_if rfl (fun h=>?_) (fun h=>?_)
  · (repeat (first | refine cj_seq ?_ | refine cjr TT rfl ?_ | refine oj_then ?_ | refine cj_ret ?_ | refine nj_then_ret ?_))
    refine nj_ret TT rfl fun β w' _ _=>?_
    rfl
  have h1000:b.length<=1000:=by have:=of_decide_eq_false (show decide ((1000:Int)<b.length)=false from h);omega
  have hpl:=decG_len b
  have hE2:=fun (s:Snap) (hle:s0.le s)=>REncode_c s l hl (few_b hfl) lo lc (HL.mono hle)
  have hE1:=fun (s:Snap) (hle:s0.le s) (xo:Option Addr) (xc:Nat) (HX:SlAt s xo l.length xc 7 (paRows l))=>Encode_c s m (hle.cell hm) l hl (few_b hfl) xo xc HX
  have hD1:=fun (s:Snap) (hle:s0.le s)=>Decode_c s b (by omega) bo bc (HB.mono hle)
  have hD2:=fun (s:Snap) (hle:s0.le s)=>RDecode_c s b (by omega) bo bc (HB.mono hle)
  have hA1:=fun (s:Snap) (hle:s0.le s)=>After_c s b (by omega) bo bc (HB.mono hle)
  have hA2:=fun (s:Snap) (hle:s0.le s)=>RAfter_c s b (by omega) bo bc (HB.mono hle)
  have hS1:=fun (s:Snap)=>Scalar_c s g gla glc gma gmc
  have hS2:=fun (s:Snap)=>RScalar_c s g gla glc gma gmc
  generalize encG l=E at *
  generalize decG b=D at *
  generalize afterG b=F at *
  generalize scalG g=S at *
  obtain ⟨xs,xe⟩:=E
  obtain ⟨ps,pe⟩:=D
  obtain ⟨sp,so⟩:=S
  dsimp only at hE1 hE2 hD1 hD2 hS1 hS2 hpl
  (repeat (first | refine cj_seq ?_ | refine cjr TT rfl ?_ | refine cj_skip ?_ | refine nj_then ?_))
  refine oj_callS rfl rfl rfl rfl rfl Tryd.call13 ⟨trivial,trivial⟩ (ours_c s0 l (by omega) lo lc HL) fun v s1 hle1 ⟨xo,xc,hv,HX⟩=>⟨.a (.v (.slice xo l.length xc)),trivial,hv.symm,?_⟩
  refine oj_run TT rfl ?_
  refine oj_callS rfl rfl rfl rfl rfl Tryd.call12 ⟨trivial,trivial⟩ (hE1 s1 hle1 xo xc HX) fun v s2 hle2 ⟨eo,ec,hv,HE⟩=>⟨.tup [.a (.v (.slice eo xs.length ec)),.a (.v (.int .i64 xe))],(by (repeat' (first | exact trivial | refine SV.lt_tup ?_ | constructor))),hv.symm,?_⟩
  have hle:=Snap.le_trans hle1 hle2
  refine oj_run TT rfl ?_
  (repeat (first | refine cj_seq ?_ | refine cjr TT rfl ?_ | refine oj_then ?_))
  refine oj_callS rfl rfl rfl rfl rfl Tryd.call17 ⟨trivial,trivial⟩ (hE2 s2 hle) fun v s3 hle3 ⟨fo,fc,hv,HF⟩=>⟨.tup [.a (.v (.slice fo xs.length fc)),.a (.v (.int .i64 xe))],(by (repeat' (first | exact trivial | refine SV.lt_tup ?_ | constructor))),hv.symm,?_⟩
  have hle:=Snap.le_trans hle hle3
  have HE:=HE.mono hle3
  refine oj_run TT rfl ?_
  (repeat (first | refine cj_seq ?_ | refine cjr TT rfl ?_ | refine oj_then ?_))
  refine oj_callS rfl rfl rfl rfl rfl Tryd.call15 ⟨trivial,trivial⟩ (hD1 s3 hle) fun v s4 hle4 ⟨po,pc,hv,HP⟩=>⟨.tup [.a (.v (.slice po ps.length pc)),.a (.v (.int .i64 pe))],(by (repeat' (first | exact trivial | refine SV.lt_tup ?_ | constructor))),hv.symm,?_⟩
  have hle:=Snap.le_trans hle hle4
  have HE:=HE.mono hle4
  have HF:=HF.mono hle4
  refine oj_run TT rfl ?_
  (repeat (first | refine cj_seq ?_ | refine cjr TT rfl ?_ | refine oj_then ?_))
  refine oj_callS rfl rfl rfl rfl rfl Tryd.call18 ⟨trivial,trivial⟩ (hD2 s4 hle) fun v s5 hle5 ⟨qo,qc,hv,HQ⟩=>⟨.tup [.a (.v (.slice qo ps.length qc)),.a (.v (.int .i64 pe))],(by (repeat' (first | exact trivial | refine SV.lt_tup ?_ | constructor))),hv.symm,?_⟩
  have hle:=Snap.le_trans hle hle5
  have HE:=HE.mono hle5
  have HF:=HF.mono hle5
  have HP:=HP.mono hle5
  refine oj_run TT rfl ?_
  (repeat (first | refine cj_seq ?_ | refine cjr TT rfl ?_ | refine oj_then ?_))
  refine oj_callP rfl rfl rfl rfl rfl Tryd.call19 (by (repeat' (first | exact trivial | exact vCells_lt _ _ _ _ _ _ | constructor))) (hS1 s5) fun v hv=>⟨.tup [.agg (paCells sp),.a (.b so)],(by intro x hx;simp only [List.mem_cons,List.not_mem_nil,or_false] at hx;rcases hx with rfl | rfl;exact paCells_lt 0 _;trivial),hv.symm,?_⟩
  refine oj_run TT rfl ?_
  (repeat (first | refine cj_seq ?_ | refine cjr TT rfl ?_ | refine oj_then ?_))
  refine oj_callP rfl rfl rfl rfl rfl Tryd.call20 (by (repeat' (first | exact trivial | exact vCells_lt _ _ _ _ _ _ | constructor))) (hS2 s5) fun v hv=>⟨.tup [.agg (paCells sp),.a (.b so)],(by intro x hx;simp only [List.mem_cons,List.not_mem_nil,or_false] at hx;rcases hx with rfl | rfl;exact paCells_lt 0 _;trivial),hv.symm,?_⟩
  refine oj_run TT rfl ?_
  (repeat (first | refine cj_seq ?_ | refine oj_then ?_))
  have hxs:∀ (q:List UInt8) (β:Nat->Addr),(SV.a (AT.b (decide ((⟨q.toArray⟩:ByteArray)=⟨q.toArray⟩)))).den β=(SV.a AT.tt).den β:=fun q β=>by
    show Value.bool (decide ((⟨q.toArray⟩:ByteArray)=⟨q.toArray⟩))=Value.bool true
    rw [decide_eq_true rfl]
  have hni:∀ (z:Int) (β:Nat->Addr),(SV.a (AT.b (decide (z=z)))).den β=(SV.a AT.tt).den β:=fun z β=>by
    show Value.bool (decide (z=z))=Value.bool true
    rw [decide_eq_true rfl]
  have hsb:∀ β:Nat->Addr,Value.bool (decide ([sp]=[sp]))=.bool true:=fun β=>by rw [decide_eq_true rfl]
  have hso:Value.bool (so == so)=.bool true:=by rw [beq_self_eq_true]
  have hpp:Value.bool (decide (ps=ps))=.bool true:=by rw [decide_eq_true rfl]
  have hone:∀ (t:Nat) (s:Snap) (gg:Nat),ArrSealed s ⟨some ⟨gg,0,none⟩,1,1,t,7,(paCells sp).map AT.val⟩->SlAt s (some ⟨gg,0,none⟩) ([sp]:List GPart).length 1 7 (paRows [sp]):=fun t s gg h=>pa_sealed (t:=t) (l:=[sp]) h (Nat.le_refl _)
  refine cj_drawB 47 [0,1,2,4,6,7,8,9,10,11,12,13,14,16,18,19,20,21,22,23,24,25,28,31,32,33,40,41,42,43,44,45,46] [(1,.loc 49,paCells sp),(2,.loc 52,paCells sp)] mixed (by kernel_rfl) rfl (subH_of (by (repeat first | exact trivial | refine ⟨rfl,?_⟩))) ?_
  refine gb_val (i:=0) TT rfl (by kernel_rfl) (by kernel_rfl) rfl rfl rfl rfl rfl ?_
  refine gb_val (i:=1) TT rfl (by kernel_rfl) (by kernel_rfl) rfl rfl rfl rfl rfl ?_
  refine gb_val (i:=2) TT rfl (by kernel_rfl) (by kernel_rfl) rfl rfl rfl rfl rfl ?_
  refine gb_strOf (i:=3) TT rfl rfl (by kernel_rfl) (by kernel_rfl) rfl rfl rfl rfl rfl rfl rfl rfl rfl rfl rfl HE ?_
  refine gb_val (i:=4) TT rfl (by kernel_rfl) (by kernel_rfl) rfl rfl rfl rfl rfl ?_
  refine gb_strOf (i:=5) TT rfl rfl (by kernel_rfl) (by kernel_rfl) rfl rfl rfl rfl rfl rfl rfl rfl rfl rfl rfl HF ?_
  refine gb_val (i:=6) TT rfl (by kernel_rfl) (by kernel_rfl) rfl rfl rfl rfl rfl ?_
  refine gb_set 67 (.a .tt) rfl trivial (hxs xs) ?_
  refine gb_val (i:=7) TT rfl (by kernel_rfl) (by kernel_rfl) rfl rfl rfl rfl rfl ?_
  refine gb_val (i:=8) TT rfl (by kernel_rfl) (by kernel_rfl) rfl rfl rfl rfl rfl ?_
  refine gb_val (i:=9) TT rfl (by kernel_rfl) (by kernel_rfl) rfl rfl rfl rfl rfl ?_
  refine gb_val (i:=10) TT rfl (by kernel_rfl) (by kernel_rfl) rfl rfl rfl rfl rfl ?_
  refine gb_val (i:=11) TT rfl (by kernel_rfl) (by kernel_rfl) rfl rfl rfl rfl rfl ?_
  refine gb_set 72 (.a .tt) rfl trivial (hni xe) ?_
  refine gb_val (i:=12) TT rfl (by kernel_rfl) (by kernel_rfl) rfl rfl rfl rfl rfl ?_
  refine gb_val (i:=13) TT rfl (by kernel_rfl) (by kernel_rfl) rfl rfl rfl rfl rfl ?_
  refine gb_val (i:=14) TT rfl (by kernel_rfl) (by kernel_rfl) rfl rfl rfl rfl rfl ?_
  refine gb_val (i:=16) TT rfl (by kernel_rfl) (by kernel_rfl) rfl rfl rfl rfl rfl ?_
  refine gb_one (i:=15) (by kernel_rfl) ?_
  refine gb_callS rfl rfl rfl rfl rfl Tryd.call16 ⟨trivial,trivial⟩ (theirs_c s5 ps (by omega) po pc HP) fun v s6 hle6 ⟨to,tc,hv,HT⟩=>⟨.a (.v (.slice to ps.length tc)),trivial,hv.symm,?_⟩
  refine gb_one (i:=17) (by kernel_rfl) ?_
  refine gb_callP rfl rfl rfl rfl rfl Tryd.call14 ⟨trivial,trivial,trivial⟩ (Same_c s6 ps ps (by omega) to tc HT qo qc (HQ.mono hle6)) fun v s7 hle7 hv=>⟨.a .tt,trivial,(hv.trans hpp).symm,?_⟩
  have hle:=Snap.le_trans hle (Snap.le_trans hle6 hle7)
  refine gb_val (i:=18) TT rfl (by kernel_rfl) (by kernel_rfl) rfl rfl rfl rfl rfl ?_
  refine gb_val (i:=19) TT rfl (by kernel_rfl) (by kernel_rfl) rfl rfl rfl rfl rfl ?_
  refine gb_val (i:=20) TT rfl (by kernel_rfl) (by kernel_rfl) rfl rfl rfl rfl rfl ?_
  refine gb_val (i:=21) TT rfl (by kernel_rfl) (by kernel_rfl) rfl rfl rfl rfl rfl ?_
  refine gb_val (i:=22) TT rfl (by kernel_rfl) (by kernel_rfl) rfl rfl rfl rfl rfl ?_
  refine gb_set 83 (.a .tt) rfl trivial (hni pe) ?_
  refine gb_val (i:=23) TT rfl (by kernel_rfl) (by kernel_rfl) rfl rfl rfl rfl rfl ?_
  refine gb_val (i:=24) TT rfl (by kernel_rfl) (by kernel_rfl) rfl rfl rfl rfl rfl ?_
  refine gb_val (i:=25) TT rfl (by kernel_rfl) (by kernel_rfl) rfl rfl rfl rfl rfl ?_
  refine gb_val (i:=28) TT rfl (by kernel_rfl) (by kernel_rfl) rfl rfl rfl rfl rfl ?_
  refine gb_one (i:=26) (by kernel_rfl) ?_
  refine gb_callS rfl rfl rfl rfl rfl Tryd.call9 ⟨trivial,trivial⟩ (hA1 s7 hle) fun v s8 hle8 ⟨a1,c1,hv,H1⟩=>⟨.a (.v (.slice a1 F.length c1)),trivial,hv.symm,?_⟩
  have hle:=Snap.le_trans hle hle8
  refine gb_strOf (i:=27) TT rfl rfl (by kernel_rfl) (by kernel_rfl) rfl rfl rfl rfl rfl rfl rfl rfl rfl rfl rfl H1 ?_
  refine gb_one (i:=29) (by kernel_rfl) ?_
  refine gb_callS rfl rfl rfl rfl rfl Tryd.call21 ⟨trivial,trivial⟩ (hA2 s8 hle) fun v s9 hle9 ⟨a2,c2,hv,H2⟩=>⟨.a (.v (.slice a2 F.length c2)),trivial,hv.symm,?_⟩
  refine gb_strOf (i:=30) TT rfl rfl (by kernel_rfl) (by kernel_rfl) rfl rfl rfl rfl rfl rfl rfl rfl rfl rfl rfl H2 ?_
  refine gb_val (i:=31) TT rfl (by kernel_rfl) (by kernel_rfl) rfl rfl rfl rfl rfl ?_
  refine gb_set 92 (.a .tt) rfl trivial (hxs F) ?_
  refine gb_val (i:=32) TT rfl (by kernel_rfl) (by kernel_rfl) rfl rfl rfl rfl rfl ?_
  refine gb_val (i:=33) TT rfl (by kernel_rfl) (by kernel_rfl) rfl rfl rfl rfl rfl ?_
  refine gb_val (i:=34) TT rfl (by kernel_rfl) (by kernel_rfl) rfl rfl rfl rfl rfl ?_
  refine gb_val (i:=37) TT rfl (by kernel_rfl) (by kernel_rfl) rfl rfl rfl rfl rfl ?_
  refine gb_two (i:=35) (j:=38) (by kernel_rfl) ?_ ?_
  · refine gb_new TT rfl rfl rfl rfl rfl ?_
    refine gb_own 3 1 7 rfl (paCells_lt 0 _) rfl (by decide) rfl fun g5=>?_
    refine gb_seal 0 rfl rfl fun sa hla hSa=>?_
    have HA:=hone _ _ _ hSa
    refine gb_two (i:=36) (j:=38) (by kernel_rfl) ?_ ?_
    · refine gb_callS rfl rfl rfl rfl rfl Tryd.call16 ⟨trivial,trivial⟩ (theirs_c sa [sp] (by show 1<=_;omega) _ _ HA) fun v sc hlc ⟨uo,uc,hv,HU⟩=>⟨.a (.v (.slice uo 1 uc)),trivial,hv.symm,?_⟩
      refine gb_one (i:=38) (by kernel_rfl) ?_
      refine gb_new TT rfl rfl rfl rfl rfl ?_
      refine gb_own 4 1 7 rfl (paCells_lt 0 _) rfl (by decide) rfl fun g8=>?_
      refine gb_seal 0 rfl rfl fun sb hlb hSb=>?_
      have HBb:=hone _ _ _ hSb
      refine gb_order [(39,.keep),(40,.pure),(41,.pure),(42,.pure),(43,.pure),(44,.pure),(45,.pure),(46,.pure)] rfl rfl (by kernel_rfl) ?_
      refine oj_callP rfl rfl rfl rfl rfl Tryd.call14 ⟨trivial,trivial,trivial⟩ (Same_c sb [sp] [sp] (by show 1<=_;omega) _ _ (HU.mono hlb) _ _ HBb) fun v hv=>⟨.a .tt,trivial,(hv.trans (hsb β0)).symm,?_⟩
      refine oj_run TT rfl ?_
      (repeat (first | refine oj_then ?_ | refine cj_ret ?_))
      refine nj_ret TT rfl fun β w' _ _=>?_
      exact hso
    · refine gb_new TT rfl rfl rfl rfl rfl ?_
      refine gb_own 4 1 7 rfl (paCells_lt 0 _) rfl (by decide) rfl fun g8=>?_
      refine gb_seal 0 rfl rfl fun sb hlb hSb=>?_
      have HBb:=hone _ _ _ hSb
      refine gb_one (i:=36) (by kernel_rfl) ?_
      refine gb_callS rfl rfl rfl rfl rfl Tryd.call16 ⟨trivial,trivial⟩ (theirs_c sb [sp] (by show 1<=_;omega) _ _ (HA.mono hlb)) fun v sc hlc ⟨uo,uc,hv,HU⟩=>⟨.a (.v (.slice uo 1 uc)),trivial,hv.symm,?_⟩
      refine gb_order [(39,.keep),(40,.pure),(41,.pure),(42,.pure),(43,.pure),(44,.pure),(45,.pure),(46,.pure)] rfl rfl (by kernel_rfl) ?_
      refine oj_callP rfl rfl rfl rfl rfl Tryd.call14 ⟨trivial,trivial,trivial⟩ (Same_c sc [sp] [sp] (by show 1<=_;omega) _ _ HU _ _ (HBb.mono hlc)) fun v hv=>⟨.a .tt,trivial,(hv.trans (hsb β0)).symm,?_⟩
      refine oj_run TT rfl ?_
      (repeat (first | refine oj_then ?_ | refine cj_ret ?_))
      refine nj_ret TT rfl fun β w' _ _=>?_
      exact hso
  · refine gb_new TT rfl rfl rfl rfl rfl ?_
    refine gb_own 3 1 7 rfl (paCells_lt 0 _) rfl (by decide) rfl fun g8=>?_
    refine gb_seal 0 rfl rfl fun sb hlb hSb=>?_
    have HBb:=hone _ _ _ hSb
    refine gb_one (i:=35) (by kernel_rfl) ?_
    refine gb_new TT rfl rfl rfl rfl rfl ?_
    refine gb_own 4 1 7 rfl (paCells_lt 0 _) rfl (by decide) rfl fun g5=>?_
    refine gb_seal 0 rfl rfl fun sa hla hSa=>?_
    have HA:=hone _ _ _ hSa
    refine gb_one (i:=36) (by kernel_rfl) ?_
    refine gb_callS rfl rfl rfl rfl rfl Tryd.call16 ⟨trivial,trivial⟩ (theirs_c sa [sp] (by show 1<=_;omega) _ _ HA) fun v sc hlc ⟨uo,uc,hv,HU⟩=>⟨.a (.v (.slice uo 1 uc)),trivial,hv.symm,?_⟩
    refine gb_order [(39,.keep),(40,.pure),(41,.pure),(42,.pure),(43,.pure),(44,.pure),(45,.pure),(46,.pure)] rfl rfl (by kernel_rfl) ?_
    refine oj_callP rfl rfl rfl rfl rfl Tryd.call14 ⟨trivial,trivial,trivial⟩ (Same_c sc [sp] [sp] (by show 1<=_;omega) _ _ HU _ _ (HBb.mono (Snap.le_trans hla hlc))) fun v hv=>⟨.a .tt,trivial,(hv.trans (hsb β0)).symm,?_⟩
    refine oj_run TT rfl ?_
    (repeat (first | refine oj_then ?_ | refine cj_ret ?_))
    refine nj_ret TT rfl fun β w' _ _=>?_
    exact hso
end Go.Sy
