/- Parts of the proof of CStreamsValues: S14, S15, Sv, S16. No conditions. -/
import Derived.Test.YtlonlnagmfdlbaaGreatDoorM10
namespace Go.Sy
open Go.Proofs
theorem hadV (gb:Nat):∀ (m:Int) (u:Nat),m=u->some (SV.a (AT.v (.pointer (some (Addr.add ⟨gb,0,none⟩ (m.toNat*6))))))=some (SV.a (AT.v (.pointer (some ⟨gb,u*6,none⟩)))):=fun m u h=>by
  rw [h,Int.toNat_natCast,add0]
theorem hmidV (i j:Nat) (h:i+j<=4000000):Value.int .i64 (IntKind.i64.wrap (bShr .u64 (IntKind.u64.wrap ((i:Int)+j)) 1))=Value.int .i64 (((i+j) / 2:Nat):Int):=by
  rw [show ((i:Int)+j)=((i+j:Nat):Int) by omega,wU _ (by omega),half_eq,wI64 _ (by omega)]
theorem swap_mid2 {α:Type} (U V:List α) (y x:α):((U++y::x::V).set U.length x).set (U.length+1) y=U++x::y::V:=by
  rw [List.set_append_right _ _ (Nat.le_refl _),Nat.sub_self,List.set_cons_zero,List.set_append_right _ _ (by omega),Nat.add_sub_cancel_left,List.set_cons_succ,List.set_cons_zero]
structure H2S where
  lo:Nat
  hi:Nat
structure Y2S where
  s:Snap
  M:List Vd
set_option maxRecDepth 100000 in
set_option maxHeartbeats 8000000 in
theorem sym_c (N:Nat):∀ (σ:Snap) (P A B S:List Vd),A.length+B.length<=N->Srt vdLt A->Srt vdLt B->0<A.length->0<B.length->(∀ v∈A,VdOk σ v)->(∀ v∈B,VdOk σ v)->∀ (n:Nat),P.length+A.length+B.length+S.length=n->n<=1000000->∀ (ao:Option Addr) (cap:Nat) (a m b:Int),a=P.length->m=P.length+A.length->b=P.length+A.length+B.length ->
    FnS Tryz.prog 221 [.a (.v (.slice ao n cap)),.a (.v (.int .i64 a)),.a (.v (.int .i64 m)),.a (.v (.int .i64 b)),.a (.fn (.func 124) [])] σ [vdE ao n cap (P++(A++(B++S)))] (fun v _ A'=>v=.tuple #[]/\∃ M,Stab vdLt M (A++B)/\M.length=A.length+B.length/\A'=[vdE ao n cap (P++(M++S))]):=by
  induction N with
  | zero=>intro σ P A B S h0 _ _ h1;omega
  | succ N ih=>?_
  intro σ P A B S hN hA hB hA0 hB0 okA okB n hn hl ao cap a m b ha hm hb
  obtain ⟨m',rfl⟩:∃ m':Nat,m=m':=⟨P.length+A.length,by omega⟩
  obtain ⟨b',rfl⟩:∃ b':Nat,b=b':=⟨P.length+A.length+B.length,by omega⟩
  subst ha
  refine enter_f Tryz.func221 rfl rfl ⟨trivial,trivial,trivial,trivial,fn124_lt 0,trivial⟩ fun w=>?_
  refine cj_arrAt 0 (E:=vdE ao n cap (P++(A++(B++S)))) rfl (show 0<n by omega) fun gb hgb=>?_
  have hgb:ao=some ⟨gb,0,none⟩:=hgb
  subst hgb
  have had:=hadV gb
  (repeat (first | refine cj_seq ?_ | refine cjr TT rfl ?_ | refine oj_then ?_ | (refine oj_minus rfl rfl rfl rfl rfl rfl (by omega) ?_;refine oj_run TT rfl ?_)))
  refine cj_if rfl (fun h=>?_) (fun h=>?_)
  · have h:(m':Int) - P.length=1:=of_decide_eq_true h
    obtain ⟨x,rfl⟩:∃ x,A=[x]:=by
      match A,hA0,(show A.length=1 by omega) with
      | [x],_,_=>exact ⟨x,rfl⟩
    have okx:=okA x (List.mem_singleton.2 rfl)
    have hm:m'=P.length+1:=by have:([x]:List Vd).length=1:=rfl;omega
    have hb:b'=P.length+1+B.length:=by have:([x]:List Vd).length=1:=rfl;omega
    have hn:P.length+1+B.length+S.length=n:=hn
    subst hm hb
    (repeat (first | refine cj_seq ?_ | refine cjr TT rfl ?_ | refine oj_then ?_ | refine cj_block ?_))
    refine cj_cutB (fun _=>σ) (fun (t:Nat)=>[(0,.a (.v (.slice (some ⟨gb,0,none⟩) n cap))),(1,.a (.v (.int .i64 P.length))),(10,.a (.v (.int .i64 ((P.length+1+t:Nat):Int))))]) (fun _=>[]) (fun _=>[vdE (some ⟨gb,0,none⟩) n cap (P++([x]++(B++S)))]) 0 (fun t=>t<=B.length/\(∀ z∈B.take t,vdLt z x=true)/\∀ z∈B.drop t,vdLt z x=false) ?_ (fun t ⟨ht,h1,h2⟩=>?_)
    · refine cj_loop (fun (_:H2S)=>σ) (fun t=>[(0,.a (.v (.slice (some ⟨gb,0,none⟩) n cap))),(1,.a (.v (.int .i64 P.length))),(4,.a (.fn (.func 124) [])),(10,.a (.v (.int .i64 ((P.length+1+t.lo:Nat):Int)))),(11,.a (.v (.int .i64 ((P.length+1+t.hi:Nat):Int))))]) (fun _=>[]) (fun _=>[vdE (some ⟨gb,0,none⟩) n cap (P++([x]++(B++S)))]) 0
        (fun t=>t.lo<=t.hi/\t.hi<=B.length/\(∀ z∈B.take t.lo,vdLt z x=true)/\∀ z∈B.drop t.hi,vdLt z x=false) (fun t=>t.hi - t.lo) ⟨0,B.length⟩ ⟨Nat.zero_le _,Nat.le_refl _,fun z hz=>(by cases hz),fun z hz=>(by rw [List.drop_length] at hz;cases hz)⟩ rfl (by (repeat first | exact trivial | refine ⟨rfl,?_⟩)) (by (repeat first | exact trivial | refine ⟨rfl,?_⟩)) rfl ⟨trivial,trivial,fn124_lt 0,trivial,trivial,trivial⟩ trivial fun ⟨lo,hi⟩ ⟨hlh,hhl,hlo,hhi⟩=>?_
      dsimp only at hlh hhl hlo hhi ⊢
      (repeat (first | refine cj_seq ?_ | refine cjr TT rfl ?_ | refine oj_then ?_))
      refine cj_if rfl (fun h=>?_) (fun h=>?_)
      rotate_left
      · have h0:lo=hi:=by have:=of_decide_eq_false h;omega
        subst h0
        (repeat (first | refine cj_exit ?_ | refine nj_then_exit ?_ | refine nj_block_out ?_))
        refine nj_again lo ⟨hhl,hlo,hhi⟩ Nat.zero_lt_one rfl (by (repeat first | exact trivial | refine ⟨rfl,?_⟩)) (by (repeat first | exact trivial | refine ⟨rfl,?_⟩)) rfl ⟨trivial,trivial,trivial,trivial⟩ trivial
      have h0:lo<hi:=by have:=of_decide_eq_true h;omega
      have hq:(lo+hi) / 2<B.length:=by omega
      have hz:=List.getElem?_eq_getElem hq
      have okz:=okB _ (List.getElem_mem hq)
      have hmid:Value.int .i64 (IntKind.i64.wrap (bShr .u64 (IntKind.u64.wrap (((P.length+1+lo:Nat):Int)+((P.length+1+hi:Nat):Int))) 1))=Value.int .i64 ((P.length+1+(lo+hi) / 2:Nat):Int):=by
        rw [hmidV _ _ (by omega)]
        exact congrArg (fun z:Nat=>Value.int .i64 (z:Int)) (by omega)
      have hq1:lo<=(lo+hi) / 2:=by omega
      have hq2:(lo+hi) / 2<hi:=by omega
      generalize B[(lo+hi) / 2]=z at *
      generalize (lo+hi) / 2=q at *
      have hgz:(P++([x]++(B++S)))[P.length+1+q]?=some z:=by
        rw [List.getElem?_append_right (by omega),show P.length+1+q - P.length=q+1 by omega]
        show (x::(B++S))[q+1]?=some z
        rw [List.getElem?_cons_succ,List.getElem?_append_left hq]
        exact hz
      have hgx:(P++([x]++(B++S)))[P.length]?=some x:=get_mid P (B++S) x
      (repeat (first | refine cj_seq ?_ | refine cjr TT rfl ?_ | refine oj_then ?_ | refine cj_skip ?_ | refine cj_block ?_ | refine nj_then ?_ | (refine oj_conv TT _ rfl rfl rfl rfl rfl rfl rfl rfl rfl ?_;refine oj_run TT rfl ?_) | (refine oj_bshr rfl rfl rfl rfl rfl rfl (by decide) ?_;refine oj_run TT rfl ?_) | (refine oj_add rfl rfl rfl rfl rfl rfl (by omega) ?_;refine oj_run TT rfl ?_)))
      refine cj_set 39 (.a (.v (.int .i64 ((P.length+1+q:Nat):Int)))) rfl trivial (fun _=>hmid) ?_
      refine cj_set 12 (.a (.v (.int .i64 ((P.length+1+q:Nat):Int)))) rfl trivial (fun _=>hmid) ?_
      refine cj_draw [(0,.pure),(1,.pure),(2,.pure),(3,.pure),(4,.quiet),(5,.pure),(6,.pure),(7,.pure),(8,.quiet),(9,.keep),(10,.pure)] mixed (by kernel_rfl) (oj_run TT rfl ?_)
      refine oj_run TT rfl ?_
      refine oj_indexAddr TT rfl rfl rfl rfl rfl rfl rfl rfl rfl ⟨by omega,by omega⟩ (oj_run TT rfl ?_)
      refine oj_ldAs 0 (off:=(P.length+1+q)*6) TT (vdCells z) rfl rfl rfl rfl rfl (had _ _ rfl) rfl rfl rfl rfl rfl (fun j c hc=>vdXs_get hgz j c hc) (vdCells_lt 0 z) (oj_run TT rfl ?_)
      refine oj_indexAddr TT rfl rfl rfl rfl rfl rfl rfl rfl rfl ⟨by omega,by omega⟩ (oj_run TT rfl ?_)
      refine oj_ldAs 0 (off:=P.length*6) TT (vdCells x) rfl rfl rfl rfl rfl (had _ _ rfl) rfl rfl rfl rfl rfl (fun j c hc=>vdXs_get hgx j c hc) (vdCells_lt 0 x) (oj_run TT rfl ?_)
      refine oj_callP (ys:=[.agg (vdCells z),.agg (vdCells x)]) rfl rfl rfl rfl rfl Tryz.call124 ⟨vdCells_lt 0 z,vdCells_lt 0 x,trivial⟩ (vdCmp_c σ z x okz okx) fun v hv=>⟨.a (.v (.int .i64 (Lib.compareBytes z.z x.z))),trivial,hv.symm,?_⟩
      refine oj_run TT rfl ?_
      (repeat refine oj_then ?_)
      refine cj_if rfl (fun h=>?_) (fun h=>?_)
      · have h:vdLt z x=true:=h
        (repeat (first | refine cjr TT rfl ?_ | refine oj_nil ?_ | refine nj_block ?_ | (refine oj_add rfl rfl rfl rfl rfl rfl (by omega) ?_;refine oj_run TT rfl ?_)))
        refine nj_again (⟨q+1,hi⟩:H2S) ⟨hq2,hhl,fun y hy=>by
          obtain ⟨i,hi',ey⟩:=mem_take_get hy
          have hi':i<q+1:=hi'
          exact vdSWO.le_lt (hB.le vdSWO ey hz (by omega)) h,hhi⟩ (by dsimp only;omega) rfl ?_ (by (repeat first | exact trivial | refine ⟨rfl,?_⟩)) rfl ⟨trivial,trivial,fn124_lt 0,trivial,trivial,trivial⟩ trivial
        refine ⟨rfl,rfl,rfl,?_,rfl,trivial⟩
        exact congrArg (fun z=>some (SV.a (AT.v (Value.int .i64 z)))) (show ((P.length+1+q:Nat):Int)+1=((P.length+1+(q+1):Nat):Int) by omega)
      · have h:vdLt z x=false:=h
        (repeat (first | refine cjr TT rfl ?_ | refine oj_nil ?_ | refine nj_block ?_))
        refine nj_again (⟨lo,q⟩:H2S) ⟨hq1,by dsimp only;omega,hlo,fun y hy=>by
          obtain ⟨i,hi',ey⟩:=mem_drop_get hy
          exact vdSWO.tr _ _ _ h (hB.le vdSWO hz ey hi')⟩ (by dsimp only;omega) rfl (by (repeat first | exact trivial | refine ⟨rfl,?_⟩)) (by (repeat first | exact trivial | refine ⟨rfl,?_⟩)) rfl ⟨trivial,trivial,fn124_lt 0,trivial,trivial,trivial⟩ trivial
    (repeat (first | refine cj_seq ?_ | refine cjr TT rfl ?_ | refine oj_then ?_ | refine cj_block ?_))
    refine cj_loop (fun (_:Nat)=>σ) (fun u=>[(0,.a (.v (.slice (some ⟨gb,0,none⟩) n cap))),(10,.a (.v (.int .i64 ((P.length+1+t:Nat):Int)))),(13,.a (.v (.int .i64 ((P.length+u:Nat):Int))))]) (fun _=>[]) (fun u=>[vdE (some ⟨gb,0,none⟩) n cap (P++(B.take u++(x::(B.drop u++S))))]) 0
      (fun u=>u<=t) (fun u=>t - u) 0 (Nat.zero_le _) rfl (by (repeat first | exact trivial | refine ⟨rfl,?_⟩)) (by (repeat first | exact trivial | refine ⟨rfl,?_⟩)) rfl ⟨trivial,trivial,trivial,trivial⟩ trivial fun u hu=>?_
    (repeat (first | refine cj_seq ?_ | refine cjr TT rfl ?_ | refine oj_then ?_ | (refine oj_minus rfl rfl rfl rfl rfl rfl (by omega) ?_;refine oj_run TT rfl ?_)))
    refine cj_if rfl (fun h=>?_) (fun h=>?_)
    rotate_left
    · have h0:u=t:=by have:=of_decide_eq_false h;omega
      subst h0
      (repeat (first | refine cj_exit ?_ | refine cj_ret ?_ | refine nj_then ?_ | refine nj_then_exit ?_ | refine nj_then_ret ?_ | refine nj_block_out ?_))
      refine nj_fret TT rfl fun β w' _ _=>?_
      refine ⟨rfl,B.take u++x::B.drop u,Stab.left vdSWO hB h1 h2,?_,?_⟩
      · rw [List.length_append,List.length_cons,List.length_take,List.length_drop,List.length_singleton]
        omega
      · show [_]=[_]
        simp only [List.append_assoc,List.cons_append]
    have h:=of_decide_eq_true h
    have hut:u<t:=by omega
    have hy:=List.getElem?_eq_getElem (show u<B.length by omega)
    have hdu:B.drop u=B[u]::B.drop (u+1):=List.drop_eq_getElem_cons (by omega)
    have htu:B.take (u+1)=B.take u++[B[u]]:=List.take_succ_eq_append_getElem (by omega)
    generalize B[u]=y at *
    have hw1:P++(B.take u++(x::(B.drop u++S)))=(P++B.take u)++x::y::(B.drop (u+1)++S):=by
      rw [hdu]
      simp only [List.append_assoc,List.cons_append]
    have hw2:(P++B.take u)++y::x::(B.drop (u+1)++S)=P++(B.take (u+1)++(x::(B.drop (u+1)++S))):=by
      rw [htu]
      simp only [List.append_assoc,List.cons_append,List.nil_append]
    have hU:(P++B.take u).length=P.length+u:=by rw [List.length_append,List.length_take];omega
    have hW:(B.drop (u+1)++S).length+u+1=B.length+S.length:=by rw [List.length_append,List.length_drop];omega
    rw [hw1]
    generalize P++B.take u=U at *
    generalize hRd:B.drop (u+1)++S=R at *
    have hlw:(U++x::y::R).length=n:=by
      simp only [List.length_append,List.length_cons]
      omega
    have hgy:=get_mid1 U R x y
    have hgx:=get_mid U (y::R) x
    (repeat (first | refine cj_seq ?_ | refine cj_skip ?_ | refine cj_block ?_ | refine nj_then ?_))
    refine cj_draw [(0,.pure),(1,.pure),(2,.pure),(3,.pure),(4,.pure),(5,.pure),(6,.pure),(7,.pure),(8,.pure),(9,.quiet),(10,.pure),(11,.pure),(12,.pure),(13,.quiet),(14,.pure),(15,.sink),(16,.pure),(17,.sink)] mixed (by kernel_rfl) (oj_run TT rfl ?_)
    refine oj_run TT rfl ?_
    refine oj_add rfl rfl rfl rfl rfl rfl (by omega) (oj_run TT rfl ?_)
    refine oj_add rfl rfl rfl rfl rfl rfl (by omega) (oj_run TT rfl ?_)
    refine oj_indexAddr TT rfl rfl rfl rfl rfl rfl rfl rfl rfl ⟨by omega,by omega⟩ (oj_run TT rfl ?_)
    refine oj_ldAs 0 (off:=(U.length+1)*6) TT (vdCells y) rfl rfl rfl rfl rfl (had _ _ (by omega)) rfl rfl rfl rfl rfl (fun q c hc=>vdXs_get hgy q c hc) (vdCells_lt 0 y) (oj_run TT rfl ?_)
    refine oj_indexAddr TT rfl rfl rfl rfl rfl rfl rfl rfl rfl ⟨by omega,by omega⟩ (oj_run TT rfl ?_)
    refine oj_ldAs 0 (off:=U.length*6) TT (vdCells x) rfl rfl rfl rfl rfl (had _ _ (by omega)) rfl rfl rfl rfl rfl (fun q c hc=>vdXs_get hgx q c hc) (vdCells_lt 0 x) (oj_run TT rfl ?_)
    refine oj_indexAddr TT rfl rfl rfl rfl rfl rfl rfl rfl rfl ⟨by omega,by omega⟩ (oj_run TT rfl ?_)
    refine oj_stAs 0 (off:=U.length*6) (cs:=vdCells y) (A':=[vdE (some ⟨gb,0,none⟩) n cap ((U++x::y::R).set U.length y)]) TT rfl rfl rfl rfl (had _ _ (by omega)) rfl rfl rfl rfl rfl (by show U.length*6+6<=n*6;omega) (vdCells_lt 0 y) rfl ?_ (oj_run TT rfl ?_)
    · show [_]=[_]
      unfold vdE
      rw [<-vdXs_set y (by omega)]
    refine oj_indexAddr TT rfl rfl rfl rfl rfl rfl rfl rfl rfl ⟨by omega,by omega⟩ (oj_run TT rfl ?_)
    refine oj_stAs 0 (off:=(U.length+1)*6) (cs:=vdCells x) (A':=[vdE (some ⟨gb,0,none⟩) n cap (((U++x::y::R).set U.length y).set (U.length+1) x)]) TT rfl rfl rfl rfl (had _ _ (by omega)) rfl rfl rfl rfl rfl (by show (U.length+1)*6+6<=n*6;omega) (vdCells_lt 0 x) rfl ?_ (oj_run TT rfl ?_)
    · show [_]=[_]
      unfold vdE
      rw [<-vdXs_set x (by rw [List.length_set];omega)]
    rw [swap_mid2]
    (repeat (first | refine cjr TT rfl ?_ | refine oj_nil ?_ | refine nj_then ?_ | refine nj_block ?_ | (refine oj_add rfl rfl rfl rfl rfl rfl (by omega) ?_;refine oj_run TT rfl ?_)))
    refine nj_again (u+1) (by omega) (by omega) rfl ?_ (by (repeat first | exact trivial | refine ⟨rfl,?_⟩)) ?_ ⟨trivial,trivial,trivial,trivial⟩ trivial
    · refine ⟨rfl,rfl,?_,trivial⟩
      exact congrArg (fun z=>some (SV.a (AT.v (Value.int .i64 z)))) (show ((P.length+u:Nat):Int)+1=((P.length+(u+1):Nat):Int) by omega)
    · show [_]=[_]
      rw [hRd,<-hw2]
  have hA1:A.length≠1:=by
    have:=of_decide_eq_false (show decide ((m':Int) - P.length=1)=false from h)
    omega
  (repeat (first | refine cj_seq ?_ | refine cjr TT rfl ?_ | refine oj_then ?_ | refine cj_skip ?_ | refine nj_then ?_ | (refine oj_minus rfl rfl rfl rfl rfl rfl (by omega) ?_;refine oj_run TT rfl ?_)))
  refine cj_if rfl (fun h=>?_) (fun h=>?_)
  · have h:(b':Int) - m'=1:=of_decide_eq_true h
    obtain ⟨y,rfl⟩:∃ y,B=[y]:=by
      match B,hB0,(show B.length=1 by omega) with
      | [y],_,_=>exact ⟨y,rfl⟩
    have oky:=okB y (List.mem_singleton.2 rfl)
    have hm:m'=P.length+A.length:=by omega
    have hn:P.length+A.length+1+S.length=n:=hn
    subst hm
    (repeat (first | refine cj_seq ?_ | refine cjr TT rfl ?_ | refine oj_then ?_ | refine cj_block ?_))
    refine cj_cutB (fun _=>σ) (fun (t:Nat)=>[(0,.a (.v (.slice (some ⟨gb,0,none⟩) n cap))),(2,.a (.v (.int .i64 ((P.length+A.length:Nat):Int)))),(14,.a (.v (.int .i64 ((P.length+t:Nat):Int))))]) (fun _=>[]) (fun _=>[vdE (some ⟨gb,0,none⟩) n cap (P++(A++([y]++S)))]) 0 (fun t=>t<=A.length/\(∀ z∈A.take t,vdLt y z=false)/\∀ z∈A.drop t,vdLt y z=true) ?_ (fun t ⟨ht,h1,h2⟩=>?_)
    · refine cj_loop (fun (_:H2S)=>σ) (fun t=>[(0,.a (.v (.slice (some ⟨gb,0,none⟩) n cap))),(2,.a (.v (.int .i64 ((P.length+A.length:Nat):Int)))),(4,.a (.fn (.func 124) [])),(14,.a (.v (.int .i64 ((P.length+t.lo:Nat):Int)))),(15,.a (.v (.int .i64 ((P.length+t.hi:Nat):Int))))]) (fun _=>[]) (fun _=>[vdE (some ⟨gb,0,none⟩) n cap (P++(A++([y]++S)))]) 0
        (fun t=>t.lo<=t.hi/\t.hi<=A.length/\(∀ z∈A.take t.lo,vdLt y z=false)/\∀ z∈A.drop t.hi,vdLt y z=true) (fun t=>t.hi - t.lo) ⟨0,A.length⟩ ⟨Nat.zero_le _,Nat.le_refl _,fun z hz=>(by cases hz),fun z hz=>(by rw [List.drop_length] at hz;cases hz)⟩ rfl (by (repeat first | exact trivial | refine ⟨rfl,?_⟩)) (by (repeat first | exact trivial | refine ⟨rfl,?_⟩)) rfl ⟨trivial,trivial,fn124_lt 0,trivial,trivial,trivial⟩ trivial fun ⟨lo,hi⟩ ⟨hlh,hhl,hlo,hhi⟩=>?_
      dsimp only at hlh hhl hlo hhi ⊢
      (repeat (first | refine cj_seq ?_ | refine cjr TT rfl ?_ | refine oj_then ?_))
      refine cj_if rfl (fun h=>?_) (fun h=>?_)
      rotate_left
      · have h0:lo=hi:=by have:=of_decide_eq_false h;omega
        subst h0
        (repeat (first | refine cj_exit ?_ | refine nj_then_exit ?_ | refine nj_block_out ?_))
        refine nj_again lo ⟨hhl,hlo,hhi⟩ Nat.zero_lt_one rfl (by (repeat first | exact trivial | refine ⟨rfl,?_⟩)) (by (repeat first | exact trivial | refine ⟨rfl,?_⟩)) rfl ⟨trivial,trivial,trivial,trivial⟩ trivial
      have h0:lo<hi:=by have:=of_decide_eq_true h;omega
      have hq:(lo+hi) / 2<A.length:=by omega
      have hz:=List.getElem?_eq_getElem hq
      have okz:=okA _ (List.getElem_mem hq)
      have hmid:Value.int .i64 (IntKind.i64.wrap (bShr .u64 (IntKind.u64.wrap (((P.length+lo:Nat):Int)+((P.length+hi:Nat):Int))) 1))=Value.int .i64 ((P.length+(lo+hi) / 2:Nat):Int):=by
        rw [hmidV _ _ (by omega)]
        exact congrArg (fun z:Nat=>Value.int .i64 (z:Int)) (by omega)
      have hq1:lo<=(lo+hi) / 2:=by omega
      have hq2:(lo+hi) / 2<hi:=by omega
      generalize A[(lo+hi) / 2]=z at *
      generalize (lo+hi) / 2=q at *
      have hgz:(P++(A++([y]++S)))[P.length+q]?=some z:=by
        rw [List.getElem?_append_right (by omega),show P.length+q - P.length=q by omega,List.getElem?_append_left hq]
        exact hz
      have hgy:(P++(A++([y]++S)))[P.length+A.length]?=some y:=by
        rw [List.getElem?_append_right (by omega),show P.length+A.length - P.length=A.length by omega]
        exact get_mid A S y
      (repeat (first | refine cj_seq ?_ | refine cjr TT rfl ?_ | refine oj_then ?_ | refine cj_skip ?_ | refine cj_block ?_ | refine nj_then ?_ | (refine oj_conv TT _ rfl rfl rfl rfl rfl rfl rfl rfl rfl ?_;refine oj_run TT rfl ?_) | (refine oj_bshr rfl rfl rfl rfl rfl rfl (by decide) ?_;refine oj_run TT rfl ?_) | (refine oj_add rfl rfl rfl rfl rfl rfl (by omega) ?_;refine oj_run TT rfl ?_)))
      refine cj_set 91 (.a (.v (.int .i64 ((P.length+q:Nat):Int)))) rfl trivial (fun _=>hmid) ?_
      refine cj_set 16 (.a (.v (.int .i64 ((P.length+q:Nat):Int)))) rfl trivial (fun _=>hmid) ?_
      refine cj_draw [(0,.pure),(1,.pure),(2,.pure),(3,.pure),(4,.quiet),(5,.pure),(6,.pure),(7,.pure),(8,.quiet),(9,.keep),(10,.pure),(11,.pure)] mixed (by kernel_rfl) (oj_run TT rfl ?_)
      refine oj_run TT rfl ?_
      refine oj_indexAddr TT rfl rfl rfl rfl rfl rfl rfl rfl rfl ⟨by omega,by omega⟩ (oj_run TT rfl ?_)
      refine oj_ldAs 0 (off:=(P.length+A.length)*6) TT (vdCells y) rfl rfl rfl rfl rfl (had _ _ rfl) rfl rfl rfl rfl rfl (fun j c hc=>vdXs_get hgy j c hc) (vdCells_lt 0 y) (oj_run TT rfl ?_)
      refine oj_indexAddr TT rfl rfl rfl rfl rfl rfl rfl rfl rfl ⟨by omega,by omega⟩ (oj_run TT rfl ?_)
      refine oj_ldAs 0 (off:=(P.length+q)*6) TT (vdCells z) rfl rfl rfl rfl rfl (had _ _ rfl) rfl rfl rfl rfl rfl (fun j c hc=>vdXs_get hgz j c hc) (vdCells_lt 0 z) (oj_run TT rfl ?_)
      refine oj_callP (ys:=[.agg (vdCells y),.agg (vdCells z)]) rfl rfl rfl rfl rfl Tryz.call124 ⟨vdCells_lt 0 y,vdCells_lt 0 z,trivial⟩ (vdCmp_c σ y z oky okz) fun v hv=>⟨.a (.v (.int .i64 (Lib.compareBytes y.z z.z))),trivial,hv.symm,?_⟩
      refine oj_run TT rfl ?_
      (repeat refine oj_then ?_)
      refine cj_if rfl (fun h=>?_) (fun h=>?_)
      · have h:(!vdLt y z)=true:=h
        have h:vdLt y z=false:=by simpa using h
        (repeat (first | refine cjr TT rfl ?_ | refine oj_nil ?_ | refine nj_block ?_ | (refine oj_add rfl rfl rfl rfl rfl rfl (by omega) ?_;refine oj_run TT rfl ?_)))
        refine nj_again (⟨q+1,hi⟩:H2S) ⟨hq2,hhl,fun x hx=>by
          obtain ⟨i,hi',ex⟩:=mem_take_get hx
          have hi':i<q+1:=hi'
          exact vdSWO.tr _ _ _ (hA.le vdSWO ex hz (by omega)) h,hhi⟩ (by dsimp only;omega) rfl ?_ (by (repeat first | exact trivial | refine ⟨rfl,?_⟩)) rfl ⟨trivial,trivial,fn124_lt 0,trivial,trivial,trivial⟩ trivial
        refine ⟨rfl,rfl,rfl,?_,rfl,trivial⟩
        exact congrArg (fun z=>some (SV.a (AT.v (Value.int .i64 z)))) (show ((P.length+q:Nat):Int)+1=((P.length+(q+1):Nat):Int) by omega)
      · have h:(!vdLt y z)=false:=h
        have h:vdLt y z=true:=by simpa using h
        (repeat (first | refine cjr TT rfl ?_ | refine oj_nil ?_ | refine nj_block ?_))
        refine nj_again (⟨lo,q⟩:H2S) ⟨hq1,by dsimp only;omega,hlo,fun x hx=>by
          obtain ⟨i,hi',ex⟩:=mem_drop_get hx
          exact vdSWO.lt_le h (hA.le vdSWO hz ex hi')⟩ (by dsimp only;omega) rfl (by (repeat first | exact trivial | refine ⟨rfl,?_⟩)) (by (repeat first | exact trivial | refine ⟨rfl,?_⟩)) rfl ⟨trivial,trivial,fn124_lt 0,trivial,trivial,trivial⟩ trivial
    (repeat (first | refine cj_seq ?_ | refine cjr TT rfl ?_ | refine oj_then ?_ | refine cj_block ?_))
    refine cj_loop (fun (_:Nat)=>σ) (fun u=>[(0,.a (.v (.slice (some ⟨gb,0,none⟩) n cap))),(14,.a (.v (.int .i64 ((P.length+t:Nat):Int)))),(17,.a (.v (.int .i64 ((P.length+u:Nat):Int))))]) (fun _=>[]) (fun u=>[vdE (some ⟨gb,0,none⟩) n cap (P++(A.take u++(y::(A.drop u++S))))]) 0
      (fun u=>t<=u/\u<=A.length) (fun u=>u) A.length ⟨ht,Nat.le_refl _⟩ rfl (by (repeat first | exact trivial | refine ⟨rfl,?_⟩)) (by (repeat first | exact trivial | refine ⟨rfl,?_⟩)) ?_ ⟨trivial,trivial,trivial,trivial⟩ trivial fun u ⟨hu,hul⟩=>?_
    · show [_]=[_]
      rw [List.take_length,List.drop_length]
      rfl
    (repeat (first | refine cj_seq ?_ | refine cjr TT rfl ?_ | refine oj_then ?_))
    refine cj_if rfl (fun h=>?_) (fun h=>?_)
    rotate_left
    · have h0:u=t:=by
        have:=of_decide_eq_false (show decide (((P.length+u:Nat):Int) > ((P.length+t:Nat):Int))=false from h)
        omega
      subst h0
      (repeat (first | refine cj_exit ?_ | refine cj_ret ?_ | refine nj_then ?_ | refine nj_then_exit ?_ | refine nj_then_ret ?_ | refine nj_block_out ?_))
      refine nj_fret TT rfl fun β w' _ _=>?_
      refine ⟨rfl,A.take u++y::A.drop u,(Stab.refl hA).ins vdSWO h2 h1,?_,?_⟩
      · rw [List.length_append,List.length_cons,List.length_take,List.length_drop,List.length_singleton]
        omega
      · show [_]=[_]
        simp only [List.append_assoc,List.cons_append]
    have hut:t<u:=by
      have:=of_decide_eq_true (show decide (((P.length+u:Nat):Int) > ((P.length+t:Nat):Int))=true from h)
      omega
    obtain ⟨q,rfl⟩:∃ q,u=q+1:=⟨u - 1,by omega⟩
    have htq:A.take (q+1)=A.take q++[A[q]]:=List.take_succ_eq_append_getElem (by omega)
    have hdq:A.drop q=A[q]::A.drop (q+1):=List.drop_eq_getElem_cons (by omega)
    generalize A[q]=z at *
    have hw1:P++(A.take (q+1)++(y::(A.drop (q+1)++S)))=(P++A.take q)++z::y::(A.drop (q+1)++S):=by
      rw [htq]
      simp only [List.append_assoc,List.cons_append,List.nil_append]
    have hw2:(P++A.take q)++y::z::(A.drop (q+1)++S)=P++(A.take q++(y::(A.drop q++S))):=by
      rw [hdq]
      simp only [List.append_assoc,List.cons_append]
    have hU:(P++A.take q).length=P.length+q:=by rw [List.length_append,List.length_take];omega
    have hW:(A.drop (q+1)++S).length+q+1=A.length+S.length:=by rw [List.length_append,List.length_drop];omega
    rw [hw1]
    generalize P++A.take q=U at *
    generalize A.drop (q+1)++S=R at *
    have hlw:(U++z::y::R).length=n:=by
      simp only [List.length_append,List.length_cons]
      omega
    have hgy:=get_mid1 U R z y
    have hgz:=get_mid U (y::R) z
    (repeat (first | refine cj_seq ?_ | refine cj_skip ?_ | refine cj_block ?_ | refine nj_then ?_))
    refine cj_draw [(0,.pure),(1,.pure),(2,.pure),(3,.pure),(4,.pure),(5,.pure),(6,.pure),(7,.pure),(8,.pure),(9,.quiet),(10,.pure),(11,.pure),(12,.pure),(13,.quiet),(14,.pure),(15,.sink),(16,.pure),(17,.sink)] mixed (by kernel_rfl) (oj_run TT rfl ?_)
    refine oj_run TT rfl ?_
    refine oj_minus rfl rfl rfl rfl rfl rfl (by omega) (oj_run TT rfl ?_)
    refine oj_minus rfl rfl rfl rfl rfl rfl (by omega) (oj_run TT rfl ?_)
    refine oj_indexAddr TT rfl rfl rfl rfl rfl rfl rfl rfl rfl ⟨by omega,by omega⟩ (oj_run TT rfl ?_)
    refine oj_ldAs 0 (off:=U.length*6) TT (vdCells z) rfl rfl rfl rfl rfl (had _ _ (by omega)) rfl rfl rfl rfl rfl (fun q c hc=>vdXs_get hgz q c hc) (vdCells_lt 0 z) (oj_run TT rfl ?_)
    refine oj_indexAddr TT rfl rfl rfl rfl rfl rfl rfl rfl rfl ⟨by omega,by omega⟩ (oj_run TT rfl ?_)
    refine oj_ldAs 0 (off:=(U.length+1)*6) TT (vdCells y) rfl rfl rfl rfl rfl (had _ _ (by omega)) rfl rfl rfl rfl rfl (fun q c hc=>vdXs_get hgy q c hc) (vdCells_lt 0 y) (oj_run TT rfl ?_)
    refine oj_indexAddr TT rfl rfl rfl rfl rfl rfl rfl rfl rfl ⟨by omega,by omega⟩ (oj_run TT rfl ?_)
    refine oj_stAs 0 (off:=(U.length+1)*6) (cs:=vdCells z) (A':=[vdE (some ⟨gb,0,none⟩) n cap ((U++z::y::R).set (U.length+1) z)]) TT rfl rfl rfl rfl (had _ _ (by omega)) rfl rfl rfl rfl rfl (by show (U.length+1)*6+6<=n*6;omega) (vdCells_lt 0 z) rfl ?_ (oj_run TT rfl ?_)
    · show [_]=[_]
      unfold vdE
      rw [<-vdXs_set z (by omega)]
    refine oj_indexAddr TT rfl rfl rfl rfl rfl rfl rfl rfl rfl ⟨by omega,by omega⟩ (oj_run TT rfl ?_)
    refine oj_stAs 0 (off:=U.length*6) (cs:=vdCells y) (A':=[vdE (some ⟨gb,0,none⟩) n cap (((U++z::y::R).set (U.length+1) z).set U.length y)]) TT rfl rfl rfl rfl (had _ _ (by omega)) rfl rfl rfl rfl rfl (by show U.length*6+6<=n*6;omega) (vdCells_lt 0 y) rfl ?_ (oj_run TT rfl ?_)
    · show [_]=[_]
      unfold vdE
      rw [<-vdXs_set y (by rw [List.length_set];omega)]
    rw [swap_mid]
    (repeat (first | refine cjr TT rfl ?_ | refine oj_nil ?_ | refine nj_then ?_ | refine nj_block ?_ | (refine oj_minus rfl rfl rfl rfl rfl rfl (by omega) ?_;refine oj_run TT rfl ?_)))
    refine nj_again q ⟨by omega,by omega⟩ (by omega) rfl ?_ (by (repeat first | exact trivial | refine ⟨rfl,?_⟩)) ?_ ⟨trivial,trivial,trivial,trivial⟩ trivial
    · refine ⟨rfl,rfl,?_,trivial⟩
      exact congrArg (fun z=>some (SV.a (AT.v (Value.int .i64 z)))) (show ((P.length+(q+1):Nat):Int) - 1=((P.length+q:Nat):Int) by omega)
    · show [_]=[_]
      rw [<-hw2]
  have hB1:B.length≠1:=by
    have:=of_decide_eq_false (show decide ((b':Int) - m'=1)=false from h)
    omega
  have hmidE:Value.int .i64 (IntKind.i64.wrap (bShr .u64 (IntKind.u64.wrap ((P.length:Int)+(b':Nat))) 1))=Value.int .i64 ((P.length+(A.length+B.length) / 2:Nat):Int):=by
    rw [hmidV _ _ (by omega)]
    exact congrArg (fun z:Nat=>Value.int .i64 (z:Int)) (by omega)
  have hmdl:(A.length+B.length) / 2<A.length+B.length:=by omega
  have hmd1:2*((A.length+B.length) / 2)<=A.length+B.length/\A.length+B.length<=2*((A.length+B.length) / 2)+1:=by omega
  generalize (A.length+B.length) / 2=md at *
  (repeat (first | refine cj_seq ?_ | refine cjr TT rfl ?_ | refine oj_then ?_ | refine cj_skip ?_ | refine nj_then ?_ | (refine oj_conv TT _ rfl rfl rfl rfl rfl rfl rfl rfl rfl ?_;refine oj_run TT rfl ?_) | (refine oj_bshr rfl rfl rfl rfl rfl rfl (by decide) ?_;refine oj_run TT rfl ?_) | (refine oj_add rfl rfl rfl rfl rfl rfl (by omega) ?_;refine oj_run TT rfl ?_)))
  refine oj_set 135 (.a (.v (.int .i64 ((P.length+md:Nat):Int)))) rfl trivial (fun _=>hmidE) ?_
  refine oj_set 18 (.a (.v (.int .i64 ((P.length+md:Nat):Int)))) rfl trivial (fun _=>hmidE) ?_
  refine oj_run TT rfl ?_
  refine oj_add rfl rfl rfl rfl rfl rfl (by omega) (oj_run TT rfl ?_)
  (repeat (first | refine cj_seq ?_ | refine cjr TT rfl ?_ | refine oj_then ?_))
  refine cj_cutN (fun (_:H2S)=>σ) (fun t=>[(0,.a (.v (.slice (some ⟨gb,0,none⟩) n cap))),(1,.a (.v (.int .i64 P.length))),(2,.a (.v (.int .i64 (m':Nat)))),(3,.a (.v (.int .i64 (b':Nat)))),(4,.a (.fn (.func 124) [])),(18,.a (.v (.int .i64 ((P.length+md:Nat):Int)))),(19,.a (.v (.int .i64 (((P.length+md:Nat):Int)+(m':Nat))))),(20,.a (.v (.int .i64 ((P.length+t.lo:Nat):Int)))),(21,.a (.v (.int .i64 ((P.length+t.hi:Nat):Int))))]) (fun _=>[]) (fun _=>[vdE (some ⟨gb,0,none⟩) n cap (P++(A++(B++S)))]) 0
    (fun t=>t.lo<=t.hi/\t.hi<=A.length/\t.hi<=md/\md<=B.length+t.lo/\(t.lo=0\/md=B.length+t.lo)/\(t.hi=md\/t.hi=A.length)) ?_ (fun ⟨l0,r0⟩ ⟨i1,i2,i3,i4,i5,i6⟩=>?_)
  · refine cj_if rfl (fun h=>?_) (fun h=>?_)
    · have h:=of_decide_eq_true h
      (repeat (first | refine cj_seq ?_ | refine cjr TT rfl ?_ | refine oj_then ?_ | refine oj_nil ?_ | (refine oj_minus rfl rfl rfl rfl rfl rfl (by omega) ?_;refine oj_run TT rfl ?_)))
      refine nj_again (⟨md - B.length,md⟩:H2S) ⟨by dsimp only;omega,by dsimp only;omega,by dsimp only;omega,by dsimp only;omega,.inr (by dsimp only;omega),.inl rfl⟩ Nat.zero_lt_one rfl ?_ (by (repeat first | exact trivial | refine ⟨rfl,?_⟩)) rfl ⟨trivial,trivial,trivial,trivial,fn124_lt 0,trivial,trivial,trivial,trivial,trivial⟩ trivial
      refine ⟨rfl,rfl,rfl,rfl,rfl,rfl,rfl,?_,rfl,trivial⟩
      exact congrArg (fun z=>some (SV.a (AT.v (Value.int .i64 z)))) (show ((P.length+md:Nat):Int)+m' - b'=((P.length+(md - B.length):Nat):Int) by omega)
    · have h:=of_decide_eq_false h
      (repeat (first | refine cj_seq ?_ | refine cjr TT rfl ?_ | refine oj_then ?_ | refine oj_nil ?_))
      refine nj_again (⟨0,A.length⟩:H2S) ⟨Nat.zero_le _,Nat.le_refl _,by dsimp only;omega,by dsimp only;omega,.inl rfl,.inr rfl⟩ Nat.zero_lt_one rfl ?_ (by (repeat first | exact trivial | refine ⟨rfl,?_⟩)) rfl ⟨trivial,trivial,trivial,trivial,fn124_lt 0,trivial,trivial,trivial,trivial,trivial⟩ trivial
      refine ⟨rfl,rfl,rfl,rfl,rfl,rfl,rfl,rfl,?_,trivial⟩
      exact congrArg (fun z=>some (SV.a (AT.v (Value.int .i64 z)))) (show (m':Int)=((P.length+A.length:Nat):Int) by omega)
  dsimp only at i1 i2 i3 i4 i5 i6 ⊢
  (repeat (first | refine cj_seq ?_ | refine cjr TT rfl ?_ | refine oj_then ?_ | refine cj_block ?_ | (refine oj_minus rfl rfl rfl rfl rfl rfl (by omega) ?_;refine oj_run TT rfl ?_)))
  refine cj_cutB (fun _=>σ) (fun (s:Nat)=>[(0,.a (.v (.slice (some ⟨gb,0,none⟩) n cap))),(1,.a (.v (.int .i64 P.length))),(2,.a (.v (.int .i64 (m':Nat)))),(3,.a (.v (.int .i64 (b':Nat)))),(4,.a (.fn (.func 124) [])),(18,.a (.v (.int .i64 ((P.length+md:Nat):Int)))),(19,.a (.v (.int .i64 (((P.length+md:Nat):Int)+(m':Nat))))),(20,.a (.v (.int .i64 ((P.length+s:Nat):Int))))]) (fun _=>[]) (fun _=>[vdE (some ⟨gb,0,none⟩) n cap (P++(A++(B++S)))]) 0
    (fun s=>s<=A.length/\s<=md/\md<=B.length+s/\(s=0\/B.length<=md - s\/∃ x y,A[s - 1]?=some x/\B[md - s]?=some y/\vdLt y x=false)/\(md - s=0\/A.length<=s\/∃ x y,A[s]?=some x/\B[md - s - 1]?=some y/\vdLt y x=true)) ?_ (fun s ⟨k1,k2,k3,k4,k5⟩=>?_)
  · refine cj_loop (fun (_:H2S)=>σ) (fun t=>[(0,.a (.v (.slice (some ⟨gb,0,none⟩) n cap))),(1,.a (.v (.int .i64 P.length))),(2,.a (.v (.int .i64 (m':Nat)))),(3,.a (.v (.int .i64 (b':Nat)))),(4,.a (.fn (.func 124) [])),(18,.a (.v (.int .i64 ((P.length+md:Nat):Int)))),(19,.a (.v (.int .i64 (((P.length+md:Nat):Int)+(m':Nat))))),(20,.a (.v (.int .i64 ((P.length+t.lo:Nat):Int)))),(21,.a (.v (.int .i64 ((P.length+t.hi:Nat):Int)))),(22,.a (.v (.int .i64 (((P.length+md:Nat):Int)+(m':Nat) - 1))))]) (fun _=>[]) (fun _=>[vdE (some ⟨gb,0,none⟩) n cap (P++(A++(B++S)))]) 0
      (fun t=>l0<=t.lo/\t.lo<=t.hi/\t.hi<=r0/\(t.lo=l0\/∃ x y,A[t.lo - 1]?=some x/\B[md - t.lo]?=some y/\vdLt y x=false)/\(t.hi=r0\/∃ x y,A[t.hi]?=some x/\B[md - t.hi - 1]?=some y/\vdLt y x=true)) (fun t=>t.hi - t.lo) ⟨l0,r0⟩ ⟨Nat.le_refl _,i1,Nat.le_refl _,.inl rfl,.inl rfl⟩ rfl (by (repeat first | exact trivial | refine ⟨rfl,?_⟩)) (by (repeat first | exact trivial | refine ⟨rfl,?_⟩)) rfl ⟨trivial,trivial,trivial,trivial,fn124_lt 0,trivial,trivial,trivial,trivial,trivial,trivial⟩ trivial fun ⟨lo,hi⟩ ⟨j1,j2,j3,j4,j5⟩=>?_
    dsimp only at j1 j2 j3 j4 j5 ⊢
    (repeat (first | refine cj_seq ?_ | refine cjr TT rfl ?_ | refine oj_then ?_))
    refine cj_if rfl (fun h=>?_) (fun h=>?_)
    rotate_left
    · have h0:lo=hi:=by have:=of_decide_eq_false h;omega
      subst h0
      (repeat (first | refine cj_exit ?_ | refine nj_then_exit ?_ | refine nj_block_out ?_))
      refine nj_again lo ⟨by omega,by omega,by omega,?_,?_⟩ Nat.zero_lt_one rfl (by (repeat first | exact trivial | refine ⟨rfl,?_⟩)) (by (repeat first | exact trivial | refine ⟨rfl,?_⟩)) rfl ⟨trivial,trivial,trivial,trivial,fn124_lt 0,trivial,trivial,trivial,trivial⟩ trivial
      · rcases j4 with j4 | j4
        · rcases i5 with i5 | i5
          · exact .inl (by omega)
          · exact .inr (.inl (by omega))
        · exact .inr (.inr j4)
      · rcases j5 with j5 | j5
        · rcases i6 with i6 | i6
          · exact .inl (by omega)
          · exact .inr (.inl (by omega))
        · exact .inr (.inr j5)
    have h0:lo<hi:=by have:=of_decide_eq_true h;omega
    have hmid:Value.int .i64 (IntKind.i64.wrap (bShr .u64 (IntKind.u64.wrap (((P.length+lo:Nat):Int)+((P.length+hi:Nat):Int))) 1))=Value.int .i64 ((P.length+(lo+hi) / 2:Nat):Int):=by
      rw [hmidV _ _ (by omega)]
      exact congrArg (fun z:Nat=>Value.int .i64 (z:Int)) (by omega)
    have hq1:lo<=(lo+hi) / 2:=by omega
    have hq2:(lo+hi) / 2<hi:=by omega
    generalize (lo+hi) / 2=q at *
    have hqa:q<A.length:=by omega
    have hqb:md - q - 1<B.length:=by omega
    have hqm:q<md:=by omega
    have hx:=List.getElem?_eq_getElem hqa
    have hy:=List.getElem?_eq_getElem hqb
    have okx:=okA _ (List.getElem_mem hqa)
    have oky:=okB _ (List.getElem_mem hqb)
    generalize A[q]=x at *
    generalize B[md - q - 1]=y at *
    have hgx:(P++(A++(B++S)))[P.length+q]?=some x:=by
      rw [List.getElem?_append_right (by omega),show P.length+q - P.length=q by omega,List.getElem?_append_left hqa]
      exact hx
    have hgy:(P++(A++(B++S)))[P.length+(A.length+(md - q - 1))]?=some y:=by
      rw [List.getElem?_append_right (by omega),show P.length+(A.length+(md - q - 1)) - P.length=A.length+(md - q - 1) by omega,List.getElem?_append_right (by omega),show A.length+(md - q - 1) - A.length=md - q - 1 by omega,List.getElem?_append_left hqb]
      exact hy
    (repeat (first | refine cj_seq ?_ | refine cjr TT rfl ?_ | refine oj_then ?_ | refine cj_skip ?_ | refine cj_block ?_ | refine nj_then ?_ | (refine oj_conv TT _ rfl rfl rfl rfl rfl rfl rfl rfl rfl ?_;refine oj_run TT rfl ?_) | (refine oj_bshr rfl rfl rfl rfl rfl rfl (by decide) ?_;refine oj_run TT rfl ?_) | (refine oj_add rfl rfl rfl rfl rfl rfl (by omega) ?_;refine oj_run TT rfl ?_)))
    refine cj_set 157 (.a (.v (.int .i64 ((P.length+q:Nat):Int)))) rfl trivial (fun _=>hmid) ?_
    refine cj_set 23 (.a (.v (.int .i64 ((P.length+q:Nat):Int)))) rfl trivial (fun _=>hmid) ?_
    refine cj_draw [(0,.pure),(1,.pure),(2,.pure),(3,.pure),(4,.pure),(5,.pure),(6,.quiet),(7,.pure),(8,.pure),(9,.pure),(10,.quiet),(11,.keep),(12,.pure),(13,.pure)] mixed (by kernel_rfl) (oj_run TT rfl ?_)
    refine oj_run TT rfl ?_
    refine oj_minus rfl rfl rfl rfl rfl rfl (by omega) (oj_run TT rfl ?_)
    refine oj_indexAddr TT rfl rfl rfl rfl rfl rfl rfl rfl rfl ⟨by omega,by omega⟩ (oj_run TT rfl ?_)
    refine oj_ldAs 0 (off:=(P.length+(A.length+(md - q - 1)))*6) TT (vdCells y) rfl rfl rfl rfl rfl (had _ _ (by omega)) rfl rfl rfl rfl rfl (fun j c hc=>vdXs_get hgy j c hc) (vdCells_lt 0 y) (oj_run TT rfl ?_)
    refine oj_indexAddr TT rfl rfl rfl rfl rfl rfl rfl rfl rfl ⟨by omega,by omega⟩ (oj_run TT rfl ?_)
    refine oj_ldAs 0 (off:=(P.length+q)*6) TT (vdCells x) rfl rfl rfl rfl rfl (had _ _ rfl) rfl rfl rfl rfl rfl (fun j c hc=>vdXs_get hgx j c hc) (vdCells_lt 0 x) (oj_run TT rfl ?_)
    refine oj_callP (ys:=[.agg (vdCells y),.agg (vdCells x)]) rfl rfl rfl rfl rfl Tryz.call124 ⟨vdCells_lt 0 y,vdCells_lt 0 x,trivial⟩ (vdCmp_c σ y x oky okx) fun v hv=>⟨.a (.v (.int .i64 (Lib.compareBytes y.z x.z))),trivial,hv.symm,?_⟩
    refine oj_run TT rfl ?_
    (repeat refine oj_then ?_)
    refine cj_if rfl (fun h=>?_) (fun h=>?_)
    · have h:(!vdLt y x)=true:=h
      have h:vdLt y x=false:=by simpa using h
      (repeat (first | refine cjr TT rfl ?_ | refine oj_nil ?_ | refine nj_block ?_ | (refine oj_add rfl rfl rfl rfl rfl rfl (by omega) ?_;refine oj_run TT rfl ?_)))
      refine nj_again (⟨q+1,hi⟩:H2S) ⟨by dsimp only;omega,hq2,j3,.inr ⟨x,y,hx,by rw [<-hy,Nat.sub_sub],h⟩,j5⟩ (by dsimp only;omega) rfl ?_ (by (repeat first | exact trivial | refine ⟨rfl,?_⟩)) rfl ⟨trivial,trivial,trivial,trivial,fn124_lt 0,trivial,trivial,trivial,trivial,trivial,trivial⟩ trivial
      refine ⟨rfl,rfl,rfl,rfl,rfl,rfl,rfl,?_,rfl,rfl,trivial⟩
      exact congrArg (fun z=>some (SV.a (AT.v (Value.int .i64 z)))) (show ((P.length+q:Nat):Int)+1=((P.length+(q+1):Nat):Int) by omega)
    · have h:(!vdLt y x)=false:=h
      have h:vdLt y x=true:=by simpa using h
      (repeat (first | refine cjr TT rfl ?_ | refine oj_nil ?_ | refine nj_block ?_))
      refine nj_again (⟨lo,q⟩:H2S) ⟨j1,hq1,by dsimp only;omega,j4,.inr ⟨x,y,hx,hy,h⟩⟩ (by dsimp only;omega) rfl (by (repeat first | exact trivial | refine ⟨rfl,?_⟩)) (by (repeat first | exact trivial | refine ⟨rfl,?_⟩)) rfl ⟨trivial,trivial,trivial,trivial,fn124_lt 0,trivial,trivial,trivial,trivial,trivial,trivial⟩ trivial
  have e1:(A.take s).length=s:=by rw [List.length_take];omega
  have e2:(A.drop s).length=A.length - s:=List.length_drop
  have e3:(B.take (md - s)).length=md - s:=by rw [List.length_take];omega
  have e4:(B.drop (md - s)).length=B.length - (md - s):=List.length_drop
  have hhalf:=fun S1 S2=>Stab.half (S1:=S1) (S2:=S2) vdSWO hA hB k4 k5
  have eA:A=A.take s++A.drop s:=(List.take_append_drop _ _).symm
  have eB:B=B.take (md - s)++B.drop (md - s):=(List.take_append_drop _ _).symm
  have sA1:Srt vdLt (A.take s):=hA.sublist (List.take_sublist _ _)
  have sA2:Srt vdLt (A.drop s):=hA.sublist (List.drop_sublist _ _)
  have sB1:Srt vdLt (B.take (md - s)):=hB.sublist (List.take_sublist _ _)
  have sB2:Srt vdLt (B.drop (md - s)):=hB.sublist (List.drop_sublist _ _)
  have oA1:∀ v∈A.take s,VdOk σ v:=fun v hv=>okA v (List.mem_of_mem_take hv)
  have oA2:∀ v∈A.drop s,VdOk σ v:=fun v hv=>okA v (List.mem_of_mem_drop hv)
  have oB1:∀ v∈B.take (md - s),VdOk σ v:=fun v hv=>okB v (List.mem_of_mem_take hv)
  have oB2:∀ v∈B.drop (md - s),VdOk σ v:=fun v hv=>okB v (List.mem_of_mem_drop hv)
  have ew:P++(A++(B++S))=(P++A.take s)++(A.drop s++(B.take (md - s)++(B.drop (md - s)++S))):=by
    conv=>lhs;rw [eA,eB]
    simp only [List.append_assoc]
  rw [ew]
  generalize A.take s=A1 at *
  generalize A.drop s=A2 at *
  generalize B.take (md - s)=B1 at *
  generalize B.drop (md - s)=B2 at *
  have hend:((P.length+md:Nat):Int)+m' - ((P.length+s:Nat):Int)=((P.length+A.length+(md - s):Nat):Int):=by omega
  refine cj_seq ?_
  refine cjr TT rfl ?_
  refine oj_minus rfl rfl rfl rfl rfl rfl (by omega) (oj_run TT rfl ?_)
  refine oj_then ?_
  refine cj_set 24 (.a (.v (.int .i64 ((P.length+A.length+(md - s):Nat):Int)))) rfl trivial (fun _=>congrArg (Value.int .i64) hend) ?_
  have nA2:A2.length=0->A2=[]:=List.eq_nil_of_length_eq_zero
  have nB1:B1.length=0->B1=[]:=List.eq_nil_of_length_eq_zero
  have nA1:A1.length=0->A1=[]:=List.eq_nil_of_length_eq_zero
  have nB2:B2.length=0->B2=[]:=List.eq_nil_of_length_eq_zero
  refine cj_seq ?_
  refine cj_cutN (fun (s1:Snap)=>s1) (fun _=>[(0,.a (.v (.slice (some ⟨gb,0,none⟩) n cap))),(1,.a (.v (.int .i64 P.length))),(3,.a (.v (.int .i64 (b':Nat)))),(4,.a (.fn (.func 124) [])),(18,.a (.v (.int .i64 ((P.length+md:Nat):Int)))),(20,.a (.v (.int .i64 ((P.length+s:Nat):Int)))),(24,.a (.v (.int .i64 ((P.length+A.length+(md - s):Nat):Int))))]) (fun _=>[]) (fun _=>[vdE (some ⟨gb,0,none⟩) n cap ((P++A1)++(B1++(A2++(B2++S))))]) 0 (fun s1=>σ.le s1) ?_ (fun s1 hle1=>?_)
  · have hno:A2=[]\/B1=[]->[vdE (some ⟨gb,0,none⟩) n cap ((P++A1)++(B1++(A2++(B2++S))))]=[vdE (some ⟨gb,0,none⟩) n cap ((P++A1)++(A2++(B1++(B2++S))))]:=fun h=>by
      rcases h with rfl | rfl<;>rfl
    refine cj_seq ?_
    refine cjr TT rfl ?_
    refine oj_split 181 rfl (fun h=>?_) (fun h=>?_)
    rotate_left
    · have h:=of_decide_eq_false h
      refine oj_run TT rfl ?_
      (repeat (first | refine oj_then ?_ | refine cj_if_f rfl ?_ | refine cj_skip ?_))
      refine nj_again σ (Snap.le_refl _) Nat.zero_lt_one rfl (by (repeat first | exact trivial | refine ⟨rfl,?_⟩)) (by (repeat first | exact trivial | refine ⟨rfl,?_⟩)) (hno (.inl (nA2 (by omega)))) ⟨trivial,trivial,trivial,fn124_lt 0,trivial,trivial,trivial,trivial⟩ trivial
    have h:=of_decide_eq_true h
    refine oj_run TT rfl ?_
    (repeat refine oj_then ?_)
    refine cj_if rfl (fun h1=>?_) (fun h1=>?_)
    rotate_left
    · have h1:=of_decide_eq_false h1
      (repeat refine cj_skip ?_)
      refine nj_again σ (Snap.le_refl _) Nat.zero_lt_one rfl (by (repeat first | exact trivial | refine ⟨rfl,?_⟩)) (by (repeat first | exact trivial | refine ⟨rfl,?_⟩)) (hno (.inr (nB1 (by omega)))) ⟨trivial,trivial,trivial,fn124_lt 0,trivial,trivial,trivial,trivial⟩ trivial
    have h1:=of_decide_eq_true h1
    have hPA:(P++A1).length=P.length+s:=by rw [List.length_append];omega
    (repeat refine cjr TT rfl ?_)
    refine oj_callF [0] (A0:=[vdE (some ⟨gb,0,none⟩) n cap ((P++A1)++(A2++(B1++(B2++S))))]) (Ar:=[]) rfl rfl rfl rfl rfl rfl rfl Tryz.call240 ⟨trivial,trivial,trivial,trivial,fn124_lt 0,trivial⟩ (rot_c σ (P++A1) A2 B1 (B2++S) (by omega) (by omega) n (by rw [List.length_append,List.length_append];omega) hl _ cap _ _ _ (by omega) (by omega) (by omega)) fun v s1 A' hle1 ⟨hv,hA⟩=>⟨.tup [],(by (repeat' (first | exact trivial | refine SV.lt_tup ?_))),hv.symm,?_⟩
    subst hA
    refine oj_run TT rfl ?_
    (repeat refine oj_nil ?_)
    refine nj_again s1 hle1 Nat.zero_lt_one rfl (by (repeat first | exact trivial | refine ⟨rfl,?_⟩)) (by (repeat first | exact trivial | refine ⟨rfl,?_⟩)) rfl ⟨trivial,trivial,trivial,fn124_lt 0,trivial,trivial,trivial,trivial⟩ trivial
  have ew2:(P++A1)++(B1++(A2++(B2++S)))=P++(A1++(B1++(A2++(B2++S)))):=by simp only [List.append_assoc]
  rw [ew2]
  refine cj_seq ?_
  refine cj_cutN (fun (t:Y2S)=>t.s) (fun _=>[(0,.a (.v (.slice (some ⟨gb,0,none⟩) n cap))),(3,.a (.v (.int .i64 (b':Nat)))),(4,.a (.fn (.func 124) [])),(18,.a (.v (.int .i64 ((P.length+md:Nat):Int)))),(24,.a (.v (.int .i64 ((P.length+A.length+(md - s):Nat):Int))))]) (fun _=>[]) (fun t=>[vdE (some ⟨gb,0,none⟩) n cap (P++(t.M++(A2++(B2++S))))]) 0 (fun t=>σ.le t.s/\Stab vdLt t.M (A1++B1)/\t.M.length=A1.length+B1.length) ?_ (fun ⟨s2,M1⟩ ⟨hle2,hM1,hM1l⟩=>?_)
  · have hno:A1=[]\/B1=[]->Stab vdLt (A1++B1) (A1++B1):=fun h=>by
      rcases h with rfl | rfl
      · exact Stab.refl sB1
      · rw [List.append_nil];exact Stab.refl sA1
    have hno2:[vdE (some ⟨gb,0,none⟩) n cap (P++((A1++B1)++(A2++(B2++S))))]=[vdE (some ⟨gb,0,none⟩) n cap (P++(A1++(B1++(A2++(B2++S)))))]:=by rw [List.append_assoc A1]
    refine cj_seq ?_
    refine cjr TT rfl ?_
    refine oj_split 195 rfl (fun h=>?_) (fun h=>?_)
    rotate_left
    · have h:=of_decide_eq_false h
      refine oj_run TT rfl ?_
      (repeat (first | refine oj_then ?_ | refine cj_if_f rfl ?_ | refine cj_skip ?_))
      refine nj_again (⟨s1,A1++B1⟩:Y2S) ⟨hle1,hno (.inl (nA1 (by omega))),List.length_append⟩ Nat.zero_lt_one rfl (by (repeat first | exact trivial | refine ⟨rfl,?_⟩)) (by (repeat first | exact trivial | refine ⟨rfl,?_⟩)) hno2 ⟨trivial,trivial,fn124_lt 0,trivial,trivial,trivial⟩ trivial
    have h:=of_decide_eq_true h
    refine oj_run TT rfl ?_
    (repeat refine oj_then ?_)
    refine cj_if rfl (fun h1=>?_) (fun h1=>?_)
    rotate_left
    · have h1:=of_decide_eq_false h1
      (repeat refine cj_skip ?_)
      refine nj_again (⟨s1,A1++B1⟩:Y2S) ⟨hle1,hno (.inr (nB1 (by omega))),List.length_append⟩ Nat.zero_lt_one rfl (by (repeat first | exact trivial | refine ⟨rfl,?_⟩)) (by (repeat first | exact trivial | refine ⟨rfl,?_⟩)) hno2 ⟨trivial,trivial,fn124_lt 0,trivial,trivial,trivial⟩ trivial
    have h1:=of_decide_eq_true h1
    (repeat refine cjr TT rfl ?_)
    refine oj_callF [0] (A0:=[vdE (some ⟨gb,0,none⟩) n cap (P++(A1++(B1++(A2++(B2++S)))))]) (Ar:=[]) rfl rfl rfl rfl rfl rfl rfl Tryz.call221 ⟨trivial,trivial,trivial,trivial,fn124_lt 0,trivial⟩ (ih s1 P A1 B1 (A2++(B2++S)) (by omega) sA1 sB1 (by omega) (by omega) (fun v hv=>(oA1 v hv).mono hle1) (fun v hv=>(oB1 v hv).mono hle1) n (by rw [List.length_append,List.length_append];omega) hl _ cap _ _ _ (by omega) (by omega) (by omega)) fun v s2 A' hle2 ⟨hv,M,hM,hMl,hA⟩=>⟨.tup [],(by (repeat' (first | exact trivial | refine SV.lt_tup ?_))),hv.symm,?_⟩
    subst hA
    refine oj_run TT rfl ?_
    (repeat refine oj_nil ?_)
    refine nj_again (⟨s2,M⟩:Y2S) ⟨Snap.le_trans hle1 hle2,hM,hMl⟩ Nat.zero_lt_one rfl (by (repeat first | exact trivial | refine ⟨rfl,?_⟩)) (by (repeat first | exact trivial | refine ⟨rfl,?_⟩)) rfl ⟨trivial,trivial,fn124_lt 0,trivial,trivial,trivial⟩ trivial
  dsimp only at hle2 hM1 hM1l ⊢
  have hPM:(P++M1).length=P.length+md:=by rw [List.length_append];omega
  have ew3:P++(M1++(A2++(B2++S)))=(P++M1)++(A2++(B2++S)):=by simp only [List.append_assoc]
  have hno:A2=[]\/B2=[]->Stab vdLt (A2++B2) (A2++B2):=fun h=>by
    rcases h with rfl | rfl
    · exact Stab.refl sB2
    · rw [List.append_nil];exact Stab.refl sA2
  have hno2:[vdE (some ⟨gb,0,none⟩) n cap (P++(M1++(A2++(B2++S))))]=[vdE (some ⟨gb,0,none⟩) n cap (P++((M1++(A2++B2))++S))]:=by simp only [List.append_assoc]
  refine cj_seq ?_
  refine cjr TT rfl ?_
  refine oj_split 209 rfl (fun h=>?_) (fun h=>?_)
  rotate_left
  · have h:=of_decide_eq_false h
    refine oj_run TT rfl ?_
    (repeat (first | refine oj_then ?_ | refine cj_if_f rfl ?_ | refine cj_skip ?_))
    refine nj_fend TT rfl fun β w' _ _=>?_
    exact ⟨rfl,M1++(A2++B2),hhalf _ _ hM1 (hno (.inl (nA2 (by omega)))),by simp only [List.length_append];omega,hno2⟩
  have h:=of_decide_eq_true h
  refine oj_run TT rfl ?_
  (repeat refine oj_then ?_)
  refine cj_if rfl (fun h1=>?_) (fun h1=>?_)
  rotate_left
  · have h1:=of_decide_eq_false h1
    (repeat refine cj_skip ?_)
    refine nj_fend TT rfl fun β w' _ _=>?_
    exact ⟨rfl,M1++(A2++B2),hhalf _ _ hM1 (hno (.inr (nB2 (by omega)))),by simp only [List.length_append];omega,hno2⟩
  have h1:=of_decide_eq_true h1
  rw [ew3]
  (repeat refine cjr TT rfl ?_)
  refine oj_callF [0] (A0:=[vdE (some ⟨gb,0,none⟩) n cap ((P++M1)++(A2++(B2++S)))]) (Ar:=[]) rfl rfl rfl rfl rfl rfl rfl Tryz.call221 ⟨trivial,trivial,trivial,trivial,fn124_lt 0,trivial⟩ (ih s2 (P++M1) A2 B2 S (by omega) sA2 sB2 (by omega) (by omega) (fun v hv=>(oA2 v hv).mono hle2) (fun v hv=>(oB2 v hv).mono hle2) n (by omega) hl _ cap _ _ _ (by omega) (by omega) (by omega)) fun v s3 A' hle3 ⟨hv,M,hM,hMl,hA⟩=>⟨.tup [],(by (repeat' (first | exact trivial | refine SV.lt_tup ?_))),hv.symm,?_⟩
  subst hA
  refine oj_run TT rfl ?_
  (repeat refine oj_nil ?_)
  refine nj_fend TT rfl fun β w' _ _=>?_
  refine ⟨rfl,M1++M,hhalf _ _ hM1 hM,by rw [List.length_append];omega,?_⟩
  show [_]=[_]
  simp only [List.append_assoc]
end Go.Sy
namespace Go.Sy
open Go.Proofs
structure StS where
  s:Snap
  E:List Vd
  L0:List Vd
  R:List Vd
structure SuS where
  s:Snap
  bs:Nat
  D:List Vd
structure SvS where
  s:Snap
  E:List Vd
  L0:List Vd
  R:List Vd
  K:List Vd
set_option maxRecDepth 100000 in
set_option maxHeartbeats 8000000 in
theorem stable_c (σ:Snap) (L:List Vd) (okL:∀ v∈L,VdOk σ v) (n:Nat) (hn:L.length=n) (hl:n<=1000000) (ao:Option Addr) (cap:Nat) :
    FnS Tryz.prog 186 [.a (.v (.slice ao n cap)),.a (.v (.int .i64 n)),.a (.fn (.func 124) [])] σ [vdE ao n cap L] (fun v _ A'=>v=.tuple #[]/\∃ M,Stab vdLt M L/\M.length=n/\A'=[vdE ao n cap M]):=by
  refine enter_f Tryz.func186 rfl rfl ⟨trivial,trivial,fn124_lt 0,trivial⟩ fun w=>?_
  (repeat (first | refine cj_seq ?_ | refine cjr TT rfl ?_ | refine oj_then ?_ | refine cj_block ?_))
  refine cj_loop (fun (t:StS)=>t.s) (fun t=>[(0,.a (.v (.slice ao n cap))),(1,.a (.v (.int .i64 n))),(2,.a (.fn (.func 124) [])),(6,.a (.v (.int .i64 20))),(7,.a (.v (.int .i64 (t.E.length:Nat)))),(8,.a (.v (.int .i64 ((t.E.length+20:Nat):Int))))]) (fun _=>[]) (fun t=>[vdE ao n cap (t.E++t.R)]) 0
    (fun t=>σ.le t.s/\Done 20 t.E t.L0/\L=t.L0++t.R/\t.E.length+t.R.length=n) (fun t=>t.R.length) ⟨σ,[],[],L⟩ ⟨Snap.le_refl _,Done.nil,rfl,by show 0+L.length=n;omega⟩ rfl (by (repeat first | exact trivial | refine ⟨rfl,?_⟩)) (by (repeat first | exact trivial | refine ⟨rfl,?_⟩)) rfl ⟨trivial,trivial,fn124_lt 0,trivial,trivial,trivial,trivial⟩ trivial fun ⟨s,E,L0,R⟩ ⟨hle,hD,hL,hlen⟩=>?_
  dsimp only at hle hD hL hlen ⊢
  have okR:∀ v∈R,VdOk s v:=fun v hv=>(okL v (by rw [hL];exact List.mem_append_right _ hv)).mono hle
  (repeat (first | refine cj_seq ?_ | refine cjr TT rfl ?_ | refine oj_then ?_))
  refine cj_if rfl (fun h=>?_) (fun h=>?_)
  · have h:=of_decide_eq_true h
    have eR:R=R.take 20++R.drop 20:=(List.take_append_drop _ _).symm
    have e1:(R.take 20).length=20:=by rw [List.length_take];omega
    generalize R.take 20=M at *
    generalize R.drop 20=S at *
    subst eR
    rw [List.length_append] at hlen
    (repeat (first | refine cj_seq ?_ | refine cjr TT rfl ?_ | refine cj_skip ?_ | refine cj_block ?_ | refine nj_then ?_))
    refine oj_callF [0] (A0:=[vdE ao n cap (E++(M++S))]) (Ar:=[]) rfl rfl rfl rfl rfl rfl rfl Tryz.call220 ⟨trivial,trivial,trivial,fn124_lt 0,trivial⟩ (insSort_c s E M S (fun v hv=>okR v (List.mem_append_left _ hv)) n (by omega) hl ao cap _ _ rfl (by omega)) fun v s1 A' hle1 ⟨hv,M',hM',hMl,hA⟩=>⟨.tup [],(by (repeat' (first | exact trivial | refine SV.lt_tup ?_))),hv.symm,?_⟩
    subst hA
    refine oj_run TT rfl ?_
    (repeat (first | refine cj_seq ?_ | refine cjr TT rfl ?_ | refine oj_then ?_ | refine oj_nil ?_ | refine nj_block ?_ | (refine oj_add rfl rfl rfl rfl rfl rfl (by omega) ?_;refine oj_run TT rfl ?_)))
    have hl1:(E++M').length=E.length+20:=by rw [List.length_append];omega
    refine nj_again (⟨s1,E++M',L0++M,S⟩:StS) ⟨Snap.le_trans hle hle1,hD.snoc hM' (by omega) e1,by dsimp only;rw [hL,List.append_assoc],by dsimp only;omega⟩ (by dsimp only;rw [List.length_append];omega) rfl ?_ (by (repeat first | exact trivial | refine ⟨rfl,?_⟩)) ?_ ⟨trivial,trivial,fn124_lt 0,trivial,trivial,trivial,trivial⟩ trivial
    · refine ⟨rfl,rfl,rfl,rfl,?_,?_,trivial⟩
      · exact congrArg (fun z=>some (SV.a (AT.v (Value.int .i64 z)))) (show ((E.length+20:Nat):Int)=(((E++M').length:Nat):Int) by omega)
      · exact congrArg (fun z=>some (SV.a (AT.v (Value.int .i64 z)))) (show ((E.length+20:Nat):Int)+20=(((E++M').length+20:Nat):Int) by omega)
    · show [_]=[_]
      dsimp only
      rw [List.append_assoc]
  have h:=of_decide_eq_false h
  have er:E++R=E++(R++[]):=by rw [List.append_nil]
  rw [er]
  (repeat (first | refine cj_seq ?_ | refine cjr TT rfl ?_ | refine cj_exit ?_ | refine nj_then ?_ | refine nj_then_exit ?_ | refine nj_block_out ?_))
  refine oj_callF [0] (A0:=[vdE ao n cap (E++(R++[]))]) (Ar:=[]) rfl rfl rfl rfl rfl rfl rfl Tryz.call220 ⟨trivial,trivial,trivial,fn124_lt 0,trivial⟩ (insSort_c s E R [] okR n (by rw [List.length_nil];omega) hl ao cap _ _ rfl (by omega)) fun v s1 A' hle1 ⟨hv,R',hR',hRl,hA⟩=>⟨.tup [],(by (repeat' (first | exact trivial | refine SV.lt_tup ?_))),hv.symm,?_⟩
  subst hA
  have hRun:=hD.run (Run.last (bs:=20) hRl (by omega) hR')
  rw [<-hL] at hRun
  have hle:=Snap.le_trans hle hle1
  rw [show R'++[]=R' from List.append_nil _]
  have hDl:(E++R').length=n:=by rw [List.length_append];omega
  generalize E++R'=D0 at *
  clear hRl hR' hD hlen er okR
  refine oj_run TT rfl ?_
  (repeat (first | refine oj_then ?_ | refine cj_block ?_))
  refine cj_loop (fun (t:SuS)=>t.s) (fun t=>[(0,.a (.v (.slice ao n cap))),(1,.a (.v (.int .i64 n))),(2,.a (.fn (.func 124) [])),(6,.a (.v (.int .i64 (t.bs:Nat))))]) (fun _=>[]) (fun t=>[vdE ao n cap t.D]) 0
    (fun t=>σ.le t.s/\0<t.bs/\Run t.bs t.D L/\t.D.length=n) (fun t=>n - t.bs) ⟨s1,20,D0⟩ ⟨hle,by show 0<20;omega,hRun,hDl⟩ rfl (by (repeat first | exact trivial | refine ⟨rfl,?_⟩)) (by (repeat first | exact trivial | refine ⟨rfl,?_⟩)) rfl ⟨trivial,trivial,fn124_lt 0,trivial,trivial⟩ trivial fun ⟨s,bs,D⟩ ⟨hle,hbs,hR,hDl⟩=>?_
  dsimp only at hle hbs hR hDl ⊢
  (repeat (first | refine cj_seq ?_ | refine cjr TT rfl ?_ | refine oj_then ?_))
  refine cj_if rfl (fun h=>?_) (fun h=>?_)
  rotate_left
  · have h:=of_decide_eq_false h
    (repeat (first | refine cj_exit ?_ | refine nj_then_exit ?_ | refine nj_block_out ?_))
    refine nj_fend TT rfl fun β w' _ _=>?_
    exact ⟨rfl,D,hR.small (by omega),hDl,rfl⟩
  have h:=of_decide_eq_true h
  have hbn:bs<n:=by omega
  (repeat (first | refine cj_seq ?_ | refine cjr TT rfl ?_ | refine cj_skip ?_ | refine cj_block ?_ | refine nj_then ?_))
  refine oj_mul rfl rfl rfl rfl rfl rfl (by omega) (oj_run TT rfl ?_)
  (repeat (first | refine cj_seq ?_ | refine oj_then ?_ | refine cj_block ?_))
  refine cj_loop (fun (t:SvS)=>t.s) (fun t=>[(0,.a (.v (.slice ao n cap))),(1,.a (.v (.int .i64 n))),(2,.a (.fn (.func 124) [])),(6,.a (.v (.int .i64 bs))),(7,.a (.v (.int .i64 (t.E.length:Nat)))),(8,.a (.v (.int .i64 ((t.E.length+2*bs:Nat):Int))))]) (fun _=>[]) (fun t=>[vdE ao n cap (t.E++t.R)]) 0
    (fun t=>σ.le t.s/\Done (2*bs) t.E t.L0/\Run bs t.R t.K/\L=t.L0++t.K/\t.E.length+t.R.length=n) (fun t=>t.R.length) ⟨s,[],[],D,L⟩ ⟨hle,Done.nil,hR,rfl,by show 0+D.length=n;omega⟩ rfl ?_ (by (repeat first | exact trivial | refine ⟨rfl,?_⟩)) rfl ⟨trivial,trivial,fn124_lt 0,trivial,trivial,trivial,trivial⟩ trivial fun ⟨s,E,L0,R,K⟩ ⟨hle,hD,hR,hL,hlen⟩=>?_
  · refine ⟨rfl,rfl,rfl,rfl,rfl,?_,trivial⟩
    exact congrArg (fun z=>some (SV.a (AT.v (Value.int .i64 z)))) (show (2:Int)*bs=(((([]:List Vd).length+2*bs:Nat)):Int) by rw [List.length_nil];omega)
  dsimp only at hle hD hR hL hlen ⊢
  have okR:∀ v∈R,VdOk s v:=fun v hv=>(okL v (by rw [hL];exact List.mem_append_right _ (hR.mem hv))).mono hle
  (repeat (first | refine cj_seq ?_ | refine cjr TT rfl ?_ | refine oj_then ?_))
  refine cj_if rfl (fun h=>?_) (fun h=>?_)
  · have h:=of_decide_eq_true h
    obtain ⟨A,B,R',KA,KB,K',rfl,rfl,hA,hB,hKA,hKB,sA,sB,hR'⟩:=hR.two hbs (by omega)
    rw [List.length_append,List.length_append] at hlen
    (repeat (first | refine cj_seq ?_ | refine cjr TT rfl ?_ | refine cj_skip ?_ | refine cj_block ?_ | refine nj_then ?_ | (refine oj_add rfl rfl rfl rfl rfl rfl (by omega) ?_;refine oj_run TT rfl ?_)))
    refine oj_callF [0] (A0:=[vdE ao n cap (E++(A++(B++R')))]) (Ar:=[]) rfl rfl rfl rfl rfl rfl rfl Tryz.call221 ⟨trivial,trivial,trivial,trivial,fn124_lt 0,trivial⟩ (sym_c (A.length+B.length) s E A B R' (Nat.le_refl _) sA.srt sB.srt (by omega) (by omega) (fun v hv=>okR v (List.mem_append_left _ hv)) (fun v hv=>okR v (List.mem_append_right _ (List.mem_append_left _ hv))) n (by omega) hl ao cap _ _ _ rfl (by omega) (by omega)) fun v s1 A' hle1 ⟨hv,M,hM,hMl,hA'⟩=>⟨.tup [],(by (repeat' (first | exact trivial | refine SV.lt_tup ?_))),hv.symm,?_⟩
    subst hA'
    refine oj_run TT rfl ?_
    (repeat (first | refine cj_seq ?_ | refine cjr TT rfl ?_ | refine oj_then ?_))
    refine oj_mul rfl rfl rfl rfl rfl rfl (by omega) (oj_run TT rfl ?_)
    (repeat (first | refine oj_nil ?_ | refine nj_block ?_ | (refine oj_add rfl rfl rfl rfl rfl rfl (by omega) ?_;refine oj_run TT rfl ?_)))
    have hl1:(E++M).length=E.length+2*bs:=by rw [List.length_append];omega
    refine nj_again (⟨s1,E++M,L0++(KA++KB),R',K'⟩:SvS) ⟨Snap.le_trans hle hle1,hD.snoc (hM.two' sA sB) (by omega) (by rw [List.length_append];omega),hR',by dsimp only;rw [hL];simp only [List.append_assoc],by dsimp only;omega⟩ (by dsimp only;simp only [List.length_append];omega) rfl ?_ (by (repeat first | exact trivial | refine ⟨rfl,?_⟩)) ?_ ⟨trivial,trivial,fn124_lt 0,trivial,trivial,trivial,trivial⟩ trivial
    · refine ⟨rfl,rfl,rfl,rfl,?_,?_,trivial⟩
      · exact congrArg (fun z=>some (SV.a (AT.v (Value.int .i64 z)))) (show ((E.length+2*bs:Nat):Int)=(((E++M).length:Nat):Int) by omega)
      · exact congrArg (fun z=>some (SV.a (AT.v (Value.int .i64 z)))) (show ((E.length+2*bs:Nat):Int)+2*(bs:Int)=(((E++M).length+2*bs:Nat):Int) by omega)
    · show [_]=[_]
      dsimp only
      rw [List.append_assoc]
  have h:=of_decide_eq_false h
  (repeat (first | refine cj_seq ?_ | refine cjr TT rfl ?_ | refine oj_then ?_ | refine cj_exit ?_ | refine nj_then ?_ | refine nj_then_exit ?_ | refine nj_block_out ?_ | (refine oj_add rfl rfl rfl rfl rfl rfl (by omega) ?_;refine oj_run TT rfl ?_)))
  refine cj_if rfl (fun h1=>?_) (fun h1=>?_)
  · have h1:=of_decide_eq_true h1
    obtain ⟨A,B,KA,KB,rfl,rfl,hA,hKA,sA,hRB⟩:=hR.one (by omega)
    rw [List.length_append] at hlen
    have sB:=hRB.small (by omega)
    have hBl:=hRB.len
    have er:E++(A++B)=E++(A++(B++[])):=by rw [List.append_nil]
    rw [er]
    (repeat refine cjr TT rfl ?_)
    refine oj_callF [0] (A0:=[vdE ao n cap (E++(A++(B++[])))]) (Ar:=[]) rfl rfl rfl rfl rfl rfl rfl Tryz.call221 ⟨trivial,trivial,trivial,trivial,fn124_lt 0,trivial⟩ (sym_c (A.length+B.length) s E A B [] (Nat.le_refl _) sA.srt sB.srt (by omega) (by omega) (fun v hv=>okR v (List.mem_append_left _ hv)) (fun v hv=>okR v (List.mem_append_right _ hv)) n (by rw [List.length_nil];omega) hl ao cap _ _ _ rfl (by omega) (by omega)) fun v s1 A' hle1 ⟨hv,M,hM,hMl,hA'⟩=>⟨.tup [],(by (repeat' (first | exact trivial | refine SV.lt_tup ?_))),hv.symm,?_⟩
    subst hA'
    refine oj_run TT rfl ?_
    (repeat (first | refine cjr TT rfl ?_ | refine oj_then ?_))
    refine oj_mul rfl rfl rfl rfl rfl rfl (by omega) (oj_run TT rfl ?_)
    (repeat (first | refine oj_nil ?_ | refine nj_block ?_))
    refine nj_again (⟨s1,2*bs,E++M⟩:SuS) ⟨Snap.le_trans hle hle1,by dsimp only;omega,by dsimp only;rw [hL];exact hD.run (Run.last (by rw [List.length_append];omega) (by omega) (hM.two' sA sB)),by dsimp only;rw [List.length_append];omega⟩ (by dsimp only;omega) rfl ?_ (by (repeat first | exact trivial | refine ⟨rfl,?_⟩)) ?_ ⟨trivial,trivial,fn124_lt 0,trivial,trivial⟩ trivial
    · refine ⟨rfl,rfl,rfl,?_,trivial⟩
      exact congrArg (fun z=>some (SV.a (AT.v (Value.int .i64 z)))) (show (bs:Int)*2=((2*bs:Nat):Int) by omega)
    · show [_]=[_]
      rw [show M++[]=M from List.append_nil _]
  · have h1:=of_decide_eq_false h1
    have sR:=hR.small (by omega)
    have hRl:=hR.len
    (repeat (first | refine cjr TT rfl ?_ | refine cj_skip ?_ | refine nj_then ?_))
    refine oj_mul rfl rfl rfl rfl rfl rfl (by omega) (oj_run TT rfl ?_)
    (repeat (first | refine oj_nil ?_ | refine nj_block ?_))
    refine nj_again (⟨s,2*bs,E++R⟩:SuS) ⟨hle,by dsimp only;omega,by dsimp only;rw [hL];exact hD.run (Run.last hRl (by omega) sR),by dsimp only;rw [List.length_append];omega⟩ (by dsimp only;omega) rfl ?_ (by (repeat first | exact trivial | refine ⟨rfl,?_⟩)) rfl ⟨trivial,trivial,fn124_lt 0,trivial,trivial⟩ trivial
    refine ⟨rfl,rfl,rfl,?_,trivial⟩
    exact congrArg (fun z=>some (SV.a (AT.v (Value.int .i64 z)))) (show (bs:Int)*2=((2*bs:Nat):Int) by omega)
set_option maxRecDepth 100000 in
set_option maxHeartbeats 1000000 in
theorem sortStable_c (σ:Snap) (L:List Vd) (okL:∀ v∈L,VdOk σ v) (n:Nat) (hn:L.length=n) (hl:n<=1000000) (ao:Option Addr) (cap:Nat) :
    FnS Tryz.prog 123 [.a (.v (.slice ao n cap)),.a (.fn (.func 124) [])] σ [vdE ao n cap L] (fun v _ A'=>v=.tuple #[]/\∃ M,Stab vdLt M L/\M.length=n/\A'=[vdE ao n cap M]):=by
  refine enter_f Tryz.func123 rfl rfl ⟨trivial,fn124_lt 0,trivial⟩ fun w=>?_
  (repeat refine cjr TT rfl ?_)
  refine oj_callF [0] (A0:=[vdE ao n cap L]) (Ar:=[]) rfl rfl rfl rfl rfl rfl rfl Tryz.call186 ⟨trivial,trivial,fn124_lt 0,trivial⟩ (stable_c σ L okL n hn hl ao cap) fun v s1 A' hle1 ⟨hv,M,hM,hMl,hA⟩=>⟨.tup [],(by (repeat' (first | exact trivial | refine SV.lt_tup ?_))),hv.symm,?_⟩
  subst hA
  refine oj_run TT rfl ?_
  (repeat refine oj_nil ?_)
  refine nj_fend TT rfl fun β w' _ _=>?_
  exact ⟨rfl,M,hM,hMl,rfl⟩
end Go.Sy
/- Plain law: texts' bytes in order, and what lies between. No program in sight. -/
namespace Go.Sy
theorem cb_eq:∀ {a b:List UInt8},Lib.compareBytes a b=0->a=b
  | [],[],_=>rfl
  | [],_::_,h=>by unfold Lib.compareBytes at h;omega
  | _::_,[],h=>by unfold Lib.compareBytes at h;omega
  | x::a,y::b,h=>by
    unfold Lib.compareBytes at h
    simp only [UInt8.lt_iff_toNat_lt] at h
    split at h
    · omega
    split at h
    · omega
    have e:x=y:=UInt8.toNat_inj.1 (by omega)
    rw [e,cb_eq h]
theorem cb_refl:∀ a:List UInt8,Lib.compareBytes a a=0
  | []=>rfl
  | x::a=>by
    unfold Lib.compareBytes
    simp only [UInt8.lt_iff_toNat_lt]
    rw [if_neg (by omega),if_neg (by omega)]
    exact cb_refl a
theorem cb_cons (x:UInt8) (a b:List UInt8):Lib.compareBytes (x::a) (x::b)=Lib.compareBytes a b:=by
  conv=>lhs;unfold Lib.compareBytes
  simp only [UInt8.lt_iff_toNat_lt]
  rw [if_neg (by omega),if_neg (by omega)]
theorem cb_lt {x y:UInt8} (h:x<y) (a b:List UInt8):Lib.compareBytes (x::a) (y::b) = -1:=by
  unfold Lib.compareBytes
  rw [if_pos h]
theorem cb_gt {x y:UInt8} (h:y<x) (a b:List UInt8):Lib.compareBytes (x::a) (y::b)=1:=by
  unfold Lib.compareBytes
  rw [if_neg (by simp only [UInt8.lt_iff_toNat_lt] at h ⊢;omega),if_pos h]
theorem u8_pos {x:UInt8} (h:x≠0):0<x:=by
  rw [UInt8.lt_iff_toNat_lt]
  have:x.toNat≠0:=fun e=>h (UInt8.toNat_inj.1 (by rw [e];rfl))
  show (0:UInt8).toNat<_
  have h0:(0:UInt8).toNat=0:=rfl
  omega
theorem esc_ord:∀ a b:List UInt8,Lib.compareBytes (escG a++[0,0]) (escG b++[0,0])=Lib.compareBytes a b
  | [],[]=>rfl
  | [],y::b=>by
    have e:Lib.compareBytes [] (y::b) = -1:=rfl
    rw [e]
    unfold escG
    by_cases h:y=0
    · rw [if_pos h]
      show Lib.compareBytes (0::[0]) (0::(255::(escG b++[0,0]))) = -1
      rw [cb_cons]
      exact cb_lt (by decide) _ _
    · rw [if_neg h]
      exact cb_lt (u8_pos h) _ _
  | x::a,[]=>by
    have e:Lib.compareBytes (x::a) []=1:=rfl
    rw [e]
    conv=>lhs;arg 1;unfold escG
    by_cases h:x=0
    · rw [if_pos h]
      show Lib.compareBytes (0::(255::(escG a++[0,0]))) (0::[0])=1
      rw [cb_cons]
      exact cb_gt (by decide) _ _
    · rw [if_neg h]
      exact cb_gt (u8_pos h) _ _
  | x::a,y::b=>by
    have ih:=esc_ord a b
    conv=>lhs;unfold escG
    by_cases hx:x=0
    · rw [if_pos hx]
      by_cases hy:y=0
      · rw [if_pos hy]
        show Lib.compareBytes (0::(255::(escG a++[0,0]))) (0::(255::(escG b++[0,0])))=_
        rw [cb_cons,cb_cons,ih,hx,hy,cb_cons]
      · rw [if_neg hy,hx,cb_lt (u8_pos hy)]
        exact cb_lt (u8_pos hy) _ _
    · rw [if_neg hx]
      by_cases hy:y=0
      · rw [if_pos hy,hy,cb_gt (u8_pos hx)]
        exact cb_gt (u8_pos hx) _ _
      · rw [if_neg hy]
        show Lib.compareBytes (x::(escG a++[0,0])) (y::(escG b++[0,0]))=_
        conv=>lhs;unfold Lib.compareBytes
        conv=>rhs;unfold Lib.compareBytes
        rw [ih]
theorem cb_next:∀ {a t:List UInt8},0<=Lib.compareBytes t a->Lib.compareBytes t (a++[0])<0->t=a
  | [],[],_,_=>rfl
  | [],y::t,_,h=>by
    exfalso
    by_cases hy:y=0
    · subst hy
      have h:Lib.compareBytes (0::t) (0::[])<0:=h
      rw [cb_cons] at h
      cases t with
      | nil=>exact absurd h (by decide)
      | cons c t=>exact absurd h (by show ¬ (1:Int)<0;omega)
    · have h:Lib.compareBytes (y::t) (0::[])<0:=h
      rw [cb_gt (u8_pos hy)] at h
      omega
  | x::a,[],h,_=>by
    exfalso
    have h:0<=(-1:Int):=h
    omega
  | x::a,y::t,h1,h2=>by
    have h2:Lib.compareBytes (y::t) (x::(a++[0]))<0:=h2
    have ih:=cb_next (a:=a) (t:=t)
    unfold Lib.compareBytes at h1 h2
    simp only [UInt8.lt_iff_toNat_lt] at h1 h2
    split at h1
    · omega
    rename_i n1
    rw [if_neg n1] at h2
    split at h1
    · rename_i n2
      rw [if_pos n2] at h2
      omega
    rename_i n2
    rw [if_neg n2] at h2
    rw [ih h1 h2]
    have e:y=x:=UInt8.toNat_inj.1 (by omega)
    rw [e]
def strP (s:ByteArray):GPart:=⟨3,false,dec0,s,0⟩
theorem strP_bytes (s:ByteArray):pbytes (strP s)=64::(escG s.data.toList++[0,0]):=by
  unfold pbytes
  rw [if_pos (show rightG (strP s)=true from (right_iff _).2 (Rt.str s))]
  rfl
theorem strP_ord (a b:ByteArray):Lib.compareBytes (pbytes (strP a)) (pbytes (strP b))=Lib.compareBytes a.data.toList b.data.toList:=by
  rw [strP_bytes,strP_bytes,cb_cons,esc_ord]
theorem cb_head {x y:UInt8} (h:x≠y) (a b c:List UInt8) (h1:0<=Lib.compareBytes (x::a) (y::b)) (h2:Lib.compareBytes (x::a) (y::c)<0):False:=by
  have hn:x.toNat≠y.toNat:=fun e=>h (UInt8.toNat_inj.1 e)
  unfold Lib.compareBytes at h1 h2
  simp only [UInt8.lt_iff_toNat_lt] at h1 h2
  split at h1
  · omega
  rename_i n1
  rw [if_neg n1,if_pos (by omega)] at h2
  omega
theorem part_between {p:GPart} (hp:rightG p=true) {a b:ByteArray} (hb:b.data.toList=a.data.toList++[0]) :
    (0<=Lib.compareBytes (pbytes p) (pbytes (strP a))/\Lib.compareBytes (pbytes p) (pbytes (strP b))<0)↔pbytes p=pbytes (strP a):=by
  constructor
  · intro ⟨h1,h2⟩
    cases (right_iff p).1 hp with
    | str s =>
      have h1:0<=Lib.compareBytes (pbytes (strP s)) (pbytes (strP a)):=h1
      have h2:Lib.compareBytes (pbytes (strP s)) (pbytes (strP b))<0:=h2
      rw [strP_ord] at h1 h2
      rw [hb] at h2
      have:=cb_next h1 h2
      show pbytes (strP s)=_
      rw [strP_bytes,strP_bytes,this]
    | null =>
      rw [strP_bytes] at h1 h2
      exact (cb_head (x:=16) (by decide) [] _ _ h1 h2).elim
    | bool c =>
      rw [strP_bytes] at h1 h2
      cases c with
      | true=>exact (cb_head (x:=33) (by decide) [] _ _ h1 h2).elim
      | false=>exact (cb_head (x:=32) (by decide) [] _ _ h1 h2).elim
    | num n h =>
      have e:pbytes ⟨2,false,n,emptyB,0⟩=if n.dg.size=0 then [49] else if n.neg then 48::turnG (sizeG n) else 50::sizeG n:=by
        unfold pbytes
        rw [if_pos hp]
        rfl
      rw [strP_bytes,e] at h1 h2
      split at h1
      · rename_i n0
        rw [if_pos n0] at h2
        exact (cb_head (x:=49) (by decide) [] _ _ h1 h2).elim
      rename_i n0
      rw [if_neg n0] at h2
      split at h1
      · rename_i n1
        rw [if_pos n1] at h2
        exact (cb_head (x:=48) (by decide) _ _ _ h1 h2).elim
      · rename_i n1
        rw [if_neg n1] at h2
        exact (cb_head (x:=50) (by decide) _ _ _ h1 h2).elim
    | whole i _ _ =>
      have e:pbytes ⟨9,false,dec0,emptyB,i⟩=[80,byteOf (i / 16777216),byteOf (i / 65536),byteOf (i / 256),byteOf i]:=by
        unfold pbytes
        rw [if_pos hp]
        rfl
      rw [strP_bytes,e] at h1 h2
      exact (cb_head (x:=80) (by decide) _ _ _ h1 h2).elim
  · intro h
    rw [h,strP_ord,strP_ord,hb,cb_refl]
    refine ⟨Int.le_refl _,?_⟩
    generalize a.data.toList=l
    induction l with
    | nil=>show (-1:Int)<0;omega
    | cons c l ih =>
      show Lib.compareBytes (c::l) (c::(l++[0]))<0
      rw [cb_cons]
      exact ih
section
variable {α:Type} (κ:α->List UInt8)
def kLt (x y:α):Bool:=decide (Lib.compareBytes (κ x) (κ y)<0)
theorem kSWO:SWO (kLt κ):=by
  refine ⟨fun x y h=>?_,fun x y z h1 h2=>?_⟩
  · have h:=of_decide_eq_true h
    unfold kLt
    rw [cb_flip,decide_eq_false_iff_not]
    omega
  · have h1:=of_decide_eq_false h1
    have h2:=of_decide_eq_false h2
    unfold kLt
    rw [decide_eq_false_iff_not]
    have:=cb_tr (κ x) (κ y) (κ z) (by omega) (by omega)
    omega
theorem kEqv {x y:α}:eqv (kLt κ) x y=true↔κ x=κ y:=by
  rw [eqv_iff]
  unfold kLt
  rw [decide_eq_false_iff_not,decide_eq_false_iff_not]
  constructor
  · intro ⟨h1,h2⟩
    refine cb_eq ?_
    rw [cb_flip] at h2
    omega
  · intro h
    rw [h,cb_refl]
    omega
def inB (p q:List UInt8) (z:List UInt8):Bool:=!z.isEmpty&&(decide (0<=Lib.compareBytes z p)&&decide (Lib.compareBytes z q<0))
theorem inB_iff {p q z:List UInt8}:inB p q z=true↔z≠[]/\0<=Lib.compareBytes z p/\Lib.compareBytes z q<0:=by
  unfold inB
  simp only [Bool.and_eq_true,Bool.not_eq_true',decide_eq_true_eq,List.isEmpty_eq_false_iff]
theorem Stab.join {L T1 T2:List α} {p q s:List UInt8} (hpq:0<=Lib.compareBytes q p) (hqs:0<=Lib.compareBytes s q)
    (h1:Stab (kLt κ) T1 (L.filter fun x=>inB p q (κ x))) (h2:Stab (kLt κ) T2 (L.filter fun x=>inB q s (κ x))):Stab (kLt κ) (T1++T2) (L.filter fun x=>inB p s (κ x)):=by
  refine ⟨?_,fun x=>?_⟩
  · unfold Srt
    refine List.pairwise_append.2 ⟨h1.srt,h2.srt,fun a ha b hb=>?_⟩
    have ha:=(inB_iff.1 (List.mem_filter.1 ((h1.mem (kSWO κ)).1 ha)).2).2.2
    have hb:=(inB_iff.1 (List.mem_filter.1 ((h2.mem (kSWO κ)).1 hb)).2).2.1
    unfold kLt
    rw [decide_eq_false_iff_not]
    have hf:=cb_flip (κ a) q
    have:=cb_tr (κ a) q (κ b) (by omega) hb
    omega
  · rw [List.filter_append,h1.cls,h2.cls,List.filter_filter,List.filter_filter,List.filter_filter]
    by_cases hx:Lib.compareBytes (κ x) q<0
    · have e2:(L.filter fun y=>eqv (kLt κ) x y&&inB q s (κ y))=[]:=by
        rw [List.filter_eq_nil_iff]
        intro y _ hy
        rw [Bool.and_eq_true,kEqv,inB_iff] at hy
        obtain ⟨e,_,h,_⟩:=hy
        rw [<-e] at h
        omega
      rw [e2,List.append_nil]
      refine List.filter_congr fun y _=>?_
      by_cases e:κ x=κ y
      · rw [show eqv (kLt κ) x y=true from (kEqv κ).2 e,Bool.true_and,Bool.true_and,Bool.eq_iff_iff,inB_iff,inB_iff,<-e]
        have hf:=cb_flip (κ x) q
        have hf2:=cb_flip (κ x) s
        refine ⟨fun ⟨a,b,c⟩=>⟨a,b,?_⟩,fun ⟨a,b,_⟩=>⟨a,b,hx⟩⟩
        apply Classical.byContradiction
        intro hn
        have:=cb_tr q s (κ x) hqs (by omega)
        omega
      · rw [show eqv (kLt κ) x y=false from by rw [<-Bool.not_eq_true,kEqv];exact e,Bool.false_and,Bool.false_and]
    · have e1:(L.filter fun y=>eqv (kLt κ) x y&&inB p q (κ y))=[]:=by
        rw [List.filter_eq_nil_iff]
        intro y _ hy
        rw [Bool.and_eq_true,kEqv,inB_iff] at hy
        obtain ⟨e,_,_,h⟩:=hy
        rw [<-e] at h
        omega
      rw [e1,List.nil_append]
      refine List.filter_congr fun y _=>?_
      by_cases e:κ x=κ y
      · rw [show eqv (kLt κ) x y=true from (kEqv κ).2 e,Bool.true_and,Bool.true_and,Bool.eq_iff_iff,inB_iff,inB_iff,<-e]
        refine ⟨fun ⟨a,b,c⟩=>⟨a,?_,c⟩,fun ⟨a,_,c⟩=>⟨a,by omega,c⟩⟩
        exact cb_tr p q (κ x) hpq b
      · rw [show eqv (kLt κ) x y=false from by rw [<-Bool.not_eq_true,kEqv];exact e,Bool.false_and,Bool.false_and]
theorem Stab.same {L T:List α} {p:List UInt8} {q:α->Bool} (hq:∀ x∈L,q x=decide (κ x=p)) (h:Stab (kLt κ) T (L.filter q)):T=L.filter fun x=>decide (κ x=p):=by
  rw [List.filter_congr hq] at h
  refine h.uniq (kSWO κ) (Stab.refl ?_)
  unfold Srt
  rw [List.pairwise_iff_forall_sublist]
  intro a b hab
  have ha:=(List.mem_filter.1 (hab.subset (List.mem_cons_self))).2
  have hb:=(List.mem_filter.1 (hab.subset (List.mem_cons_of_mem _ List.mem_cons_self))).2
  unfold kLt
  rw [of_decide_eq_true ha,of_decide_eq_true hb,cb_refl]
  rfl
end
end Go.Sy
namespace Go.Sy
open Go.Proofs
section
variable {cf:Cf} {Q:Exit->Act->World->Prop} {σ:Snap} {env:Env} {hp:HP} {A:List AE} {nh:Nat} {it:Item} {rest:List Item}
theorem oj_slnz {d:Nat} {x y:Operand} {t yt e:TypeId} {T:List (Nat×TI)} (hT:TTok cf.P T) {ti:TI} {ao:Option Addr} {n c n' c':Nat} (hop:it.o.op=.binOp .neq t x y yt) (hd:it.o.dst=some d)
    (hg:guardVal it.guard env=some true) (hN:Nat.blt d cf.N=true) (hx:evalO env x=some (.a (.v (.slice ao n c)))) (hy:evalO env y=some (.a (.v (.slice none n' c')))) (ht:tget T t=some ti) (hkd:ti.kind=.slice e)
    (hk:OJ cf rest Q σ ((d,.a (.b (!ao.isNone)))::env) hp A nh):OJ cf (it::rest) Q σ env hp A nh:=by
  refine oj_val (.a (.b (!ao.isNone))) hd hg hN trivial (fun _ a β ha w=>?_) hk
  have hun:=tk_slice (hT _ _ ht) hkd
  have h1:a.eval x=.slice ao n c:=evalO_eval ha hx
  have h2:a.eval y=.slice none n' c':=evalO_eval ha hy
  have hE:(Op.equal t (.slice ao n c) (.slice none n' c')).run cf.P w=.ok ao.isNone w:=run_eqNil hun 9999 ao n c n' c' w
  have hG:(eqGuard .neq t x y (.slice ao n c) (.slice none n' c')).run cf.P w=.ok () w:=rfl
  have hB:(binOp .neq t (.slice ao n c) (.slice none n' c')).run cf.P w=.ok (.bool (!ao.isNone)) w:=by
    simp only [binOp,Sem.run_bind,hE,Result.andThen_ok,Sem.run_pure]
  simp only [execOp,hop,h1,h2,Sem.run_bind,hG,hB,Result.andThen_ok,Sem.run_pure]
  rfl
end
def BtwG (ds:List GDoc) (line:Int) (p q:GPart) (T:List GItem):Prop :=
  if rightG p=true/\rightG q=true then Stab (kLt (ixB ds)) T ((onG (fun k=>decide (k=line)) ds).filter fun x=>inB (pbytes p) (pbytes q) (ixB ds x)) else T=[]
theorem Stab.items {κ:GItem->List UInt8} {M V:List Vd} (h:Stab vdLt M V) (hz:∀ v∈V,v.z=κ v.it):Stab (kLt κ) (M.map Vd.it) (V.map Vd.it):=by
  have hm:∀ v∈M,v.z=κ v.it:=fun v hv=>hz v ((h.mem vdSWO).1 hv)
  refine ⟨?_,fun x=>?_⟩
  · unfold Srt
    rw [List.pairwise_map]
    have hs:=h.srt
    unfold Srt at hs
    refine List.Pairwise.imp_of_mem ?_ hs
    intro a b ha hb hab
    unfold kLt
    rw [<-hm a ha,<-hm b hb]
    exact hab
  · rw [List.filter_map,List.filter_map]
    congr 1
    by_cases he:∃ v0∈V,v0.z=κ x
    · obtain ⟨v0,_,he⟩:=he
      have hc:=h.cls v0
      have key:∀ v,v.z=κ v.it->(eqv (kLt κ) x ∘ Vd.it) v=eqv vdLt v0 v:=fun v hv=>by
        show eqv (kLt κ) x v.it=_
        unfold eqv kLt vdLt
        rw [<-hv,<-he]
      rw [List.filter_congr (fun v hv=>key v (hm v hv)),List.filter_congr (fun v hv=>key v (hz v hv))]
      exact hc
    · have key:∀ v,v∈V->(eqv (kLt κ) x ∘ Vd.it) v=false:=fun v hv=>by
        show eqv (kLt κ) x v.it=false
        rw [<-Bool.not_eq_true,kEqv]
        intro e
        exact he ⟨v,hv,by rw [hz v hv,e]⟩
      rw [List.filter_eq_nil_iff.2 (fun v hv=>by rw [key v ((h.mem vdSWO).1 hv)];decide),List.filter_eq_nil_iff.2 (fun v hv=>by rw [key v hv];decide)]
theorem vdXs_push (V:List Vd) (x:Vd):vdXs V++(vdCells x).map AT.val=vdXs (V++[x]):=by
  simp [vdXs]
theorem map_take_succ {α β:Type} {l:List α} {k:Nat} {x:α} (f:α->β) (h:l[k]?=some x):(l.take (k+1)).map f=(l.take k).map f++[f x]:=by
  obtain ⟨hk,rfl⟩:=List.getElem?_eq_some_iff.1 h
  rw [List.take_succ_eq_append_getElem hk,List.map_append]
  rfl
structure BtS where
  s:Snap
  k:Nat
  V:List Vd
  so:Option Addr
  sc:Nat
structure BxS where
  k:Nat
  oo:Option Addr
  oc:Nat
set_option maxRecDepth 100000 in
set_option maxHeartbeats 8000000 in
theorem Between_c (σ:Snap) (m:Int) (hm:σ.cell ⟨0,0,none⟩=some (.int .i64 m)) (X:GIx) (IX:IxAt σ X) (hl:X.ds.length<=100) (hd:∀ d∈X.ds,d.ids.length=d.L.length/\d.L.length<=10000) (ho:X.ds.Pairwise fun x y=>x.id<y.id) (hF:FitIx X) (line:Int) (p q:GPart)
    (hp:p.n.dg.size<=mostLen/\p.s.size<=1000000) (hq:q.n.dg.size<=mostLen/\q.s.size<=1000000) :
    PureS Tryz.prog 47 [.agg (ixCells X),.a (.v (.int .i64 line)),.agg (paCells p),.agg (paCells q)] σ (fun v σ'=>∃ T oo oc,v=.slice oo T.length oc/\BtwG X.ds line p q T/\T.length<=1000000/\(∀ x∈T,x∈onG (fun k=>decide (k=line)) X.ds)/\SlAt σ' oo T.length oc 5 (itRows T)):=by
  refine enter_s Tryz.func47 rfl rfl ⟨ixCells_lt 0 X,trivial,paCells_lt 0 p,paCells_lt 0 q,trivial⟩ fun w=>?_
  (repeat (first | refine cj_seq ?_ | refine cjr TT rfl ?_ | refine oj_then ?_))
  refine cj_draw [(0,.quiet),(2,.quiet),(1,.keep),(3,.keep),(4,.pure),(5,.pure)] mixed (by kernel_rfl) (oj_run TT rfl ?_)
  refine oj_set 18 (.agg (paCells p)) rfl (paCells_lt _ _) (fun _=>rfl) ?_
  refine oj_callS (ys:=[.agg (paCells p)]) rfl rfl rfl rfl rfl Tryz.call117 ⟨paCells_lt 0 p,trivial⟩ (part_c σ m hm p hp) fun v s1 hle1 ⟨wo,wc,hv,HW,hn⟩=>⟨.a (.v (.slice wo (pbytes p).length wc)),trivial,hv.symm,?_⟩
  have IX:=IX.mono hle1
  have hm:=hle1.cell hm
  refine oj_run TT rfl ?_
  refine oj_set 20 (.agg (paCells q)) rfl (paCells_lt _ _) (fun _=>rfl) ?_
  refine oj_callS (ys:=[.agg (paCells q)]) rfl rfl rfl rfl rfl Tryz.call117 ⟨paCells_lt 0 q,trivial⟩ (part_c s1 m hm q hq) fun v s2 hle2 ⟨xo,xc,hv,HX,hnx⟩=>⟨.a (.v (.slice xo (pbytes q).length xc)),trivial,hv.symm,?_⟩
  have IX:=IX.mono hle2
  have hm:=hle2.cell hm
  have HW:=HW.mono hle2
  refine oj_run TT rfl ?_
  (repeat (first | refine cj_seq ?_ | refine cjr TT rfl ?_ | refine oj_then ?_ | (refine oj_slnil TT rfl rfl rfl rfl rfl rfl rfl rfl ?_;refine oj_run TT rfl ?_)))
  by_cases hrp:rightG p=true
  rotate_left
  · have h:rightG p=false:=by simpa using hrp
    have hw0:=hn (pbytes_nil.2 h)
    subst hw0
    refine oj_split 24 rfl (fun _=>?_) (fun h=>absurd h (by simp))
    refine oj_run TT rfl ?_
    (repeat (first | refine cj_seq ?_ | refine cjr TT rfl ?_ | refine oj_then ?_ | refine cj_if_t rfl ?_ | refine cj_ret ?_ | refine nj_then_ret ?_))
    refine nj_ret TT rfl fun β w' _ _=>?_
    exact ⟨[],none,0,rfl,by unfold BtwG;rw [if_neg (fun h=>hrp h.1)],Nat.zero_le _,fun x hx=>(by cases hx),SlAt.nil _ none 0 5⟩
  obtain ⟨wa,rfl⟩:=HW.adOf (List.length_pos_iff.2 (pbytes_ne hrp))
  refine oj_split 24 rfl (fun h=>absurd h (by simp)) (fun _=>?_)
  refine oj_run TT rfl ?_
  (repeat (first | refine oj_then ?_ | (refine oj_slnil TT rfl rfl rfl rfl rfl rfl rfl rfl ?_;refine oj_run TT rfl ?_)))
  by_cases hrq:rightG q=true
  rotate_left
  · have h:rightG q=false:=by simpa using hrq
    have hw0:=hnx (pbytes_nil.2 h)
    subst hw0
    refine cj_if rfl (fun _=>?_) (fun h=>absurd h (by simp))
    (repeat (first | refine cj_seq ?_ | refine cjr TT rfl ?_ | refine oj_then ?_ | refine cj_ret ?_ | refine nj_then_ret ?_))
    refine nj_ret TT rfl fun β w' _ _=>?_
    exact ⟨[],none,0,rfl,by unfold BtwG;rw [if_neg (fun h=>hrq h.2)],Nat.zero_le _,fun x hx=>(by cases hx),SlAt.nil _ none 0 5⟩
  obtain ⟨xa,rfl⟩:=HX.adOf (List.length_pos_iff.2 (pbytes_ne hrq))
  refine cj_if rfl (fun h=>absurd h (by simp)) (fun _=>?_)
  have hlen:=onG_len (q:=fun k=>decide (k=line)) (n:=10000) (k:=100) (fun d h=>(hd d h).2) hl
  (repeat (first | refine cj_seq ?_ | refine cjr TT rfl ?_ | refine oj_then ?_ | refine cj_skip ?_ | refine nj_then ?_))
  refine oj_set 28 (.agg (ixCells X)) rfl (ixCells_lt _ _) (fun _=>rfl) ?_
  refine oj_callF [] (A0:=[]) (Ar:=[]) (ys:=[.agg (ixCells X),.a (.v (.int .i64 line))]) rfl rfl rfl rfl rfl rfl rfl Tryz.call100 ⟨ixCells_lt 0 X,trivial,trivial⟩ (Of_f s2 X IX (by omega) (fun d h=>⟨(hd d h).1,by have:=(hd d h).2;omega⟩) line) fun v s3 A' hle3 ⟨oo,oc,hv,hoc,hA⟩=>⟨.a (.v (.slice oo (onG (fun k=>decide (k=line)) X.ds).length oc)),trivial,hv.symm,?_⟩
  subst hA
  refine oj_seal 0 rfl rfl rfl fun s4 hle4 hS=>?_
  have HO:=it_sealed hS hoc
  have hle34:=Snap.le_trans hle3 hle4
  have IX:=IX.mono hle34
  have hm:=hle34.cell hm
  have HW:=HW.mono hle34
  have HX:=HX.mono hle34
  generalize hLi:onG (fun k=>decide (k=line)) X.ds=Li at *
  refine oj_run TT rfl ?_
  (repeat (first | refine oj_then ?_ | refine cj_block ?_))
  refine cj_nilarr 220 6 ?_
  refine cj_loop (fun (t:BtS)=>t.s) (fun t=>[(4,.a (.p 0 0)),(9,.a (.v (.slice (some wa) (pbytes p).length wc))),(10,.a (.v (.slice (some xa) (pbytes q).length xc))),(11,.a (.v (.slice t.so t.V.length t.sc))),(30,.a (.v (.slice oo Li.length oc))),(31,.a (.v (.int .i64 Li.length))),(32,.a (.v (.int .i64 (t.k:Nat))))]) (fun _=>[(0,.loc 60,ixCells X)]) (fun t=>[vdE t.so t.V.length t.sc t.V]) 1
    (fun t=>s4.le t.s/\t.k<=Li.length/\t.V.map Vd.it=(Li.take t.k).filter (fun x=>inB (pbytes p) (pbytes q) (ixB X.ds x))/\(∀ v∈t.V,VdOk t.s v/\v.z=ixB X.ds v.it)/\t.V.length<=t.sc) (fun t=>Li.length - t.k) ⟨s4,0,[],none,0⟩ ⟨Snap.le_refl _,Nat.zero_le _,rfl,fun v hv=>(by cases hv),Nat.le_refl _⟩ rfl (by (repeat first | exact trivial | refine ⟨rfl,?_⟩)) (by (repeat first | exact trivial | refine ⟨rfl,?_⟩)) rfl ⟨Nat.zero_lt_one,trivial,trivial,trivial,trivial,trivial,trivial,trivial⟩ (by exact ⟨⟨by omega,ixCells_lt 1 X⟩,trivial⟩) fun ⟨s,k,V,so,sc⟩ ⟨hle,hk,hV,hVd,hsc⟩=>?_
  dsimp only at hle hk hV hVd hsc ⊢
  have IX:=IX.mono hle
  have hm:=hle.cell hm
  have HW:=HW.mono hle
  have HX:=HX.mono hle
  have HO:=HO.mono hle
  have hVl:V.length<=k:=by
    have:=congrArg List.length hV
    rw [List.length_map] at this
    have h2:=List.length_filter_le (fun x=>inB (pbytes p) (pbytes q) (ixB X.ds x)) (Li.take k)
    rw [List.length_take] at h2
    omega
  (repeat (first | refine cj_seq ?_ | refine cjr TT rfl ?_ | refine oj_then ?_))
  refine cj_if rfl (fun h=>?_) (fun h=>?_)
  · have hkl:k<Li.length:=by have:=of_decide_eq_true h;omega
    have hx:=List.getElem?_eq_getElem hkl
    have hrow:=itRows_get hx
    have htk:Li.take (k+1)=Li.take k++[Li[k]]:=List.take_succ_eq_append_getElem hkl
    generalize Li[k]=x at *
    have hB:=ixBytes_c s m hm X IX (by omega) ho hF x
    generalize hz:ixB X.ds x=z at *
    have hnext:∀ b:Bool,inB (pbytes p) (pbytes q) z=b->(Li.take (k+1)).filter (fun x=>inB (pbytes p) (pbytes q) (ixB X.ds x))=V.map Vd.it++if b then [x] else []:=fun b hb=>by
      rw [htk,List.filter_append,hV,List.filter_cons,hz,hb]
      cases b<;>rfl
    (repeat (first | refine cj_seq ?_ | refine cjr TT rfl ?_ | refine cj_skip ?_ | refine cj_block ?_ | refine nj_then ?_))
    refine oj_idx TT rfl rfl rfl rfl rfl rfl rfl rfl rfl HO (by omega) hrow (oj_run TT rfl ?_)
    (repeat (first | refine cj_seq ?_ | refine cjr TT rfl ?_ | refine oj_then ?_))
    refine oj_set 36 (.agg (ixCells X)) rfl (ixCells_lt _ _) (fun _=>rfl) ?_
    refine oj_set 37 (.agg (itCells x)) rfl (itCells_lt _ _) (fun _=>rfl) ?_
    refine oj_callS (ys:=[.agg (ixCells X),.agg (itCells x)]) rfl rfl rfl rfl rfl Tryz.call121 ⟨ixCells_lt 0 X,itCells_lt 0 x,trivial⟩ hB fun v s' hle' ⟨zo,zc,hv,HZ,hnz⟩=>⟨.a (.v (.slice zo z.length zc)),trivial,hv.symm,?_⟩
    have hle:=Snap.le_trans hle hle'
    have hVd:∀ v∈V,VdOk s' v/\v.z=ixB X.ds v.it:=fun v hv=>⟨(hVd v hv).1.mono hle',(hVd v hv).2⟩
    have HW:=HW.mono hle'
    have HX:=HX.mono hle'
    refine oj_run TT rfl ?_
    (repeat (first | refine cj_seq ?_ | refine cjr TT rfl ?_ | refine oj_then ?_))
    refine oj_slnz TT rfl rfl rfl rfl rfl rfl rfl rfl (oj_run TT rfl ?_)
    by_cases hz0:z=[]
    · have hzo:=hnz hz0
      subst hzo
      have hb:=hnext false (by rw [hz0];rfl)
      refine oj_split 41 rfl (fun h=>absurd h (by simp)) (fun _=>?_)
      refine oj_run TT rfl ?_
      (repeat (first | refine cjr TT rfl ?_ | refine oj_then ?_ | refine oj_nil ?_ | refine cj_if_f rfl ?_ | refine cj_skip ?_ | refine nj_then ?_ | refine nj_block ?_ | (refine oj_add rfl rfl rfl rfl rfl rfl (by omega) ?_;refine oj_run TT rfl ?_)))
      refine nj_again (⟨s',k+1,V,so,sc⟩:BtS) ⟨hle,hkl,by dsimp only;rw [hb];exact (List.append_nil _).symm,hVd,hsc⟩ (by dsimp only;omega) rfl (by (repeat first | exact trivial | refine ⟨rfl,?_⟩)) (by (repeat first | exact trivial | refine ⟨rfl,?_⟩)) rfl ⟨Nat.zero_lt_one,trivial,trivial,trivial,trivial,trivial,trivial,trivial⟩ (by exact ⟨⟨by omega,ixCells_lt 1 X⟩,trivial⟩)
    obtain ⟨za,rfl⟩:=HZ.adOf (List.length_pos_iff.2 hz0)
    refine oj_split 41 rfl (fun _=>?_) (fun h=>absurd h (by simp))
    refine oj_run TT rfl ?_
    refine oj_callP rfl rfl rfl rfl rfl Tryz.call122 (by (repeat' (first | exact trivial | constructor))) (BCompare_c s' z (pbytes p) (some za) zc HZ (some wa) wc HW) fun v hv=>⟨.a (.v (.int .i64 (Lib.compareBytes z (pbytes p)))),trivial,hv.symm,?_⟩
    refine oj_run TT rfl ?_
    refine oj_split 47 rfl (fun h1=>?_) (fun h1=>?_)
    rotate_left
    · have h1:¬ 0<=Lib.compareBytes z (pbytes p):=by have:=of_decide_eq_false h1;omega
      have hb:=hnext false (by rw [<-Bool.not_eq_true,inB_iff];exact fun h=>h1 h.2.1)
      refine oj_run TT rfl ?_
      (repeat (first | refine cjr TT rfl ?_ | refine oj_then ?_ | refine oj_nil ?_ | refine cj_if_f rfl ?_ | refine cj_skip ?_ | refine nj_then ?_ | refine nj_block ?_ | (refine oj_add rfl rfl rfl rfl rfl rfl (by omega) ?_;refine oj_run TT rfl ?_)))
      refine nj_again (⟨s',k+1,V,so,sc⟩:BtS) ⟨hle,hkl,by dsimp only;rw [hb];exact (List.append_nil _).symm,hVd,hsc⟩ (by dsimp only;omega) rfl (by (repeat first | exact trivial | refine ⟨rfl,?_⟩)) (by (repeat first | exact trivial | refine ⟨rfl,?_⟩)) rfl ⟨Nat.zero_lt_one,trivial,trivial,trivial,trivial,trivial,trivial,trivial⟩ (by exact ⟨⟨by omega,ixCells_lt 1 X⟩,trivial⟩)
    have h1:0<=Lib.compareBytes z (pbytes p):=by have:=of_decide_eq_true h1;omega
    refine oj_run TT rfl ?_
    refine oj_callP rfl rfl rfl rfl rfl Tryz.call122 (by (repeat' (first | exact trivial | constructor))) (BCompare_c s' z (pbytes q) (some za) zc HZ (some xa) xc HX) fun v hv=>⟨.a (.v (.int .i64 (Lib.compareBytes z (pbytes q)))),trivial,hv.symm,?_⟩
    refine oj_run TT rfl ?_
    (repeat refine oj_then ?_)
    refine cj_if rfl (fun h2=>?_) (fun h2=>?_)
    rotate_left
    · have h2:¬ Lib.compareBytes z (pbytes q)<0:=of_decide_eq_false h2
      have hb:=hnext false (by rw [<-Bool.not_eq_true,inB_iff];exact fun h=>h2 h.2.2)
      (repeat (first | refine cjr TT rfl ?_ | refine oj_nil ?_ | refine cj_skip ?_ | refine nj_then ?_ | refine nj_block ?_ | (refine oj_add rfl rfl rfl rfl rfl rfl (by omega) ?_;refine oj_run TT rfl ?_)))
      refine nj_again (⟨s',k+1,V,so,sc⟩:BtS) ⟨hle,hkl,by dsimp only;rw [hb];exact (List.append_nil _).symm,hVd,hsc⟩ (by dsimp only;omega) rfl (by (repeat first | exact trivial | refine ⟨rfl,?_⟩)) (by (repeat first | exact trivial | refine ⟨rfl,?_⟩)) rfl ⟨Nat.zero_lt_one,trivial,trivial,trivial,trivial,trivial,trivial,trivial⟩ (by exact ⟨⟨by omega,ixCells_lt 1 X⟩,trivial⟩)
    have h2:Lib.compareBytes z (pbytes q)<0:=of_decide_eq_true h2
    have hb:=hnext true (inB_iff.2 ⟨hz0,h1,h2⟩)
    (repeat refine cjr TT rfl ?_)
    refine oj_append_lit TT 0 rfl rfl rfl rfl rfl rfl rfl rfl rfl rfl rfl rfl rfl rfl rfl rfl rfl rfl (vdCells_lt 0 ⟨some za,zc,z,x⟩) rfl (by omega) (by show (V.length+1)*64<=_;omega) fun so' sc' hsc'=>oj_run TT rfl ?_
    (repeat (first | refine cjr TT rfl ?_ | refine oj_nil ?_ | refine nj_then ?_ | refine nj_block ?_ | (refine oj_add rfl rfl rfl rfl rfl rfl (by omega) ?_;refine oj_run TT rfl ?_)))
    have hl1:(V++[(⟨some za,zc,z,x⟩:Vd)]).length=V.length+1:=by simp
    refine nj_again (⟨s',k+1,V++[⟨some za,zc,z,x⟩],so',sc'⟩:BtS) ⟨hle,hkl,by dsimp only;rw [hb,List.map_append];rfl,fun v hv=>?_,by dsimp only;omega⟩ (by dsimp only;omega) rfl ?_ (by (repeat first | exact trivial | refine ⟨rfl,?_⟩)) ?_ ⟨Nat.zero_lt_one,trivial,trivial,trivial,trivial,trivial,trivial,trivial⟩ (by exact ⟨⟨by omega,ixCells_lt 1 X⟩,trivial⟩)
    · rcases List.mem_append.1 hv with hv | hv
      · exact hVd v hv
      · rw [List.mem_singleton] at hv
        subst hv
        exact ⟨HZ,hz.symm⟩
    · dsimp only
      rw [hl1]
      (repeat first | exact trivial | refine ⟨rfl,?_⟩)
    · show [_]=[_]
      dsimp only
      unfold vdE
      rw [hl1,<-vdXs_push]
      rfl
  have hk0:k=Li.length:=by have:=of_decide_eq_false h;omega
  rw [hk0,List.take_length] at hV
  (repeat (first | refine cj_seq ?_ | refine cjr TT rfl ?_ | refine cj_exit ?_ | refine nj_then ?_ | refine nj_then_exit ?_ | refine nj_block_out ?_))
  refine oj_callF [0] (A0:=[vdE so V.length sc V]) (Ar:=[]) rfl rfl rfl rfl rfl rfl rfl Tryz.call123 ⟨trivial,fn124_lt 0,trivial⟩ (sortStable_c s V (fun v hv=>(hVd v hv).1) V.length rfl (by omega) so sc) fun v s5 A' hle5 ⟨hv,M,hM,hMl,hA⟩=>⟨.tup [],(by (repeat' (first | exact trivial | refine SV.lt_tup ?_))),hv.symm,?_⟩
  subst hA
  have hT:=hM.items (κ:=ixB X.ds) (fun v hv=>(hVd v hv).2)
  rw [hV] at hT
  have hbt:BtwG X.ds line p q (M.map Vd.it):=by
    unfold BtwG
    rw [if_pos ⟨hrp,hrq⟩,hLi]
    exact hT
  have hmem:∀ x∈M.map Vd.it,x∈Li:=fun x hx=>(List.mem_filter.1 ((hT.mem (kSWO _)).1 hx)).1
  refine oj_run TT rfl ?_
  refine oj_then ?_
  refine cj_nilarr 71 5 ?_
  (repeat (first | refine cj_seq ?_ | refine cjr TT rfl ?_ | refine oj_then ?_ | refine cj_block ?_))
  refine cj_loop (fun (_:BxS)=>s5) (fun t=>[(15,.a (.v (.slice t.oo ((M.take t.k).map Vd.it).length t.oc))),(62,.a (.v (.slice so V.length sc))),(63,.a (.v (.int .i64 V.length))),(64,.a (.v (.int .i64 (t.k:Nat))))]) (fun _=>[]) (fun t=>[vdE so V.length sc M,itE t.oo t.oc ((M.take t.k).map Vd.it)]) 0
    (fun t=>t.k<=M.length/\t.k<=t.oc) (fun t=>M.length - t.k) ⟨0,none,0⟩ ⟨Nat.zero_le _,Nat.le_refl _⟩ rfl (by (repeat first | exact trivial | refine ⟨rfl,?_⟩)) (by (repeat first | exact trivial | refine ⟨rfl,?_⟩)) rfl ⟨trivial,trivial,trivial,trivial,trivial⟩ trivial fun ⟨k,oo,oc⟩ ⟨hk,hoc⟩=>?_
  dsimp only at hk hoc ⊢
  have hml:((M.take k).map Vd.it).length=k:=by rw [List.length_map,List.length_take];omega
  (repeat (first | refine cj_seq ?_ | refine cjr TT rfl ?_ | refine oj_then ?_))
  refine cj_if rfl (fun h=>?_) (fun h=>?_)
  · have hkl:k<M.length:=by have:=of_decide_eq_true h;omega
    have hx:=List.getElem?_eq_getElem hkl
    have hsu:=map_take_succ Vd.it hx
    generalize M[k]=y at *
    refine cj_arrAt 0 (E:=vdE so V.length sc M) rfl (show 0<V.length by omega) fun gb hgb=>?_
    have hgb:so=some ⟨gb,0,none⟩:=hgb
    subst hgb
    (repeat (first | refine cj_seq ?_ | refine cjr TT rfl ?_ | refine cj_skip ?_ | refine cj_block ?_ | refine nj_then ?_))
    refine oj_indexAddr TT rfl rfl rfl rfl rfl rfl rfl rfl rfl ⟨by omega,by omega⟩ (oj_run TT rfl ?_)
    refine oj_ldAs 0 (off:=k*6) TT (vdCells y) rfl rfl rfl rfl rfl (hadV gb _ _ rfl) rfl rfl rfl rfl rfl (fun j c hc=>vdXs_get hx j c hc) (vdCells_lt 0 y) (oj_run TT rfl ?_)
    (repeat (first | refine cjr TT rfl ?_ | refine oj_then ?_))
    refine oj_append_lit TT 1 rfl rfl rfl rfl rfl rfl rfl rfl rfl rfl rfl rfl rfl rfl rfl rfl rfl rfl (itCells_lt 0 y.it) rfl (by omega) (by rw [hml];show (k+1)*40<=_;omega) fun oo' oc' hoc'=>oj_run TT rfl ?_
    (repeat (first | refine cjr TT rfl ?_ | refine oj_nil ?_ | refine nj_then ?_ | refine nj_block ?_ | (refine oj_add rfl rfl rfl rfl rfl rfl (by omega) ?_;refine oj_run TT rfl ?_)))
    rw [hml] at hoc'
    have hl1:((M.take (k+1)).map Vd.it).length=k+1:=by rw [List.length_map,List.length_take];omega
    refine nj_again (⟨k+1,oo',oc'⟩:BxS) ⟨hkl,by dsimp only;omega⟩ (by dsimp only;omega) rfl ?_ (by (repeat first | exact trivial | refine ⟨rfl,?_⟩)) ?_ ⟨trivial,trivial,trivial,trivial,trivial⟩ trivial
    · dsimp only
      rw [hl1,hml]
      (repeat first | exact trivial | refine ⟨rfl,?_⟩)
    · show [_,_]=[_,_]
      dsimp only
      unfold itE
      rw [hl1,hml,hsu,<-itXs_push]
      rfl
  have hk0:k=M.length:=by have:=of_decide_eq_false h;omega
  subst hk0
  rw [List.take_length] at hml ⊢
  (repeat (first | refine cj_seq ?_ | refine cjr TT rfl ?_ | refine oj_then ?_ | refine cj_exit ?_ | refine cj_ret ?_ | refine nj_then ?_ | refine nj_then_exit ?_ | refine nj_block_out ?_))
  refine nj_seal 1 rfl rfl fun s6 hle6 hS=>?_
  refine nj_ret TT rfl fun β w' _ _=>?_
  exact ⟨M.map Vd.it,oo,oc,rfl,hbt,by rw [hml,hMl];omega,fun x hx=>hmem x hx,it_sealed hS (by rw [hml];exact hoc)⟩
end Go.Sy
