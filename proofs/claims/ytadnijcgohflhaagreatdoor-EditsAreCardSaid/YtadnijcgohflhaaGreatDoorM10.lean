/- Parts of the proof of CEditsAre: F69, F70, F71, F72, F73, Lo, Lq, SyU. No conditions. -/
import Derived.Test.YtadnijcgohflhaaGreatDoorM9
namespace Go.Sy
open Go.Proofs
set_option maxRecDepth 100000 in
set_option maxHeartbeats 1000000 in
theorem rCheck_c (σ:Snap) (ao:Option Addr) (cap:Nat) (l:List UInt8) (H:SlAt σ ao l.length cap 1 (bRows l)) (hl:l.length<=mostLen) :
    PlainS Tryz.prog 68 [.a (.v (.slice ao l.length cap))] σ (fun v=>v=.int .i64 (utfCheck l)):=by
  have hl':=hl
  simp only [mostLen] at hl'
  refine enter_p Tryz.func68 rfl rfl (by (repeat' (first | exact trivial | constructor))) fun w=>?_
  (repeat (first | refine cj_seq ?_ | refine cjr TT rfl ?_ | refine oj_then ?_ | refine cj_block ?_))
  refine cj_loop2 (fun _ _=>σ) (fun (n:Nat) (k:Nat)=>[(0,.a (.v (.slice ao l.length cap))),(3,.a (.v (.int .i64 k)))]) (fun _ _=>[]) (fun _ _=>[]) 0
    (fun n k=>k<=l.length/\l.length - k<n/\checkFrom l n k=utfCheck l) (fun n k=>l.length - k) (l.length+1) 0 ⟨by omega,by omega,rfl⟩ rfl (by (repeat first | exact trivial | refine ⟨rfl,?_⟩)) (by (repeat first | exact trivial | refine ⟨rfl,?_⟩)) rfl (by (repeat' (first | exact trivial | constructor))) (by (repeat' exact trivial)) fun n k ⟨hk,hn,hkn⟩=>?_
  (repeat (first | refine cj_seq ?_ | refine cjr TT rfl ?_ | refine oj_then ?_))
  refine cj_if rfl (fun h=>?_) (fun h=>?_)
  · have hkl:k<l.length:=by simp at h;omega
    (repeat (first | refine cj_seq ?_ | refine cjr TT rfl ?_ | refine cj_skip ?_ | refine cj_block ?_ | refine nj_then ?_))
    have hncap:=H.ncap
    refine oj_slice (vl:=some (.int .i64 k)) (vh:=none) TT k l.length rfl rfl rfl rfl rfl rfl rfl rfl rfl rfl (.inr ⟨_,_,rfl,rfl⟩) (.inl ⟨rfl,rfl⟩) (by omega) hncap hncap ?_
    have Ht:=H.sub (l:=k) (k:=l.length) (by omega) (by omega)
    rw [bRows_sub,List.take_length] at Ht
    generalize hao:(if cap=k then ao else ao.map (·.add (k*1)))=ao' at Ht
    generalize hcap':cap - k=cap' at Ht
    have hdl:(l.drop k).length=l.length - k:=List.length_drop
    rw [<-hdl] at Ht
    refine oj_set 13 (.a (.v (.slice ao' (l.drop k).length cap'))) rfl trivial (fun β=>?_) (oj_run TT rfl ?_)
    · rw [hdl]
    refine oj_callP rfl rfl rfl rfl rfl Tryz.call147 (by (repeat' (first | exact trivial | constructor))) (rNext_c σ ao' cap' (l.drop k) Ht (by rw [hdl];simp only [mostLen];omega)) fun v hv=>⟨_,by (repeat' (first | exact trivial | refine SV.lt_tup ?_ | constructor)),hv.symm,?_⟩
    refine oj_run TT rfl ?_
    rw [rnext_eq]
    (repeat (first | refine cj_seq ?_ | refine cjr TT rfl ?_ | refine oj_then ?_))
    have hb:0<=(utfNext (l.drop k)).2/\(utfNext (l.drop k)).2<=(l.drop k).length:=next_len (l.drop k) 4 0
    obtain ⟨m,rfl⟩:∃ m,n=m+1:=⟨n - 1,by omega⟩
    rw [checkFrom,if_pos hkl] at hkn
    refine cj_if rfl (fun h=>?_) (fun h=>?_)
    · (repeat (first | refine cj_seq ?_ | refine cjr TT rfl ?_ | refine oj_then ?_ | refine cj_ret ?_ | refine nj_then_ret ?_ | refine nj_block_ret ?_))
      refine nj_ret TT rfl fun β w' _ _=>?_
      rw [if_pos (by simpa using h)] at hkn
      rw [<-hkn]
      rfl
    · have h0:(utfNext (l.drop k)).2≠0:=by simpa using h
      rw [if_neg h0] at hkn
      (repeat (first | refine cjr TT rfl ?_ | refine oj_nil ?_ | refine cj_skip ?_ | refine nj_then ?_ | refine nj_block ?_ | (refine oj_add rfl rfl rfl rfl rfl rfl (by omega) ?_;refine oj_run TT rfl ?_)))
      have he:(k:Int)+(utfNext (l.drop k)).2=((k+(utfNext (l.drop k)).2.toNat:Nat):Int):=by omega
      rw [he]
      refine nj_again (m,k+(utfNext (l.drop k)).2.toNat) ⟨?_,?_,hkn⟩ ?_ rfl (by (repeat first | exact trivial | refine ⟨rfl,?_⟩)) (by (repeat first | exact trivial | refine ⟨rfl,?_⟩)) rfl (by (repeat' (first | exact trivial | constructor))) (by (repeat' exact trivial))<;>(dsimp only;omega)
  · have hkl:¬ k<l.length:=by simp at h;omega
    obtain ⟨m,rfl⟩:∃ m,n=m+1:=⟨n - 1,by omega⟩
    rw [checkFrom,if_neg hkl] at hkn
    (repeat (first | refine cj_seq ?_ | refine cjr TT rfl ?_ | refine oj_then ?_ | refine cj_exit ?_ | refine cj_ret ?_ | refine nj_then ?_ | refine nj_then_exit ?_ | refine nj_block_out ?_))
    refine nj_ret TT rfl fun β w' _ _=>?_
    rw [<-hkn]
    rfl
theorem digitB_iff (u:UInt8):digitB u=true↔48<=u.toNat/\u.toNat<=57:=by
  unfold digitB
  simp [<-UInt8.toNat_inj]
  omega
theorem digitB_eq (u:UInt8):digitB u=(decide ((u.toNat:Int)≥48)&&decide ((u.toNat:Int)<=57)):=by
  rw [Bool.eq_iff_iff,digitB_iff]
  simp
  omega
set_option maxRecDepth 100000 in
set_option maxHeartbeats 1000000 in
theorem rdigit_c (σ:Snap) (u:UInt8):PlainS Tryz.prog 243 [.a (.v (.int .u8 u.toNat))] σ (fun v=>v=.bool (digitB u)):=by
  rw [digitB_eq]
  refine enter_p Tryz.func243 rfl rfl (by (repeat' (first | exact trivial | constructor))) fun w=>?_
  (repeat (first | refine cj_seq ?_ | refine cjr TT rfl ?_ | refine oj_then ?_))
  refine oj_split 5 rfl (fun h=>?_) (fun h=>?_)
  · refine oj_run TT rfl ?_
    (repeat (first | refine oj_then ?_ | refine cj_ret ?_))
    refine nj_ret TT rfl fun β w' _ _=>?_
    show Value.bool _=_
    rw [h,Bool.true_and]
  · refine oj_run TT rfl ?_
    (repeat (first | refine oj_then ?_ | refine cj_ret ?_))
    refine nj_ret TT rfl fun β w' _ _=>?_
    rw [h,Bool.false_and]
    rfl
set_option maxRecDepth 100000 in
set_option maxHeartbeats 1000000 in
theorem rdecSane_c (σ:Snap) (d:GDec) (hd:d.dg.size<=mostLen):PlainS Tryz.prog 225 [.agg (decCells d)] σ (fun v=>v=.bool (decSane d)):=by
  obtain ⟨ng,dg,ex⟩:=d
  obtain ⟨l,rfl⟩:=mkB_ex dg
  have hsz:=mkB_size l
  simp only at hd
  rw [hsz] at hd
  have hd':=hd
  simp only [mostLen] at hd'
  refine enter_p Tryz.func225 rfl rfl (by (repeat' (first | exact trivial | exact decCells_lt _ _ | constructor))) fun w=>?_
  (repeat (first | refine cj_seq ?_ | refine cjr TT rfl ?_ | refine oj_then ?_))
  refine cj_if rfl (fun h=>?_) (fun h=>?_)
  · have h0:l=[]:=by simpa using h
    subst h0
    have e:decSane ⟨ng,mkB [],ex⟩=(!ng&&decide (ex=0)):=rfl
    rw [e]
    (repeat (first | refine cj_seq ?_ | refine cjr TT rfl ?_))
    refine oj_split 13 rfl (fun h=>?_) (fun h=>?_)
    · have h:(!ng)=true:=h
      refine oj_run TT rfl ?_
      (repeat (first | refine oj_then ?_ | refine cj_ret ?_ | refine nj_then_ret ?_))
      refine nj_ret TT rfl fun β w' _ _=>?_
      rw [h]
      rfl
    · have h:(!ng)=false:=h
      refine oj_run TT rfl ?_
      (repeat (first | refine oj_then ?_ | refine cj_ret ?_ | refine nj_then_ret ?_))
      refine nj_ret TT rfl fun β w' _ _=>?_
      rw [h]
      rfl
  have h0:l≠[]:=by simpa using h
  have hl0:l.length≠0:=by simpa using h0
  (repeat (first | refine cj_seq ?_ | refine cjr TT rfl ?_ | refine oj_then ?_ | refine cj_skip ?_ | refine cj_block ?_ | refine nj_then ?_))
  refine cj_loop (fun _=>σ) (fun (k:Nat)=>[(1,.a (.p 0 0)),(3,.a (.v (.int .i64 (mkB l).size))),(4,.a (.v (.int .i64 k)))]) (fun _=>[(0,.loc 24,decCells ⟨ng,mkB l,ex⟩)]) (fun _=>[]) 1
    (fun k=>k<=l.length/\(l.take k).all digitB=true) (fun k=>l.length - k) 0 ⟨Nat.zero_le _,rfl⟩ rfl (by (repeat first | exact trivial | refine ⟨rfl,?_⟩)) (by (repeat first | exact trivial | refine ⟨rfl,?_⟩)) rfl (by (repeat' (first | exact trivial | exact Nat.le_of_ble_eq_true rfl | constructor))) (by (repeat' (first | exact trivial | exact Nat.le_of_ble_eq_true rfl | exact decCells_lt _ _ | constructor))) fun k ⟨hk,hp⟩=>?_
  (repeat (first | refine cj_seq ?_ | refine cjr TT rfl ?_ | refine oj_then ?_))
  refine cj_if rfl (fun h=>?_) (fun h=>?_)
  · have hkl:k<l.length:=by have:=of_decide_eq_true h;omega
    have htk:(l.take (k+1)).all digitB=digitB l[k]:=by rw [List.take_succ_eq_append_getElem hkl,List.all_append,hp];simp
    (repeat (first | refine cj_seq ?_ | refine cjr TT rfl ?_ | refine cj_skip ?_ | refine cj_block ?_ | refine nj_then ?_))
    refine oj_index_str (u:=l[k]) TT rfl rfl rfl rfl rfl rfl rfl rfl (by omega) (by show l[((k:Nat):Int).toNat]?=_;rw [Int.toNat_natCast,List.getElem?_eq_getElem hkl]) (oj_run TT rfl ?_)
    refine oj_callP rfl rfl rfl rfl rfl Tryz.call243 (by (repeat' (first | exact trivial | constructor))) (rdigit_c σ l[k]) fun v hv=>⟨.a (.b (digitB l[k])),trivial,hv.symm,?_⟩
    refine oj_run TT rfl ?_
    (repeat refine oj_then ?_)
    refine cj_if rfl (fun h=>?_) (fun h=>?_)
    · have h:digitB l[k]=false:=by simpa using h
      (repeat (first | refine cj_seq ?_ | refine cjr TT rfl ?_ | refine oj_then ?_ | refine cj_ret ?_ | refine nj_then_ret ?_ | refine nj_block_ret ?_))
      refine nj_ret TT rfl fun β w' _ _=>?_
      show Value.bool false=_
      congr 1
      rw [decSane_mk _ _ _ hl0,show l.all digitB=false by
        rw [List.all_eq_false]
        exact ⟨l[k],List.getElem_mem hkl,by rw [h];decide⟩]
      simp
    · have h:digitB l[k]=true:=by simpa using h
      (repeat (first | refine cjr TT rfl ?_ | refine oj_nil ?_ | refine cj_skip ?_ | refine nj_then ?_ | refine nj_block ?_ | (refine oj_add rfl rfl rfl rfl rfl rfl (by omega) ?_;refine oj_run TT rfl ?_)))
      refine nj_again (k+1) ⟨hkl,by rw [htk,h]⟩ (by omega) rfl (by (repeat first | exact trivial | refine ⟨rfl,?_⟩)) (by (repeat first | exact trivial | refine ⟨rfl,?_⟩)) rfl (by (repeat' (first | exact trivial | exact Nat.le_of_ble_eq_true rfl | constructor))) (by (repeat' (first | exact trivial | exact Nat.le_of_ble_eq_true rfl | exact decCells_lt _ _ | constructor)))
  have hk0:k=l.length:=by have:=of_decide_eq_false h;omega
  subst hk0
  rw [List.take_length] at hp
  rw [decSane_mk _ _ _ hl0,hp,Bool.and_true]
  (repeat (first | refine cj_seq ?_ | refine cjr TT rfl ?_ | refine cj_exit ?_ | refine nj_then ?_ | refine nj_then_exit ?_ | refine nj_block_out ?_))
  refine oj_split 31 rfl (fun h=>?_) (fun h=>?_)
  rotate_left
  · refine oj_run TT rfl ?_
    (repeat (first | refine oj_then ?_ | refine cj_ret ?_))
    refine nj_ret TT rfl fun β w' _ _=>?_
    rw [show decide (l.length<=40)=false by have:=of_decide_eq_false h;simp;omega]
    simp only [Bool.false_and]
    rfl
  have h40:l.length<=40:=by have:=of_decide_eq_true h;omega
  rw [decide_eq_true h40,Bool.true_and]
  refine oj_run TT rfl ?_
  refine oj_split 36 rfl (fun h=>?_) (fun h=>?_)
  rotate_left
  · refine oj_run TT rfl ?_
    (repeat (first | refine oj_then ?_ | refine cj_ret ?_))
    refine nj_ret TT rfl fun β w' _ _=>?_
    rw [show decide (-800<=ex)=false by have:¬ ex ≥ -1000:=of_decide_eq_false h;simp;omega]
    simp only [Bool.false_and]
    rfl
  have hx1:ex ≥ -1000:=of_decide_eq_true h
  refine oj_run TT rfl ?_
  refine oj_split 41 rfl (fun h=>?_) (fun h=>?_)
  rotate_left
  · refine oj_run TT rfl ?_
    (repeat (first | refine oj_then ?_ | refine cj_ret ?_))
    refine nj_ret TT rfl fun β w' _ _=>?_
    rw [show decide (ex<=800)=false by have:¬ ex<=1000:=of_decide_eq_false h;simp;omega]
    simp only [Bool.and_false,Bool.false_and]
    rfl
  have hx2:ex<=1000:=of_decide_eq_true h
  refine oj_run TT rfl ?_
  refine oj_add rfl rfl rfl rfl rfl rfl (by show -9223372036854775808<=((mkB l).size:Int)+ex/\((mkB l).size:Int)+ex<=9223372036854775807;omega) (oj_run TT rfl ?_)
  refine oj_split 48 rfl (fun h=>?_) (fun h=>?_)
  rotate_left
  · refine oj_run TT rfl ?_
    (repeat (first | refine oj_then ?_ | refine cj_ret ?_))
    refine nj_ret TT rfl fun β w' _ _=>?_
    rw [show decide (-400<=(l.length:Int)+ex)=false by have:¬ ((mkB l).size:Int)+ex ≥ -400:=of_decide_eq_false h;simp;omega]
    simp only [Bool.and_false,Bool.false_and]
    rfl
  have hy1:-400<=(l.length:Int)+ex:=by have:((mkB l).size:Int)+ex ≥ -400:=of_decide_eq_true h;omega
  refine oj_run TT rfl ?_
  refine oj_add rfl rfl rfl rfl rfl rfl (by show -9223372036854775808<=((mkB l).size:Int)+ex/\((mkB l).size:Int)+ex<=9223372036854775807;omega) (oj_run TT rfl ?_)
  refine oj_split 55 rfl (fun h=>?_) (fun h=>?_)
  rotate_left
  · refine oj_run TT rfl ?_
    (repeat (first | refine oj_then ?_ | refine cj_ret ?_))
    refine nj_ret TT rfl fun β w' _ _=>?_
    rw [show decide ((l.length:Int)+ex<=400)=false by have:¬ ((mkB l).size:Int)+ex<=400:=of_decide_eq_false h;simp;omega]
    simp only [Bool.and_false,Bool.false_and]
    rfl
  have hy2:(l.length:Int)+ex<=400:=by have:((mkB l).size:Int)+ex<=400:=of_decide_eq_true h;omega
  rw [decide_eq_true hy1,decide_eq_true hy2,decide_eq_true (show -800<=ex by omega),decide_eq_true (show ex<=800 by omega)]
  simp only [Bool.true_and]
  refine oj_run TT rfl ?_
  have hlt:0<l.length:=by omega
  refine oj_index_str (u:=l[0]) TT rfl rfl rfl rfl rfl rfl rfl rfl (by omega) (by simp [hlt]) (oj_run TT rfl ?_)
  have e3:(l.head? != some 48)=!decide ((l[0].toNat:Int)=48):=by
    rw [List.head?_eq_getElem?,List.getElem?_eq_getElem hlt,Bool.eq_iff_iff]
    simp [<-UInt8.toNat_inj]
    omega
  rw [e3]
  refine oj_split 61 rfl (fun h=>?_) (fun h=>?_)
  rotate_left
  · refine oj_run TT rfl ?_
    (repeat (first | refine oj_then ?_ | refine cj_ret ?_))
    refine nj_ret TT rfl fun β w' _ _=>?_
    rw [h]
    rfl
  rw [h]
  refine oj_run TT rfl ?_
  refine oj_minus rfl rfl rfl rfl rfl rfl (by show -9223372036854775808<=((mkB l).size:Int) - 1/\((mkB l).size:Int) - 1<=9223372036854775807;omega) (oj_run TT rfl ?_)
  refine oj_index_str (u:=l[l.length - 1]) TT rfl rfl rfl rfl rfl rfl rfl rfl (by show 0<=((mkB l).size:Int) - 1;omega) (by
    show l[(((mkB l).size:Int) - 1).toNat]?=_
    rw [show (((mkB l).size:Int) - 1).toNat=l.length - 1 by omega,List.getElem?_eq_getElem (by omega)]) (oj_run TT rfl ?_)
  have e4:(l.getLast? != some 48)=!decide ((l[l.length - 1].toNat:Int)=48):=by
    rw [List.getLast?_eq_getElem?,List.getElem?_eq_getElem (by omega),Bool.eq_iff_iff]
    simp [<-UInt8.toNat_inj]
    omega
  rw [e4]
  (repeat (first | refine oj_then ?_ | refine cj_ret ?_))
  refine nj_ret TT rfl fun β w' _ _=>?_
  rfl
end Go.Sy
namespace Go.Sy
open Go.Proofs
section
variable {cf:Cf} {Q:Exit->Act->World->Prop} {σ:Snap} {env:Env} {hp:HP} {A:List AE} {nh:Nat} {it:Item} {rest:List Item}
theorem oj_neDecR {d:Nat} {x y:Operand} {yt:TypeId} {ca cb:List AT} (a b:GDec) (hP:cf.P=Tryz.prog)
    (hop:it.o.op=.binOp .neq 24 x y yt) (hd:it.o.dst=some d) (hg:guardVal it.guard env=some true) (hN:Nat.blt d cf.N=true) (hx:evalO env x=some (.agg ca)) (hy:evalO env y=some (.agg cb)) (hca:∀ β,ca.map (AT.den β)=(decCells a).map (AT.den β)) (hcb:∀ β,cb.map (AT.den β)=(decCells b).map (AT.den β))
    (hk:OJ cf rest Q σ ((d,.a (.b (!decide (a=b))))::env) hp A nh):OJ cf (it::rest) Q σ env hp A nh:=by
  refine oj_val (.a (.b (!decide (a=b)))) hd hg hN trivial (fun _ ac β ha w=>?_) hk
  have h1:ac.eval x=.agg #[.bool a.neg,.string a.dg,.int .i64 a.ex]:=(evalO_eval ha hx).trans (by simp only [SV.den,hca];rfl)
  have h2:ac.eval y=.agg #[.bool b.neg,.string b.dg,.int .i64 b.ex]:=(evalO_eval ha hy).trans (by simp only [SV.den,hcb];rfl)
  rw [hP]
  have hG:(eqGuard .neq 24 x y (.agg #[.bool a.neg,.string a.dg,.int .i64 a.ex]) (.agg #[.bool b.neg,.string b.dg,.int .i64 b.ex])).run Tryz.prog w=.ok () w:=run_eqGuard_agg w _ _ _ _ _ _ (by kernel_rfl)
  have hE:(Op.equalIn 10000 24 (.agg #[.bool a.neg,.string a.dg,.int .i64 a.ex]) (.agg #[.bool b.neg,.string b.dg,.int .i64 b.ex])).run Tryz.prog w=.ok (decide (a=b)) w:=eqDec_ok 9998 a b w
  have hB:(binOp .neq 24 (.agg #[.bool a.neg,.string a.dg,.int .i64 a.ex]) (.agg #[.bool b.neg,.string b.dg,.int .i64 b.ex])).run Tryz.prog w=.ok (.bool (!decide (a=b))) w:=by
    rw [run_neq_struct,hE]
    rfl
  simp only [execOp,hop,h1,h2,Sem.run_bind,hG,hB,Result.andThen_ok,Sem.run_pure]
  rfl
end
def ownX (g:GVal):Bool:=decide (g.kind<0)||decide (g.kind > 5)||(!decide (g.kind=1)&&g.b)||(!decide (g.kind=2)&&!decide (g.n=dec0))||(!decide (g.kind=3)&&!decide (g.s=emptyS)) ||
  (!decide (g.kind=4)&&decide ((g.l.length:Int) > 0))||(!decide (g.kind=5)&&decide ((g.ks.length:Int) > 0))
set_option maxRecDepth 100000 in
set_option maxHeartbeats 1000000 in
theorem own_c (σ:Snap) (g:GVal) (r:List AT) (hr:RepV σ g r):PlainS Tryz.prog 204 [.agg r] σ (fun v=>v=.bool (!ownX g&&decSane g.n&&decide (utfCheck g.s.data.toList<0)&&g.ks.all keyOk)):=by
  obtain ⟨la,lc,lrows,ma,mc,vrows,rfl,V⟩:=hr.open
  have hkl:=V.kl
  simp only [mostLen] at hkl
  refine enter_p Tryz.func204 rfl rfl (by (repeat' (first | exact trivial | exact vCells_lt _ _ _ _ _ _ | constructor))) fun w=>?_
  refine cj_seq ?_
  refine cj_region ?_
  refine oj_run TT rfl ?_
  refine oj_then ?_
  refine cj_seq ?_
  refine cj_region ?_
  refine oj_run TT rfl ?_
  refine oj_then ?_
  refine cj_seq ?_
  refine cj_region ?_
  refine oj_run TT rfl ?_
  refine oj_then ?_
  refine cj_seq ?_
  refine cj_seq ?_
  refine cj_cutN (fun (_:Bool)=>σ) (fun x=>[(1,.a (.p 0 0)),(61,.a (.b x))]) (fun _=>[(0,.loc 28,vCells g la lc ma mc)]) (fun _=>[]) 1 (fun x=>x=ownX g) ?_ (fun x hx=>?_)
  · refine cj_region ?_
    refine oj_run TT rfl ?_
    by_cases hlo:g.kind<0
    · refine oj_split 11 rfl (fun h=>?_) (fun h=>absurd hlo (of_decide_eq_false h))
      refine oj_run TT rfl ?_
      (repeat refine oj_nil ?_)
      refine nj_set 61 (.a (.b true)) rfl trivial (fun _=>rfl) ?_
      refine nj_again true (by simp [ownX,hlo]) Nat.zero_lt_one rfl (by (repeat first | exact trivial | refine ⟨rfl,?_⟩)) (by (repeat first | exact trivial | refine ⟨rfl,?_⟩)) rfl (by (repeat' (first | exact trivial | exact Nat.le_of_ble_eq_true rfl | constructor))) (by (repeat' (first | exact trivial | exact Nat.le_of_ble_eq_true rfl | exact vCells_lt _ _ _ _ _ _ | constructor)))
    refine oj_split 11 rfl (fun h=>absurd (of_decide_eq_true h) hlo) (fun _=>?_)
    refine oj_run TT rfl ?_
    by_cases hhi:g.kind > 5
    · refine oj_split 15 rfl (fun h=>?_) (fun h=>absurd hhi (of_decide_eq_false h))
      refine oj_run TT rfl ?_
      (repeat refine oj_nil ?_)
      refine nj_set 61 (.a (.b true)) rfl trivial (fun _=>rfl) ?_
      refine nj_again true (by simp [ownX,hhi]) Nat.zero_lt_one rfl (by (repeat first | exact trivial | refine ⟨rfl,?_⟩)) (by (repeat first | exact trivial | refine ⟨rfl,?_⟩)) rfl (by (repeat' (first | exact trivial | exact Nat.le_of_ble_eq_true rfl | constructor))) (by (repeat' (first | exact trivial | exact Nat.le_of_ble_eq_true rfl | exact vCells_lt _ _ _ _ _ _ | constructor)))
    refine oj_split 15 rfl (fun h=>absurd (of_decide_eq_true h) hhi) (fun _=>?_)
    refine oj_run TT rfl ?_
    have hcase:g.kind=0\/g.kind=1\/g.kind=2\/g.kind=3\/g.kind=4\/g.kind=5:=by omega
    rcases hcase with hk | hk | hk | hk | hk | hk
    · refine oj_split 18 rfl (fun _=>?_) (fun h=>absurd (show g.kind=1 by simpa using h) (by omega))
      refine oj_run TT rfl ?_
      refine oj_split 23 rfl (fun h=>?_) (fun h=>?_)
      · have h:g.b=true:=h
        refine oj_run TT rfl ?_
        (repeat refine oj_nil ?_)
        refine nj_set 61 (.a (.b true)) rfl trivial (fun _=>rfl) ?_
        refine nj_again true (by simp [ownX,hk,h]) Nat.zero_lt_one rfl (by (repeat first | exact trivial | refine ⟨rfl,?_⟩)) (by (repeat first | exact trivial | refine ⟨rfl,?_⟩)) rfl (by (repeat' (first | exact trivial | exact Nat.le_of_ble_eq_true rfl | constructor))) (by (repeat' (first | exact trivial | exact Nat.le_of_ble_eq_true rfl | exact vCells_lt _ _ _ _ _ _ | constructor)))
      have f1:g.b=false:=h
      refine oj_run TT rfl ?_
      refine oj_split 26 rfl (fun _=>?_) (fun h=>absurd (show g.kind=2 by simpa using h) (by omega))
      refine oj_run TT rfl ?_
      refine oj_neDecR g.n dec0 rfl rfl rfl rfl rfl rfl rfl (fun _=>rfl) (fun _=>rfl) (oj_run TT rfl ?_)
      refine oj_split 33 rfl (fun h=>?_) (fun h=>?_)
      · have h:¬ g.n=dec0:=by simpa using (show (!decide (g.n=dec0))=true from h)
        refine oj_run TT rfl ?_
        (repeat refine oj_nil ?_)
        refine nj_set 61 (.a (.b true)) rfl trivial (fun _=>rfl) ?_
        refine nj_again true (by simp [ownX,hk,h]) Nat.zero_lt_one rfl (by (repeat first | exact trivial | refine ⟨rfl,?_⟩)) (by (repeat first | exact trivial | refine ⟨rfl,?_⟩)) rfl (by (repeat' (first | exact trivial | exact Nat.le_of_ble_eq_true rfl | constructor))) (by (repeat' (first | exact trivial | exact Nat.le_of_ble_eq_true rfl | exact vCells_lt _ _ _ _ _ _ | constructor)))
      have f2:g.n=dec0:=by simpa using (show (!decide (g.n=dec0))=false from h)
      refine oj_run TT rfl ?_
      refine oj_split 36 rfl (fun _=>?_) (fun h=>absurd (show g.kind=3 by simpa using h) (by omega))
      refine oj_run TT rfl ?_
      refine oj_split 42 rfl (fun h=>?_) (fun h=>?_)
      · have h:¬ g.s=emptyS:=by simpa using (show (!decide (g.s=emptyS))=true from h)
        refine oj_run TT rfl ?_
        (repeat refine oj_nil ?_)
        refine nj_set 61 (.a (.b true)) rfl trivial (fun _=>rfl) ?_
        refine nj_again true (by simp [ownX,hk,h]) Nat.zero_lt_one rfl (by (repeat first | exact trivial | refine ⟨rfl,?_⟩)) (by (repeat first | exact trivial | refine ⟨rfl,?_⟩)) rfl (by (repeat' (first | exact trivial | exact Nat.le_of_ble_eq_true rfl | constructor))) (by (repeat' (first | exact trivial | exact Nat.le_of_ble_eq_true rfl | exact vCells_lt _ _ _ _ _ _ | constructor)))
      have f3:g.s=emptyS:=by simpa using (show (!decide (g.s=emptyS))=false from h)
      refine oj_run TT rfl ?_
      refine oj_split 45 rfl (fun _=>?_) (fun h=>absurd (show g.kind=4 by simpa using h) (by omega))
      refine oj_run TT rfl ?_
      refine oj_split 52 rfl (fun h=>?_) (fun h=>?_)
      · have h:0<g.l.length:=by have:(g.l.length:Int) > 0:=of_decide_eq_true h;omega
        refine oj_run TT rfl ?_
        (repeat refine oj_nil ?_)
        refine nj_set 61 (.a (.b true)) rfl trivial (fun _=>rfl) ?_
        refine nj_again true (by simp [ownX,hk,h]) Nat.zero_lt_one rfl (by (repeat first | exact trivial | refine ⟨rfl,?_⟩)) (by (repeat first | exact trivial | refine ⟨rfl,?_⟩)) rfl (by (repeat' (first | exact trivial | exact Nat.le_of_ble_eq_true rfl | constructor))) (by (repeat' (first | exact trivial | exact Nat.le_of_ble_eq_true rfl | exact vCells_lt _ _ _ _ _ _ | constructor)))
      have f4:¬ 0<g.l.length:=by have:¬ (g.l.length:Int) > 0:=of_decide_eq_false h;omega
      refine oj_run TT rfl ?_
      refine oj_split 55 rfl (fun _=>?_) (fun h=>absurd (show g.kind=5 by simpa using h) (by omega))
      refine oj_run TT rfl ?_
      (repeat refine oj_nil ?_)
      refine nj_again (decide ((g.ks.length:Int) > 0)) (by simp [ownX,hk,f1,f2,f3,f4]) Nat.zero_lt_one rfl (by (repeat first | exact trivial | refine ⟨rfl,?_⟩)) (by (repeat first | exact trivial | refine ⟨rfl,?_⟩)) rfl (by (repeat' (first | exact trivial | exact Nat.le_of_ble_eq_true rfl | constructor))) (by (repeat' (first | exact trivial | exact Nat.le_of_ble_eq_true rfl | exact vCells_lt _ _ _ _ _ _ | constructor)))
    · refine oj_split 18 rfl (fun h=>absurd hk (by simpa using h)) (fun _=>?_)
      refine oj_run TT rfl ?_
      refine oj_split 26 rfl (fun _=>?_) (fun h=>absurd (show g.kind=2 by simpa using h) (by omega))
      refine oj_run TT rfl ?_
      refine oj_neDecR g.n dec0 rfl rfl rfl rfl rfl rfl rfl (fun _=>rfl) (fun _=>rfl) (oj_run TT rfl ?_)
      refine oj_split 33 rfl (fun h=>?_) (fun h=>?_)
      · have h:¬ g.n=dec0:=by simpa using (show (!decide (g.n=dec0))=true from h)
        refine oj_run TT rfl ?_
        (repeat refine oj_nil ?_)
        refine nj_set 61 (.a (.b true)) rfl trivial (fun _=>rfl) ?_
        refine nj_again true (by simp [ownX,hk,h]) Nat.zero_lt_one rfl (by (repeat first | exact trivial | refine ⟨rfl,?_⟩)) (by (repeat first | exact trivial | refine ⟨rfl,?_⟩)) rfl (by (repeat' (first | exact trivial | exact Nat.le_of_ble_eq_true rfl | constructor))) (by (repeat' (first | exact trivial | exact Nat.le_of_ble_eq_true rfl | exact vCells_lt _ _ _ _ _ _ | constructor)))
      have f2:g.n=dec0:=by simpa using (show (!decide (g.n=dec0))=false from h)
      refine oj_run TT rfl ?_
      refine oj_split 36 rfl (fun _=>?_) (fun h=>absurd (show g.kind=3 by simpa using h) (by omega))
      refine oj_run TT rfl ?_
      refine oj_split 42 rfl (fun h=>?_) (fun h=>?_)
      · have h:¬ g.s=emptyS:=by simpa using (show (!decide (g.s=emptyS))=true from h)
        refine oj_run TT rfl ?_
        (repeat refine oj_nil ?_)
        refine nj_set 61 (.a (.b true)) rfl trivial (fun _=>rfl) ?_
        refine nj_again true (by simp [ownX,hk,h]) Nat.zero_lt_one rfl (by (repeat first | exact trivial | refine ⟨rfl,?_⟩)) (by (repeat first | exact trivial | refine ⟨rfl,?_⟩)) rfl (by (repeat' (first | exact trivial | exact Nat.le_of_ble_eq_true rfl | constructor))) (by (repeat' (first | exact trivial | exact Nat.le_of_ble_eq_true rfl | exact vCells_lt _ _ _ _ _ _ | constructor)))
      have f3:g.s=emptyS:=by simpa using (show (!decide (g.s=emptyS))=false from h)
      refine oj_run TT rfl ?_
      refine oj_split 45 rfl (fun _=>?_) (fun h=>absurd (show g.kind=4 by simpa using h) (by omega))
      refine oj_run TT rfl ?_
      refine oj_split 52 rfl (fun h=>?_) (fun h=>?_)
      · have h:0<g.l.length:=by have:(g.l.length:Int) > 0:=of_decide_eq_true h;omega
        refine oj_run TT rfl ?_
        (repeat refine oj_nil ?_)
        refine nj_set 61 (.a (.b true)) rfl trivial (fun _=>rfl) ?_
        refine nj_again true (by simp [ownX,hk,h]) Nat.zero_lt_one rfl (by (repeat first | exact trivial | refine ⟨rfl,?_⟩)) (by (repeat first | exact trivial | refine ⟨rfl,?_⟩)) rfl (by (repeat' (first | exact trivial | exact Nat.le_of_ble_eq_true rfl | constructor))) (by (repeat' (first | exact trivial | exact Nat.le_of_ble_eq_true rfl | exact vCells_lt _ _ _ _ _ _ | constructor)))
      have f4:¬ 0<g.l.length:=by have:¬ (g.l.length:Int) > 0:=of_decide_eq_false h;omega
      refine oj_run TT rfl ?_
      refine oj_split 55 rfl (fun _=>?_) (fun h=>absurd (show g.kind=5 by simpa using h) (by omega))
      refine oj_run TT rfl ?_
      (repeat refine oj_nil ?_)
      refine nj_again (decide ((g.ks.length:Int) > 0)) (by simp [ownX,hk,f2,f3,f4]) Nat.zero_lt_one rfl (by (repeat first | exact trivial | refine ⟨rfl,?_⟩)) (by (repeat first | exact trivial | refine ⟨rfl,?_⟩)) rfl (by (repeat' (first | exact trivial | exact Nat.le_of_ble_eq_true rfl | constructor))) (by (repeat' (first | exact trivial | exact Nat.le_of_ble_eq_true rfl | exact vCells_lt _ _ _ _ _ _ | constructor)))
    · refine oj_split 18 rfl (fun _=>?_) (fun h=>absurd (show g.kind=1 by simpa using h) (by omega))
      refine oj_run TT rfl ?_
      refine oj_split 23 rfl (fun h=>?_) (fun h=>?_)
      · have h:g.b=true:=h
        refine oj_run TT rfl ?_
        (repeat refine oj_nil ?_)
        refine nj_set 61 (.a (.b true)) rfl trivial (fun _=>rfl) ?_
        refine nj_again true (by simp [ownX,hk,h]) Nat.zero_lt_one rfl (by (repeat first | exact trivial | refine ⟨rfl,?_⟩)) (by (repeat first | exact trivial | refine ⟨rfl,?_⟩)) rfl (by (repeat' (first | exact trivial | exact Nat.le_of_ble_eq_true rfl | constructor))) (by (repeat' (first | exact trivial | exact Nat.le_of_ble_eq_true rfl | exact vCells_lt _ _ _ _ _ _ | constructor)))
      have f1:g.b=false:=h
      refine oj_run TT rfl ?_
      refine oj_split 26 rfl (fun h=>absurd hk (by simpa using h)) (fun _=>?_)
      refine oj_run TT rfl ?_
      refine oj_split 36 rfl (fun _=>?_) (fun h=>absurd (show g.kind=3 by simpa using h) (by omega))
      refine oj_run TT rfl ?_
      refine oj_split 42 rfl (fun h=>?_) (fun h=>?_)
      · have h:¬ g.s=emptyS:=by simpa using (show (!decide (g.s=emptyS))=true from h)
        refine oj_run TT rfl ?_
        (repeat refine oj_nil ?_)
        refine nj_set 61 (.a (.b true)) rfl trivial (fun _=>rfl) ?_
        refine nj_again true (by simp [ownX,hk,h]) Nat.zero_lt_one rfl (by (repeat first | exact trivial | refine ⟨rfl,?_⟩)) (by (repeat first | exact trivial | refine ⟨rfl,?_⟩)) rfl (by (repeat' (first | exact trivial | exact Nat.le_of_ble_eq_true rfl | constructor))) (by (repeat' (first | exact trivial | exact Nat.le_of_ble_eq_true rfl | exact vCells_lt _ _ _ _ _ _ | constructor)))
      have f3:g.s=emptyS:=by simpa using (show (!decide (g.s=emptyS))=false from h)
      refine oj_run TT rfl ?_
      refine oj_split 45 rfl (fun _=>?_) (fun h=>absurd (show g.kind=4 by simpa using h) (by omega))
      refine oj_run TT rfl ?_
      refine oj_split 52 rfl (fun h=>?_) (fun h=>?_)
      · have h:0<g.l.length:=by have:(g.l.length:Int) > 0:=of_decide_eq_true h;omega
        refine oj_run TT rfl ?_
        (repeat refine oj_nil ?_)
        refine nj_set 61 (.a (.b true)) rfl trivial (fun _=>rfl) ?_
        refine nj_again true (by simp [ownX,hk,h]) Nat.zero_lt_one rfl (by (repeat first | exact trivial | refine ⟨rfl,?_⟩)) (by (repeat first | exact trivial | refine ⟨rfl,?_⟩)) rfl (by (repeat' (first | exact trivial | exact Nat.le_of_ble_eq_true rfl | constructor))) (by (repeat' (first | exact trivial | exact Nat.le_of_ble_eq_true rfl | exact vCells_lt _ _ _ _ _ _ | constructor)))
      have f4:¬ 0<g.l.length:=by have:¬ (g.l.length:Int) > 0:=of_decide_eq_false h;omega
      refine oj_run TT rfl ?_
      refine oj_split 55 rfl (fun _=>?_) (fun h=>absurd (show g.kind=5 by simpa using h) (by omega))
      refine oj_run TT rfl ?_
      (repeat refine oj_nil ?_)
      refine nj_again (decide ((g.ks.length:Int) > 0)) (by simp [ownX,hk,f1,f3,f4]) Nat.zero_lt_one rfl (by (repeat first | exact trivial | refine ⟨rfl,?_⟩)) (by (repeat first | exact trivial | refine ⟨rfl,?_⟩)) rfl (by (repeat' (first | exact trivial | exact Nat.le_of_ble_eq_true rfl | constructor))) (by (repeat' (first | exact trivial | exact Nat.le_of_ble_eq_true rfl | exact vCells_lt _ _ _ _ _ _ | constructor)))
    · refine oj_split 18 rfl (fun _=>?_) (fun h=>absurd (show g.kind=1 by simpa using h) (by omega))
      refine oj_run TT rfl ?_
      refine oj_split 23 rfl (fun h=>?_) (fun h=>?_)
      · have h:g.b=true:=h
        refine oj_run TT rfl ?_
        (repeat refine oj_nil ?_)
        refine nj_set 61 (.a (.b true)) rfl trivial (fun _=>rfl) ?_
        refine nj_again true (by simp [ownX,hk,h]) Nat.zero_lt_one rfl (by (repeat first | exact trivial | refine ⟨rfl,?_⟩)) (by (repeat first | exact trivial | refine ⟨rfl,?_⟩)) rfl (by (repeat' (first | exact trivial | exact Nat.le_of_ble_eq_true rfl | constructor))) (by (repeat' (first | exact trivial | exact Nat.le_of_ble_eq_true rfl | exact vCells_lt _ _ _ _ _ _ | constructor)))
      have f1:g.b=false:=h
      refine oj_run TT rfl ?_
      refine oj_split 26 rfl (fun _=>?_) (fun h=>absurd (show g.kind=2 by simpa using h) (by omega))
      refine oj_run TT rfl ?_
      refine oj_neDecR g.n dec0 rfl rfl rfl rfl rfl rfl rfl (fun _=>rfl) (fun _=>rfl) (oj_run TT rfl ?_)
      refine oj_split 33 rfl (fun h=>?_) (fun h=>?_)
      · have h:¬ g.n=dec0:=by simpa using (show (!decide (g.n=dec0))=true from h)
        refine oj_run TT rfl ?_
        (repeat refine oj_nil ?_)
        refine nj_set 61 (.a (.b true)) rfl trivial (fun _=>rfl) ?_
        refine nj_again true (by simp [ownX,hk,h]) Nat.zero_lt_one rfl (by (repeat first | exact trivial | refine ⟨rfl,?_⟩)) (by (repeat first | exact trivial | refine ⟨rfl,?_⟩)) rfl (by (repeat' (first | exact trivial | exact Nat.le_of_ble_eq_true rfl | constructor))) (by (repeat' (first | exact trivial | exact Nat.le_of_ble_eq_true rfl | exact vCells_lt _ _ _ _ _ _ | constructor)))
      have f2:g.n=dec0:=by simpa using (show (!decide (g.n=dec0))=false from h)
      refine oj_run TT rfl ?_
      refine oj_split 36 rfl (fun h=>absurd hk (by simpa using h)) (fun _=>?_)
      refine oj_run TT rfl ?_
      refine oj_split 45 rfl (fun _=>?_) (fun h=>absurd (show g.kind=4 by simpa using h) (by omega))
      refine oj_run TT rfl ?_
      refine oj_split 52 rfl (fun h=>?_) (fun h=>?_)
      · have h:0<g.l.length:=by have:(g.l.length:Int) > 0:=of_decide_eq_true h;omega
        refine oj_run TT rfl ?_
        (repeat refine oj_nil ?_)
        refine nj_set 61 (.a (.b true)) rfl trivial (fun _=>rfl) ?_
        refine nj_again true (by simp [ownX,hk,h]) Nat.zero_lt_one rfl (by (repeat first | exact trivial | refine ⟨rfl,?_⟩)) (by (repeat first | exact trivial | refine ⟨rfl,?_⟩)) rfl (by (repeat' (first | exact trivial | exact Nat.le_of_ble_eq_true rfl | constructor))) (by (repeat' (first | exact trivial | exact Nat.le_of_ble_eq_true rfl | exact vCells_lt _ _ _ _ _ _ | constructor)))
      have f4:¬ 0<g.l.length:=by have:¬ (g.l.length:Int) > 0:=of_decide_eq_false h;omega
      refine oj_run TT rfl ?_
      refine oj_split 55 rfl (fun _=>?_) (fun h=>absurd (show g.kind=5 by simpa using h) (by omega))
      refine oj_run TT rfl ?_
      (repeat refine oj_nil ?_)
      refine nj_again (decide ((g.ks.length:Int) > 0)) (by simp [ownX,hk,f1,f2,f4]) Nat.zero_lt_one rfl (by (repeat first | exact trivial | refine ⟨rfl,?_⟩)) (by (repeat first | exact trivial | refine ⟨rfl,?_⟩)) rfl (by (repeat' (first | exact trivial | exact Nat.le_of_ble_eq_true rfl | constructor))) (by (repeat' (first | exact trivial | exact Nat.le_of_ble_eq_true rfl | exact vCells_lt _ _ _ _ _ _ | constructor)))
    · refine oj_split 18 rfl (fun _=>?_) (fun h=>absurd (show g.kind=1 by simpa using h) (by omega))
      refine oj_run TT rfl ?_
      refine oj_split 23 rfl (fun h=>?_) (fun h=>?_)
      · have h:g.b=true:=h
        refine oj_run TT rfl ?_
        (repeat refine oj_nil ?_)
        refine nj_set 61 (.a (.b true)) rfl trivial (fun _=>rfl) ?_
        refine nj_again true (by simp [ownX,hk,h]) Nat.zero_lt_one rfl (by (repeat first | exact trivial | refine ⟨rfl,?_⟩)) (by (repeat first | exact trivial | refine ⟨rfl,?_⟩)) rfl (by (repeat' (first | exact trivial | exact Nat.le_of_ble_eq_true rfl | constructor))) (by (repeat' (first | exact trivial | exact Nat.le_of_ble_eq_true rfl | exact vCells_lt _ _ _ _ _ _ | constructor)))
      have f1:g.b=false:=h
      refine oj_run TT rfl ?_
      refine oj_split 26 rfl (fun _=>?_) (fun h=>absurd (show g.kind=2 by simpa using h) (by omega))
      refine oj_run TT rfl ?_
      refine oj_neDecR g.n dec0 rfl rfl rfl rfl rfl rfl rfl (fun _=>rfl) (fun _=>rfl) (oj_run TT rfl ?_)
      refine oj_split 33 rfl (fun h=>?_) (fun h=>?_)
      · have h:¬ g.n=dec0:=by simpa using (show (!decide (g.n=dec0))=true from h)
        refine oj_run TT rfl ?_
        (repeat refine oj_nil ?_)
        refine nj_set 61 (.a (.b true)) rfl trivial (fun _=>rfl) ?_
        refine nj_again true (by simp [ownX,hk,h]) Nat.zero_lt_one rfl (by (repeat first | exact trivial | refine ⟨rfl,?_⟩)) (by (repeat first | exact trivial | refine ⟨rfl,?_⟩)) rfl (by (repeat' (first | exact trivial | exact Nat.le_of_ble_eq_true rfl | constructor))) (by (repeat' (first | exact trivial | exact Nat.le_of_ble_eq_true rfl | exact vCells_lt _ _ _ _ _ _ | constructor)))
      have f2:g.n=dec0:=by simpa using (show (!decide (g.n=dec0))=false from h)
      refine oj_run TT rfl ?_
      refine oj_split 36 rfl (fun _=>?_) (fun h=>absurd (show g.kind=3 by simpa using h) (by omega))
      refine oj_run TT rfl ?_
      refine oj_split 42 rfl (fun h=>?_) (fun h=>?_)
      · have h:¬ g.s=emptyS:=by simpa using (show (!decide (g.s=emptyS))=true from h)
        refine oj_run TT rfl ?_
        (repeat refine oj_nil ?_)
        refine nj_set 61 (.a (.b true)) rfl trivial (fun _=>rfl) ?_
        refine nj_again true (by simp [ownX,hk,h]) Nat.zero_lt_one rfl (by (repeat first | exact trivial | refine ⟨rfl,?_⟩)) (by (repeat first | exact trivial | refine ⟨rfl,?_⟩)) rfl (by (repeat' (first | exact trivial | exact Nat.le_of_ble_eq_true rfl | constructor))) (by (repeat' (first | exact trivial | exact Nat.le_of_ble_eq_true rfl | exact vCells_lt _ _ _ _ _ _ | constructor)))
      have f3:g.s=emptyS:=by simpa using (show (!decide (g.s=emptyS))=false from h)
      refine oj_run TT rfl ?_
      refine oj_split 45 rfl (fun h=>absurd hk (by simpa using h)) (fun _=>?_)
      refine oj_run TT rfl ?_
      refine oj_split 55 rfl (fun _=>?_) (fun h=>absurd (show g.kind=5 by simpa using h) (by omega))
      refine oj_run TT rfl ?_
      (repeat refine oj_nil ?_)
      refine nj_again (decide ((g.ks.length:Int) > 0)) (by simp [ownX,hk,f1,f2,f3]) Nat.zero_lt_one rfl (by (repeat first | exact trivial | refine ⟨rfl,?_⟩)) (by (repeat first | exact trivial | refine ⟨rfl,?_⟩)) rfl (by (repeat' (first | exact trivial | exact Nat.le_of_ble_eq_true rfl | constructor))) (by (repeat' (first | exact trivial | exact Nat.le_of_ble_eq_true rfl | exact vCells_lt _ _ _ _ _ _ | constructor)))
    · refine oj_split 18 rfl (fun _=>?_) (fun h=>absurd (show g.kind=1 by simpa using h) (by omega))
      refine oj_run TT rfl ?_
      refine oj_split 23 rfl (fun h=>?_) (fun h=>?_)
      · have h:g.b=true:=h
        refine oj_run TT rfl ?_
        (repeat refine oj_nil ?_)
        refine nj_set 61 (.a (.b true)) rfl trivial (fun _=>rfl) ?_
        refine nj_again true (by simp [ownX,hk,h]) Nat.zero_lt_one rfl (by (repeat first | exact trivial | refine ⟨rfl,?_⟩)) (by (repeat first | exact trivial | refine ⟨rfl,?_⟩)) rfl (by (repeat' (first | exact trivial | exact Nat.le_of_ble_eq_true rfl | constructor))) (by (repeat' (first | exact trivial | exact Nat.le_of_ble_eq_true rfl | exact vCells_lt _ _ _ _ _ _ | constructor)))
      have f1:g.b=false:=h
      refine oj_run TT rfl ?_
      refine oj_split 26 rfl (fun _=>?_) (fun h=>absurd (show g.kind=2 by simpa using h) (by omega))
      refine oj_run TT rfl ?_
      refine oj_neDecR g.n dec0 rfl rfl rfl rfl rfl rfl rfl (fun _=>rfl) (fun _=>rfl) (oj_run TT rfl ?_)
      refine oj_split 33 rfl (fun h=>?_) (fun h=>?_)
      · have h:¬ g.n=dec0:=by simpa using (show (!decide (g.n=dec0))=true from h)
        refine oj_run TT rfl ?_
        (repeat refine oj_nil ?_)
        refine nj_set 61 (.a (.b true)) rfl trivial (fun _=>rfl) ?_
        refine nj_again true (by simp [ownX,hk,h]) Nat.zero_lt_one rfl (by (repeat first | exact trivial | refine ⟨rfl,?_⟩)) (by (repeat first | exact trivial | refine ⟨rfl,?_⟩)) rfl (by (repeat' (first | exact trivial | exact Nat.le_of_ble_eq_true rfl | constructor))) (by (repeat' (first | exact trivial | exact Nat.le_of_ble_eq_true rfl | exact vCells_lt _ _ _ _ _ _ | constructor)))
      have f2:g.n=dec0:=by simpa using (show (!decide (g.n=dec0))=false from h)
      refine oj_run TT rfl ?_
      refine oj_split 36 rfl (fun _=>?_) (fun h=>absurd (show g.kind=3 by simpa using h) (by omega))
      refine oj_run TT rfl ?_
      refine oj_split 42 rfl (fun h=>?_) (fun h=>?_)
      · have h:¬ g.s=emptyS:=by simpa using (show (!decide (g.s=emptyS))=true from h)
        refine oj_run TT rfl ?_
        (repeat refine oj_nil ?_)
        refine nj_set 61 (.a (.b true)) rfl trivial (fun _=>rfl) ?_
        refine nj_again true (by simp [ownX,hk,h]) Nat.zero_lt_one rfl (by (repeat first | exact trivial | refine ⟨rfl,?_⟩)) (by (repeat first | exact trivial | refine ⟨rfl,?_⟩)) rfl (by (repeat' (first | exact trivial | exact Nat.le_of_ble_eq_true rfl | constructor))) (by (repeat' (first | exact trivial | exact Nat.le_of_ble_eq_true rfl | exact vCells_lt _ _ _ _ _ _ | constructor)))
      have f3:g.s=emptyS:=by simpa using (show (!decide (g.s=emptyS))=false from h)
      refine oj_run TT rfl ?_
      refine oj_split 45 rfl (fun _=>?_) (fun h=>absurd (show g.kind=4 by simpa using h) (by omega))
      refine oj_run TT rfl ?_
      refine oj_split 52 rfl (fun h=>?_) (fun h=>?_)
      · have h:0<g.l.length:=by have:(g.l.length:Int) > 0:=of_decide_eq_true h;omega
        refine oj_run TT rfl ?_
        (repeat refine oj_nil ?_)
        refine nj_set 61 (.a (.b true)) rfl trivial (fun _=>rfl) ?_
        refine nj_again true (by simp [ownX,hk,h]) Nat.zero_lt_one rfl (by (repeat first | exact trivial | refine ⟨rfl,?_⟩)) (by (repeat first | exact trivial | refine ⟨rfl,?_⟩)) rfl (by (repeat' (first | exact trivial | exact Nat.le_of_ble_eq_true rfl | constructor))) (by (repeat' (first | exact trivial | exact Nat.le_of_ble_eq_true rfl | exact vCells_lt _ _ _ _ _ _ | constructor)))
      have f4:¬ 0<g.l.length:=by have:¬ (g.l.length:Int) > 0:=of_decide_eq_false h;omega
      refine oj_run TT rfl ?_
      refine oj_split 55 rfl (fun h=>absurd hk (by simpa using h)) (fun _=>?_)
      refine oj_run TT rfl ?_
      (repeat refine oj_nil ?_)
      refine nj_set 61 (.a (.b false)) rfl trivial (fun _=>rfl) ?_
      refine nj_again false (by simp [ownX,hk,f1,f2,f3,f4]) Nat.zero_lt_one rfl (by (repeat first | exact trivial | refine ⟨rfl,?_⟩)) (by (repeat first | exact trivial | refine ⟨rfl,?_⟩)) rfl (by (repeat' (first | exact trivial | exact Nat.le_of_ble_eq_true rfl | constructor))) (by (repeat' (first | exact trivial | exact Nat.le_of_ble_eq_true rfl | exact vCells_lt _ _ _ _ _ _ | constructor)))
  subst hx
  refine cj_if rfl (fun h=>?_) (fun h=>?_)
  · have h:ownX g=true:=h
    (repeat (first | refine cj_seq ?_ | refine cjr TT rfl ?_ | refine oj_then ?_ | refine cj_ret ?_ | refine nj_then_ret ?_))
    refine nj_ret TT rfl fun β w' _ _=>?_
    rw [h]
    rfl
  have h:ownX g=false:=h
  rw [h]
  simp only [Bool.not_false,Bool.true_and]
  (repeat (first | refine cj_seq ?_ | refine cjr TT rfl ?_ | refine cj_skip ?_ | refine nj_then ?_))
  refine oj_callP rfl rfl rfl rfl rfl Tryz.call225 (by (repeat' (first | exact trivial | exact decCells_lt _ _ | constructor))) (rdecSane_c σ g.n V.dg) fun v hv=>⟨.a (.b (decSane g.n)),trivial,hv.symm,?_⟩
  refine oj_run TT rfl ?_
  refine oj_split 66 rfl (fun h=>?_) (fun h=>?_)
  · have h:decSane g.n=false:=by simpa using h
    refine oj_run TT rfl ?_
    (repeat (first | refine cj_seq ?_ | refine cjr TT rfl ?_ | refine oj_then ?_ | refine cj_if_t rfl ?_ | refine cj_ret ?_ | refine nj_then_ret ?_))
    refine nj_ret TT rfl fun β w' _ _=>?_
    rw [h]
    rfl
  have h:decSane g.n=true:=by simpa using h
  rw [h]
  simp only [Bool.true_and]
  obtain ⟨sl,hsl⟩:=mkB_ex g.s
  have hsz:=mkB_size sl
  have hs:=V.s
  refine oj_run TT rfl ?_
  refine oj_bytes (y:=g.s) TT rfl rfl rfl rfl rfl rfl rfl rfl rfl rfl rfl fun ao cap σ1 hle1 H=>?_
  rw [hsl,hsz,bRows_mk] at H
  refine oj_set 69 (.a (.v (.slice ao sl.length cap))) rfl trivial (fun β=>by rw [hsl,hsz]) (oj_run TT rfl ?_)
  refine oj_callP rfl rfl rfl rfl rfl Tryz.call68 (by (repeat' (first | exact trivial | constructor))) (rCheck_c σ1 ao cap sl H (by rw [<-hsz,<-hsl];exact hs)) fun v hv=>⟨.a (.v (.int .i64 (utfCheck sl))),trivial,hv.symm,?_⟩
  refine oj_run TT rfl ?_
  (repeat refine oj_then ?_)
  have hsl2:g.s.data.toList=sl:=by rw [hsl];exact mkB_list sl
  rw [hsl2]
  refine cj_if rfl (fun h=>?_) (fun h=>?_)
  · have h:utfCheck sl≥0:=of_decide_eq_true h
    (repeat (first | refine cj_seq ?_ | refine cjr TT rfl ?_ | refine oj_then ?_ | refine cj_ret ?_ | refine nj_then_ret ?_))
    refine nj_ret TT rfl fun β w' _ _=>?_
    rw [decide_eq_false (by omega),Bool.false_and]
    rfl
  have h:¬ utfCheck sl≥0:=of_decide_eq_false h
  rw [decide_eq_true (show utfCheck sl<0 by omega),Bool.true_and]
  (repeat (first | refine cj_seq ?_ | refine cjr TT rfl ?_ | refine oj_then ?_ | refine cj_skip ?_ | refine cj_block ?_ | refine nj_then ?_))
  refine cj_loop2 (fun (s:Snap) (_:Nat)=>s) (fun _ k=>[(1,.a (.p 0 0)),(5,.a (.v (.int .i64 k)))]) (fun _ _=>[(0,.loc 28,vCells g la lc ma mc)]) (fun _ _=>[]) 1
    (fun s k=>σ1.le s/\k<=g.ks.length/\(g.ks.take k).all keyOk=true) (fun _ k=>g.ks.length - k) σ1 0 ⟨Snap.le_refl _,Nat.zero_le _,rfl⟩ rfl (by (repeat first | exact trivial | refine ⟨rfl,?_⟩)) (by (repeat first | exact trivial | refine ⟨rfl,?_⟩)) rfl (by (repeat' (first | exact trivial | exact Nat.le_of_ble_eq_true rfl | constructor))) (by (repeat' (first | exact trivial | exact Nat.le_of_ble_eq_true rfl | exact vCells_lt _ _ _ _ _ _ | constructor))) fun s k ⟨hs1,hk,hp⟩=>?_
  (repeat (first | refine cj_seq ?_ | refine cjr TT rfl ?_ | refine oj_then ?_))
  refine cj_if rfl (fun h=>?_) (fun h=>?_)
  rotate_left
  · have hk0:k=g.ks.length:=by have:=of_decide_eq_false h;omega
    subst hk0
    rw [List.take_length] at hp
    (repeat (first | refine cj_seq ?_ | refine cjr TT rfl ?_ | refine oj_then ?_ | refine cj_exit ?_ | refine cj_ret ?_ | refine nj_then ?_ | refine nj_then_exit ?_ | refine nj_block_out ?_))
    refine nj_ret TT rfl fun β w' _ _=>?_
    rw [hp]
    rfl
  have hkl':k<g.ks.length:=by have:=of_decide_eq_true h;omega
  obtain ⟨r,hr1,hr2⟩:=V.v.get (List.getElem?_eq_getElem (l:=g.vs) (i:=k) (by have:=V.kv;omega))
  have hrow:=keyRows_get (List.getElem?_eq_getElem hkl') hr1
  have hkk:=V.kk _ (List.getElem_mem hkl')
  have htk:(g.ks.take (k+1)).all keyOk=keyOk g.ks[k]:=by rw [List.take_succ_eq_append_getElem hkl',List.all_append,hp];simp
  have hmem:g.ks[k]∈g.ks:=List.getElem_mem hkl'
  generalize g.ks[k]=key at *
  obtain ⟨kl,hke⟩:=mkB_ex key
  have hkz:=mkB_size kl
  obtain ⟨la',lc',lrows',ma',mc',vrows',rfl,V'⟩:=hr2.open
  (repeat (first | refine cj_seq ?_ | refine cjr TT rfl ?_ | refine cj_skip ?_ | refine cj_block ?_ | refine nj_then ?_))
  refine oj_idx TT rfl rfl rfl rfl rfl rfl rfl rfl rfl (V.M.mono (Snap.le_trans hle1 hs1)) (by omega) hrow (oj_run TT rfl ?_)
  refine oj_bytes (y:=key) TT rfl rfl rfl rfl rfl rfl rfl rfl rfl rfl rfl fun ao2 cap2 σ2 hle2 H2=>?_
  rw [hke,hkz,bRows_mk] at H2
  refine oj_set 86 (.a (.v (.slice ao2 kl.length cap2))) rfl trivial (fun β=>by rw [hke,hkz]) (oj_run TT rfl ?_)
  refine oj_callP rfl rfl rfl rfl rfl Tryz.call68 (by (repeat' (first | exact trivial | constructor))) (rCheck_c σ2 ao2 cap2 kl H2 (by rw [<-hkz,<-hke];exact hkk)) fun v hv=>⟨.a (.v (.int .i64 (utfCheck kl))),trivial,hv.symm,?_⟩
  refine oj_run TT rfl ?_
  (repeat refine oj_then ?_)
  have hko:keyOk key=decide (utfCheck kl<0):=by unfold keyOk;rw [hke,mkB_list]
  refine cj_if rfl (fun h=>?_) (fun h=>?_)
  · have h:utfCheck kl≥0:=of_decide_eq_true h
    (repeat (first | refine cj_seq ?_ | refine cjr TT rfl ?_ | refine oj_then ?_ | refine cj_ret ?_ | refine nj_then_ret ?_ | refine nj_block_ret ?_))
    refine nj_ret TT rfl fun β w' _ _=>?_
    rw [show g.ks.all keyOk=false by
      rw [List.all_eq_false]
      exact ⟨key,hmem,by rw [hko,decide_eq_false (by omega)];decide⟩]
    rfl
  · have h:¬ utfCheck kl≥0:=of_decide_eq_false h
    (repeat (first | refine cjr TT rfl ?_ | refine oj_nil ?_ | refine cj_skip ?_ | refine nj_then ?_ | refine nj_block ?_ | (refine oj_add rfl rfl rfl rfl rfl rfl (by omega) ?_;refine oj_run TT rfl ?_)))
    refine nj_again (σ2,k+1) ⟨Snap.le_trans hs1 hle2,hkl',by dsimp only;rw [htk,hko,decide_eq_true (by omega)]⟩ (by dsimp only;omega) rfl (by (repeat first | exact trivial | refine ⟨rfl,?_⟩)) (by (repeat first | exact trivial | refine ⟨rfl,?_⟩)) rfl (by (repeat' (first | exact trivial | exact Nat.le_of_ble_eq_true rfl | constructor))) (by (repeat' (first | exact trivial | exact Nat.le_of_ble_eq_true rfl | exact vCells_lt _ _ _ _ _ _ | constructor)))
theorem pos_dec (n:Nat):decide ((n:Int) > 0)=!decide (n=0):=by
  rw [Bool.eq_iff_iff]
  simp
  omega
theorem b0:∀ B N S L M D U K:Bool,(N=true->D=true)->(S=true->U=true)->(M=true->K=true)->((!(false||false||(!false&&B)||(!false&&!N)||(!false&&!S)||(!false&&!L)||(!false&&!M))&&D&&U&&K)=(!B&&N&&S&&L&&M)):=by decide +kernel
theorem b1:∀ B N S L M D U K:Bool,(N=true->D=true)->(S=true->U=true)->(M=true->K=true)->((!(false||false||(!true&&B)||(!false&&!N)||(!false&&!S)||(!false&&!L)||(!false&&!M))&&D&&U&&K)=(N&&S&&L&&M)):=by decide +kernel
theorem b2:∀ B N S L M D U K:Bool,(N=true->D=true)->(S=true->U=true)->(M=true->K=true)->((!(false||false||(!false&&B)||(!true&&!N)||(!false&&!S)||(!false&&!L)||(!false&&!M))&&D&&U&&K)=(D&&!B&&S&&L&&M)):=by decide +kernel
theorem b3:∀ B N S L M D U K:Bool,(N=true->D=true)->(S=true->U=true)->(M=true->K=true)->((!(false||false||(!false&&B)||(!false&&!N)||(!true&&!S)||(!false&&!L)||(!false&&!M))&&D&&U&&K)=(U&&!B&&N&&L&&M)):=by decide +kernel
theorem b4:∀ B N S L M D U K:Bool,(N=true->D=true)->(S=true->U=true)->(M=true->K=true)->((!(false||false||(!false&&B)||(!false&&!N)||(!false&&!S)||(!true&&!L)||(!false&&!M))&&D&&U&&K)=(!B&&N&&S&&M)):=by decide +kernel
theorem b5:∀ B N S L M D U K:Bool,(N=true->D=true)->(S=true->U=true)->(M=true->K=true)->((!(false||false||(!false&&B)||(!false&&!N)||(!false&&!S)||(!false&&!L)||(!true&&!M))&&D&&U&&K)=(K&&!B&&N&&S&&L)):=by decide +kernel
theorem own_eq (g:GVal):(!ownX g&&decSane g.n&&decide (utfCheck g.s.data.toList<0)&&g.ks.all keyOk)=fieldsG g:=by
  have hN:decide (g.n=dec0)=true->decSane g.n=true:=fun h=>by rw [of_decide_eq_true h];rfl
  have hS:decide (g.s=emptyS)=true->decide (utfCheck g.s.data.toList<0)=true:=fun h=>by rw [of_decide_eq_true h];rfl
  have hM:decide (g.ks.length=0)=true->g.ks.all keyOk=true:=fun h=>by rw [List.length_eq_zero_iff.1 (of_decide_eq_true h)];rfl
  by_cases k0:g.kind=0
  · rw [fieldsG_0 k0,<-b0 _ _ _ _ _ _ _ _ hN hS hM]
    unfold ownX
    rw [k0,pos_dec,pos_dec]
    rfl
  by_cases k1:g.kind=1
  · rw [fieldsG_1 k1,<-b1 g.b _ _ _ _ _ _ _ hN hS hM]
    unfold ownX
    rw [k1,pos_dec,pos_dec]
    rfl
  by_cases k2:g.kind=2
  · rw [fieldsG_2 k2,<-b2 _ _ _ _ _ _ _ _ hN hS hM]
    unfold ownX
    rw [k2,pos_dec,pos_dec]
    rfl
  by_cases k3:g.kind=3
  · rw [fieldsG_3 k3,<-b3 _ _ _ _ _ _ _ _ hN hS hM]
    unfold ownX
    rw [k3,pos_dec,pos_dec]
    rfl
  by_cases k4:g.kind=4
  · rw [fieldsG_4 k4,<-b4 _ _ _ (decide (g.l.length=0)) _ _ _ _ hN hS hM]
    unfold ownX
    rw [k4,pos_dec,pos_dec]
    rfl
  by_cases k5:g.kind=5
  · rw [fieldsG_5 k5,<-b5 _ _ _ _ _ _ _ _ hN hS hM]
    unfold ownX
    rw [k5,pos_dec,pos_dec]
    rfl
  rw [fieldsG_x k0 k1 k2 k3 k4 k5]
  have:ownX g=true:=by
    unfold ownX
    by_cases h:g.kind<0
    · simp [h]
    · have:g.kind > 5:=by omega
      simp [this]
  rw [this]
  rfl
end Go.Sy
namespace Go.Sy
open Go.Proofs
theorem hasKey_take_false {l:List ByteArray} {j:Nat} {x:ByteArray} (hj:j<l.length) (h:hasKey (l.take j) x=false) (hx:l[j]≠x):hasKey (l.take (j+1)) x=false:=by
  rw [List.take_succ_eq_append_getElem hj,hasKey_append,h,Bool.false_or]
  simp [hasKey,hx]
theorem hasKey_take_true {l:List ByteArray} {j k:Nat} {x:ByteArray} (hj:j<l.length) (hjk:j<k) (hx:l[j]=x):hasKey (l.take k) x=true:=by
  rw [hasKey_iff,<-hx]
  exact List.mem_take_iff_getElem.2 ⟨j,by omega,rfl⟩
set_option maxRecDepth 100000 in
set_option maxHeartbeats 1000000 in
theorem rtwice_c (σ:Snap) (g:GVal) (r:List AT) (hr:RepV σ g r):PlainS Tryz.prog 205 [.agg r] σ (fun v=>v=.bool (twiceG g.ks)):=by
  obtain ⟨la,lc,lrows,ma,mc,vrows,rfl,V⟩:=hr.open
  have hkl:=V.kl
  simp only [mostLen] at hkl
  have hkv:=V.kv
  refine enter_p Tryz.func205 rfl rfl (by (repeat' (first | exact trivial | exact vCells_lt _ _ _ _ _ _ | constructor))) fun w=>?_
  (repeat (first | refine cj_seq ?_ | refine cjr TT rfl ?_ | refine oj_then ?_ | refine cj_block ?_))
  refine cj_loop (fun (_:Nat)=>σ) (fun k=>[(1,.a (.p 0 0)),(3,.a (.v (.int .i64 k)))]) (fun _=>[(0,.loc 28,vCells g la lc ma mc)]) (fun _=>[]) 1
    (fun k=>k<=g.ks.length/\twiceFrom (g.ks.take k) (g.ks.drop k)=twiceG g.ks) (fun k=>g.ks.length - k) 0 ⟨Nat.zero_le _,rfl⟩ rfl (by (repeat first | exact trivial | refine ⟨rfl,?_⟩)) (by (repeat first | exact trivial | refine ⟨rfl,?_⟩)) rfl (by (repeat' (first | exact trivial | exact Nat.le_of_ble_eq_true rfl | constructor))) (by (repeat' (first | exact trivial | exact Nat.le_of_ble_eq_true rfl | exact vCells_lt _ _ _ _ _ _ | constructor))) fun k ⟨hk,hp⟩=>?_
  (repeat (first | refine cj_seq ?_ | refine cjr TT rfl ?_ | refine oj_then ?_))
  refine cj_if rfl (fun h=>?_) (fun h=>?_)
  rotate_left
  · have hk0:k=g.ks.length:=by have:=of_decide_eq_false h;omega
    subst hk0
    rw [List.drop_length,twiceFrom] at hp
    (repeat (first | refine cj_seq ?_ | refine cjr TT rfl ?_ | refine oj_then ?_ | refine cj_exit ?_ | refine cj_ret ?_ | refine nj_then ?_ | refine nj_then_exit ?_ | refine nj_block_out ?_))
    refine nj_ret TT rfl fun β w' _ _=>?_
    rw [<-hp]
    rfl
  have hkl':k<g.ks.length:=by have:=of_decide_eq_true h;omega
  rw [List.drop_eq_getElem_cons hkl',twiceFrom] at hp
  obtain ⟨rk,hrk1,hrk2⟩:=V.v.get (List.getElem?_eq_getElem (l:=g.vs) (i:=k) (by omega))
  have hrowk:=keyRows_get (List.getElem?_eq_getElem hkl') hrk1
  obtain ⟨la',lc',lrows',ma',mc',vrows',rfl,V'⟩:=hrk2.open
  (repeat (first | refine cj_seq ?_ | refine cjr TT rfl ?_ | refine oj_then ?_ | refine cj_skip ?_ | refine cj_block ?_ | refine nj_then ?_))
  refine cj_loop (fun (_:Nat)=>σ) (fun j=>[(1,.a (.p 0 0)),(3,.a (.v (.int .i64 k))),(4,.a (.v (.int .i64 j)))]) (fun _=>[(0,.loc 28,vCells g la lc ma mc)]) (fun _=>[]) 1
    (fun j=>j<=k/\hasKey (g.ks.take j) g.ks[k]=false) (fun j=>k - j) 0 ⟨Nat.zero_le _,rfl⟩ rfl (by (repeat first | exact trivial | refine ⟨rfl,?_⟩)) (by (repeat first | exact trivial | refine ⟨rfl,?_⟩)) rfl (by (repeat' (first | exact trivial | exact Nat.le_of_ble_eq_true rfl | constructor))) (by (repeat' (first | exact trivial | exact Nat.le_of_ble_eq_true rfl | exact vCells_lt _ _ _ _ _ _ | constructor))) fun j ⟨hj,hq⟩=>?_
  (repeat (first | refine cj_seq ?_ | refine cjr TT rfl ?_ | refine oj_then ?_))
  refine cj_if rfl (fun h=>?_) (fun h=>?_)
  rotate_left
  · have hj0:j=k:=by have:=of_decide_eq_false h;omega
    subst hj0
    rw [if_neg (by simp [hq])] at hp
    (repeat (first | refine cjr TT rfl ?_ | refine oj_nil ?_ | refine cj_exit ?_ | refine nj_then ?_ | refine nj_then_exit ?_ | refine nj_block ?_ | refine nj_block_out ?_ | (refine oj_add rfl rfl rfl rfl rfl rfl (by omega) ?_;refine oj_run TT rfl ?_)))
    refine nj_again (j+1) ⟨hkl',by rw [List.take_succ_eq_append_getElem hkl'];exact hp⟩ (by omega) rfl (by (repeat first | exact trivial | refine ⟨rfl,?_⟩)) (by (repeat first | exact trivial | refine ⟨rfl,?_⟩)) rfl (by (repeat' (first | exact trivial | exact Nat.le_of_ble_eq_true rfl | constructor))) (by (repeat' (first | exact trivial | exact Nat.le_of_ble_eq_true rfl | exact vCells_lt _ _ _ _ _ _ | constructor)))
  have hjk:j<k:=by have:=of_decide_eq_true h;omega
  have hjl:j<g.ks.length:=by omega
  obtain ⟨rj,hrj1,hrj2⟩:=V.v.get (List.getElem?_eq_getElem (l:=g.vs) (i:=j) (by omega))
  have hrowj:=keyRows_get (List.getElem?_eq_getElem hjl) hrj1
  obtain ⟨la2,lc2,lrows2,ma2,mc2,vrows2,rfl,V2⟩:=hrj2.open
  (repeat (first | refine cj_seq ?_ | refine cj_skip ?_ | refine cj_block ?_ | refine nj_then ?_))
  refine cj_draw [(0,.pure),(1,.quiet),(2,.pure),(3,.pure),(4,.pure),(5,.quiet),(6,.pure),(7,.quiet),(8,.pure),(9,.pure),(10,.pure),(11,.quiet),(12,.pure)] mixed (by kernel_rfl) (oj_run TT rfl ?_)
  refine oj_idx TT rfl rfl rfl rfl rfl rfl rfl rfl rfl V.M (by omega) hrowk (oj_run TT rfl ?_)
  refine oj_idx TT rfl rfl rfl rfl rfl rfl rfl rfl rfl V.M (by omega) hrowj (oj_run TT rfl ?_)
  (repeat refine oj_then ?_)
  refine cj_if rfl (fun h=>?_) (fun h=>?_)
  · have h:g.ks[k]=g.ks[j]:=of_decide_eq_true h
    rw [if_pos (hasKey_take_true hjl hjk h.symm)] at hp
    (repeat (first | refine cj_seq ?_ | refine cjr TT rfl ?_ | refine oj_then ?_ | refine cj_ret ?_ | refine nj_then_ret ?_ | refine nj_block_ret ?_))
    refine nj_ret TT rfl fun β w' _ _=>?_
    rw [<-hp]
    rfl
  · have h:¬ g.ks[k]=g.ks[j]:=of_decide_eq_false h
    (repeat (first | refine cjr TT rfl ?_ | refine oj_nil ?_ | refine cj_skip ?_ | refine nj_then ?_ | refine nj_block ?_ | (refine oj_add rfl rfl rfl rfl rfl rfl (by omega) ?_;refine oj_run TT rfl ?_)))
    refine nj_again (j+1) ⟨hjk,hasKey_take_false hjl hq (fun e=>h e.symm)⟩ (by omega) rfl (by (repeat first | exact trivial | refine ⟨rfl,?_⟩)) (by (repeat first | exact trivial | refine ⟨rfl,?_⟩)) rfl (by (repeat' (first | exact trivial | exact Nat.le_of_ble_eq_true rfl | constructor))) (by (repeat' (first | exact trivial | exact Nat.le_of_ble_eq_true rfl | exact vCells_lt _ _ _ _ _ _ | constructor)))
def rsaneV (p:Int×Int):Int:=if p.1≠0 then 0 else p.2
set_option maxRecDepth 100000 in
set_option maxHeartbeats 4000000 in
theorem rsane_c (g:GVal):∀ (σ:Snap) (r:List AT) (deep c:Int),RepV σ g r->0<=deep->deep+g.weight<=1099511627776->g.weight<=1000000->0<=c->c<=4096 ->
    PlainS Tryz.prog 144 [.agg r,.a (.v (.int .i64 deep)),.a (.v (.int .i64 (c+1)))] σ (fun v=>v=.tuple #[.int .i64 (rsaneV (saneG g deep c)),.int .i64 (saneG g deep c).1]):=by
  induction g using GVal.byWeight with | _ g ih=>?_
  intro σ r deep c hr hd1 hd2 hw hc1 hc2
  have hrep:=hr
  obtain ⟨la,lc,lrows,ma,mc,vrows,rfl,V⟩:=hr.open
  have hil:=in_len g
  have hkv:=V.kv
  have hbd:=saneG_eq g deep c
  refine enter_p Tryz.func144 rfl rfl (by (repeat' (first | exact trivial | exact vCells_lt _ _ _ _ _ _ | constructor))) fun w=>?_
  (repeat (first | refine cj_seq ?_ | refine cjr TT rfl ?_ | refine oj_then ?_ | refine cj_block ?_))
  refine oj_callP rfl rfl rfl rfl rfl Tryz.call204 (by (repeat' (first | exact trivial | exact vCells_lt _ _ _ _ _ _ | constructor))) (own_c σ g _ hrep) fun v hv=>⟨.a (.b (fieldsG g)),trivial,(by rw [hv,own_eq];rfl),?_⟩
  refine oj_run TT rfl ?_
  (repeat refine oj_then ?_)
  refine cj_if rfl (fun h=>?_) (fun h=>?_)
  · have h:fieldsG g=false:=by simpa using h
    rw [if_pos h] at hbd
    (repeat (first | refine cj_seq ?_ | refine cjr TT rfl ?_ | refine oj_then ?_ | refine cj_ret ?_ | refine nj_then_ret ?_ | refine nj_block_ret ?_))
    refine nj_ret TT rfl fun β w' _ _=>?_
    rw [hbd]
    rfl
  have h:fieldsG g=true:=by simpa using h
  rw [if_neg (by simp [h])] at hbd
  (repeat (first | refine cj_seq ?_ | refine cjr TT rfl ?_))
  refine oj_callP rfl rfl rfl rfl rfl Tryz.call205 (by (repeat' (first | exact trivial | exact vCells_lt _ _ _ _ _ _ | constructor))) (rtwice_c σ g _ hrep) fun v hv=>⟨.a (.b (twiceG g.ks)),trivial,hv.symm,?_⟩
  refine oj_run TT rfl ?_
  (repeat refine oj_then ?_)
  refine cj_if rfl (fun h=>?_) (fun h=>?_)
  · rw [if_pos h] at hbd
    (repeat (first | refine cj_seq ?_ | refine cjr TT rfl ?_ | refine oj_then ?_ | refine cj_ret ?_ | refine nj_then_ret ?_ | refine nj_block_ret ?_))
    refine nj_ret TT rfl fun β w' _ _=>?_
    rw [hbd]
    rfl
  rw [if_neg (by simp [h])] at hbd
  refine cj_cutB (α:=Unit) (fun _=>σ) (fun _=>[(1,.a (.v (.int .i64 deep))),(2,.a (.v (.int .i64 (c+1)))),(3,.a (.p 0 0))]) (fun _=>[(0,.loc 28,vCells g la lc ma mc)]) (fun _=>[]) 1
    (fun _=>¬ (4<=g.kind/\64<=deep)/\¬ 4096<c+1) ?_ (fun _ ⟨hx1,hx2⟩=>?_)
  · (repeat (first | refine cj_seq ?_ | refine cjr TT rfl ?_))
    refine oj_split 23 rfl (fun h=>?_) (fun h=>?_)
    · have h4:4<=g.kind:=of_decide_eq_true h
      refine oj_run TT rfl ?_
      (repeat refine oj_then ?_)
      refine cj_if rfl (fun h=>?_) (fun h=>?_)
      · have h64:64<=deep:=of_decide_eq_true h
        rw [if_pos ⟨h4,h64⟩] at hbd
        (repeat (first | refine cj_seq ?_ | refine cjr TT rfl ?_ | refine oj_then ?_ | refine cj_ret ?_ | refine nj_then_ret ?_ | refine nj_block_ret ?_))
        refine nj_ret TT rfl fun β w' _ _=>?_
        rw [hbd]
        rfl
      have h64:¬ 64<=deep:=of_decide_eq_false h
      have hn:¬ (4<=g.kind/\64<=deep):=fun h=>h64 h.2
      rw [if_neg hn] at hbd
      (repeat (first | refine cj_seq ?_ | refine cjr TT rfl ?_ | refine oj_then ?_))
      refine cj_if rfl (fun h=>?_) (fun h=>?_)
      · have h:4096<c+1:=of_decide_eq_true h
        rw [if_pos h] at hbd
        (repeat (first | refine cj_seq ?_ | refine cjr TT rfl ?_ | refine oj_then ?_ | refine cj_ret ?_ | refine nj_then_ret ?_ | refine nj_block_ret ?_))
        refine nj_ret TT rfl fun β w' _ _=>?_
        rw [hbd]
        rfl
      have h:¬ 4096<c+1:=of_decide_eq_false h
      (repeat (first | refine cj_skip ?_ | refine nj_block ?_))
      refine nj_again () ⟨hn,h⟩ Nat.zero_lt_one rfl (by (repeat first | exact trivial | refine ⟨rfl,?_⟩)) (by (repeat first | exact trivial | refine ⟨rfl,?_⟩)) rfl (by (repeat' (first | exact trivial | exact Nat.le_of_ble_eq_true rfl | constructor))) (by (repeat' (first | exact trivial | exact Nat.le_of_ble_eq_true rfl | exact vCells_lt _ _ _ _ _ _ | constructor)))
    · have h4:¬ 4<=g.kind:=of_decide_eq_false h
      have hn:¬ (4<=g.kind/\64<=deep):=fun h=>h4 h.1
      rw [if_neg hn] at hbd
      refine oj_run TT rfl ?_
      (repeat (first | refine cj_seq ?_ | refine cjr TT rfl ?_ | refine oj_then ?_ | refine cj_if_f rfl ?_))
      refine cj_if rfl (fun h=>?_) (fun h=>?_)
      · have h:4096<c+1:=of_decide_eq_true h
        rw [if_pos h] at hbd
        (repeat (first | refine cj_seq ?_ | refine cjr TT rfl ?_ | refine oj_then ?_ | refine cj_ret ?_ | refine nj_then_ret ?_ | refine nj_block_ret ?_))
        refine nj_ret TT rfl fun β w' _ _=>?_
        rw [hbd]
        rfl
      have h:¬ 4096<c+1:=of_decide_eq_false h
      (repeat (first | refine cj_skip ?_ | refine nj_block ?_))
      refine nj_again () ⟨hn,h⟩ Nat.zero_lt_one rfl (by (repeat first | exact trivial | refine ⟨rfl,?_⟩)) (by (repeat first | exact trivial | refine ⟨rfl,?_⟩)) rfl (by (repeat' (first | exact trivial | exact Nat.le_of_ble_eq_true rfl | constructor))) (by (repeat' (first | exact trivial | exact Nat.le_of_ble_eq_true rfl | exact vCells_lt _ _ _ _ _ _ | constructor)))
  rw [if_neg hx1,if_neg hx2] at hbd
  have hlen:(g.l++g.vs).length=g.l.length+g.ks.length:=by rw [List.length_append,hkv]
  (repeat (first | refine cj_seq ?_ | refine cjr TT rfl ?_ | refine oj_then ?_ | refine cj_block ?_))
  refine cj_loop2 (fun _ _=>σ) (fun (k:Nat) (c':Int)=>[(1,.a (.v (.int .i64 deep))),(2,.a (.v (.int .i64 c'))),(3,.a (.p 0 0)),(8,.a (.v (.int .i64 k)))]) (fun _ _=>[(0,.loc 28,vCells g la lc ma mc)]) (fun _ _=>[]) 1
    (fun k c'=>k<=(g.l++g.vs).length/\0<=c'/\c'<=4096/\saneL ((g.l++g.vs).drop k) deep c'=saneG g deep c) (fun k _=>(g.l++g.vs).length - k) 0 (c+1)
    ⟨Nat.zero_le _,by omega,by omega,hbd.symm⟩ rfl (by (repeat first | exact trivial | refine ⟨rfl,?_⟩)) (by (repeat first | exact trivial | refine ⟨rfl,?_⟩)) rfl (by (repeat' (first | exact trivial | exact Nat.le_of_ble_eq_true rfl | constructor))) (by (repeat' (first | exact trivial | exact Nat.le_of_ble_eq_true rfl | exact vCells_lt _ _ _ _ _ _ | constructor))) fun k c' ⟨hk,hc1',hc2',hbd'⟩=>?_
  (repeat (first | refine cj_seq ?_ | refine cjr TT rfl ?_ | refine oj_then ?_ | (refine oj_add rfl rfl rfl rfl rfl rfl (by omega) ?_;refine oj_run TT rfl ?_)))
  refine cj_if rfl (fun h=>?_) (fun h=>?_)
  rotate_left
  · have hk0:k=(g.l++g.vs).length:=by have:=of_decide_eq_false h;omega
    subst hk0
    rw [List.drop_length,saneL] at hbd'
    (repeat (first | refine cj_seq ?_ | refine cjr TT rfl ?_ | refine oj_then ?_ | refine cj_exit ?_ | refine cj_ret ?_ | refine nj_then ?_ | refine nj_then_exit ?_ | refine nj_block_out ?_))
    refine nj_ret TT rfl fun β w' _ _=>?_
    rw [<-hbd']
    rfl
  have hkl':k<(g.l++g.vs).length:=by have:=of_decide_eq_true h;omega
  have hwx:=in_weight (List.getElem_mem hkl')
  have hb:=saneG_bd (g.l++g.vs)[k] (deep+1) c' hc2'
  rw [List.drop_eq_getElem_cons hkl',saneL] at hbd'
  have hxl:∀ h:k<g.l.length,(g.l++g.vs)[k]=g.l[k]:=fun h=>List.getElem_append_left h
  have hxr:∀ h:¬ k<g.l.length,(g.l++g.vs)[k]=g.vs[k - g.l.length]'(by omega):=fun h=>List.getElem_append_right (by omega)
  generalize (g.l++g.vs)[k]=x at *
  (repeat (first | refine cj_seq ?_ | refine cjr TT rfl ?_ | refine oj_then ?_ | refine cj_skip ?_ | refine cj_block ?_ | refine nj_then ?_))
  refine cj_cutN (fun (_:Option Addr×Nat×Option Addr×Nat)=>σ) (fun _=>[(1,.a (.v (.int .i64 deep))),(2,.a (.v (.int .i64 c'))),(3,.a (.p 0 0)),(8,.a (.v (.int .i64 k))),(9,.a (.p 1 0))])
    (fun a=>[(0,.loc 28,vCells g la lc ma mc),(1,.loc 28,vCells x a.1 a.2.1 a.2.2.1 a.2.2.2)]) (fun _=>[]) 2 (fun a=>∃ lr vr,VAt σ x a.1 a.2.1 lr a.2.2.1 a.2.2.2 vr) ?_ (fun ⟨a1,a2,a3,a4⟩ ⟨lr,vr,VX⟩=>?_)
  · refine cj_if rfl (fun h=>?_) (fun h=>?_)
    · have hkl:k<g.l.length:=by have:=of_decide_eq_true h;omega
      have hx:=hxl hkl
      obtain ⟨rr,hr1,hr2⟩:=V.l.get (List.getElem?_eq_getElem hkl)
      rw [<-hx] at hr2
      obtain ⟨la',lc',lrows',ma',mc',vrows',rfl,V'⟩:=hr2.open
      (repeat refine cjr TT rfl ?_)
      refine oj_idx TT rfl rfl rfl rfl rfl rfl rfl rfl rfl V.L (by omega) hr1 (oj_run TT rfl ?_)
      (repeat refine oj_nil ?_)
      refine nj_again (la',lc',ma',mc') ⟨_,_,V'⟩ Nat.zero_lt_one rfl (by (repeat first | exact trivial | refine ⟨rfl,?_⟩)) (by (repeat first | exact trivial | refine ⟨rfl,?_⟩)) rfl (by (repeat' (first | exact trivial | exact Nat.le_of_ble_eq_true rfl | constructor))) (by (repeat' (first | exact trivial | exact Nat.le_of_ble_eq_true rfl | exact vCells_lt _ _ _ _ _ _ | constructor)))
    · have hkl:¬ k<g.l.length:=by have:=of_decide_eq_false h;omega
      have hx:=hxr hkl
      have hkm:k - g.l.length<g.ks.length:=by omega
      obtain ⟨rr,hr1,hr2⟩:=V.v.get (List.getElem?_eq_getElem (l:=g.vs) (i:=k - g.l.length) (by omega))
      have hrow:=keyRows_get (List.getElem?_eq_getElem hkm) hr1
      rw [<-hx] at hr2
      obtain ⟨la',lc',lrows',ma',mc',vrows',rfl,V'⟩:=hr2.open
      have he:(k:Int) - (g.l.length:Int)=((k - g.l.length:Nat):Int):=by omega
      (repeat (first | refine cjr TT rfl ?_ | (refine oj_minus rfl rfl rfl rfl rfl rfl (by omega) ?_;refine oj_run TT rfl ?_)))
      rw [he]
      refine oj_idx TT rfl rfl rfl rfl rfl rfl rfl rfl rfl V.M (by omega) hrow (oj_run TT rfl ?_)
      (repeat refine oj_nil ?_)
      refine nj_again (la',lc',ma',mc') ⟨_,_,V'⟩ Nat.zero_lt_one rfl (by (repeat first | exact trivial | refine ⟨rfl,?_⟩)) (by (repeat first | exact trivial | refine ⟨rfl,?_⟩)) rfl (by (repeat' (first | exact trivial | exact Nat.le_of_ble_eq_true rfl | constructor))) (by (repeat' (first | exact trivial | exact Nat.le_of_ble_eq_true rfl | exact vCells_lt _ _ _ _ _ _ | constructor)))
  dsimp only at VX ⊢
  have ih1:=ih x hwx σ _ (deep+1) c' VX.rep (by omega) (by omega) (by omega) hc1' hc2'
  (repeat (first | refine cj_seq ?_ | refine cjr TT rfl ?_ | (refine oj_add rfl rfl rfl rfl rfl rfl (by omega) ?_;refine oj_run TT rfl ?_)))
  refine oj_callP rfl rfl rfl rfl rfl Tryz.call144 (by (repeat' (first | exact trivial | exact vCells_lt _ _ _ _ _ _ | constructor))) ih1 fun v hv=>⟨.tup [.a (.v (.int .i64 (rsaneV (saneG x (deep+1) c')))),.a (.v (.int .i64 (saneG x (deep+1) c').1))],by (repeat' (first | exact trivial | refine SV.lt_tup ?_ | constructor)),hv.symm,?_⟩
  refine oj_run TT rfl ?_
  (repeat (first | refine cj_seq ?_ | refine cjr TT rfl ?_ | refine oj_then ?_))
  refine cj_if rfl (fun h=>?_) (fun h=>?_)
  · have h:(saneG x (deep+1) c').1≠0:=by simpa using h
    rw [if_pos h] at hbd'
    (repeat (first | refine cj_seq ?_ | refine cjr TT rfl ?_ | refine oj_then ?_ | refine cj_ret ?_ | refine nj_then_ret ?_ | refine nj_block_ret ?_))
    refine nj_ret TT rfl fun β w' _ _=>?_
    rw [<-hbd']
    unfold rsaneV
    rw [if_pos h]
    rfl
  · have h:(saneG x (deep+1) c').1=0:=by simpa using h
    rw [if_neg (by simp [h])] at hbd'
    have er:rsaneV (saneG x (deep+1) c')=(saneG x (deep+1) c').2:=by unfold rsaneV;rw [if_neg (by simp [h])]
    rw [er]
    (repeat (first | refine cjr TT rfl ?_ | refine oj_nil ?_ | refine cj_skip ?_ | refine nj_then ?_ | refine nj_block ?_ | (refine oj_add rfl rfl rfl rfl rfl rfl (by omega) ?_;refine oj_run TT rfl ?_)))
    refine nj_again (k+1,(saneG x (deep+1) c').2) ⟨hkl',by dsimp only;omega,hb.2.2 h,hbd'⟩ (by dsimp only;omega) rfl (by (repeat first | exact trivial | refine ⟨rfl,?_⟩)) (by (repeat first | exact trivial | refine ⟨rfl,?_⟩)) rfl (by (repeat' (first | exact trivial | exact Nat.le_of_ble_eq_true rfl | constructor))) (by (repeat' (first | exact trivial | exact Nat.le_of_ble_eq_true rfl | exact vCells_lt _ _ _ _ _ _ | constructor)))
set_option maxRecDepth 100000 in
set_option maxHeartbeats 1000000 in
theorem RSane_c (σ:Snap) (g:GVal) (r:List AT) (hr:RepV σ g r) (hw:g.weight<=1000000):PlainS Tryz.prog 66 [.agg r] σ (fun v=>v=.int .i64 (sane g)):=by
  obtain ⟨la,lc,lrows,ma,mc,vrows,rfl,V⟩:=hr.open
  have h1:=rsane_c g σ _ 0 0 V.rep (by omega) (by omega) hw (by omega) (by omega)
  refine enter_p Tryz.func66 rfl rfl (by (repeat' (first | exact trivial | exact vCells_lt _ _ _ _ _ _ | constructor))) fun w=>?_
  (repeat (first | refine cj_seq ?_ | refine cjr TT rfl ?_ | refine oj_then ?_))
  refine oj_callP rfl rfl rfl rfl rfl Tryz.call144 (by (repeat' (first | exact trivial | exact vCells_lt _ _ _ _ _ _ | constructor))) h1 fun v hv=>⟨.tup [.a (.v (.int .i64 (rsaneV (saneG g 0 0)))),.a (.v (.int .i64 (saneG g 0 0).1))],by (repeat' (first | exact trivial | refine SV.lt_tup ?_ | constructor)),hv.symm,?_⟩
  refine oj_run TT rfl ?_
  (repeat (first | refine cj_seq ?_ | refine cjr TT rfl ?_ | refine oj_then ?_ | refine cj_ret ?_))
  refine nj_ret TT rfl fun β w' _ _=>?_
  rfl
end Go.Sy
namespace Go.Sy
open Go.Proofs
theorem r2E_sealed {σ:Snap} {ao:Option Addr} {cap:Nat} {l:List GRec} (h:ArrSealed σ (r2E ao l.length cap l)) (hc:l.length<=cap):SlAt σ ao l.length cap 11 (recRows l) :=
  h.sl (E:=r2E ao l.length cap l) rfl (fun r hr=>⟨(recRows_all l r hr).1,(recRows_all l r hr).2.1⟩) (recRows_len l) rfl hc
set_option maxRecDepth 100000 in
set_option maxHeartbeats 1000000 in
theorem RShred_f (σ:Snap) (g:GVal) (r:List AT) (gap:Int) (hr:RepV σ g r) (hw:g.weight<=100000) :
    FnS Tryz.prog 81 [.agg r,.a (.v (.int .i64 gap))] σ [] (fun v _ A'=>∃ E,A'=[E]/\∃ ao cap,(shredG g gap).1.length<=cap/\E=r2E ao (shredG g gap).1.length cap (shredG g gap).1/\v=.tuple #[.slice ao (shredG g gap).1.length cap,.int .i64 (shredG g gap).2]):=by
  obtain ⟨la,lc,lrows,ma,mc,vrows,rfl,V⟩:=hr.open
  refine enter_f Tryz.func81 rfl rfl (by (repeat' (first | exact trivial | exact vCells_lt _ _ _ _ _ _ | constructor))) fun w=>?_
  have bad:(gap<1\/1000<gap)->shredG g gap=([],1):=fun h=>by unfold shredG;rw [if_pos h]
  (repeat (first | refine cj_seq ?_ | refine cjr TT rfl ?_ | refine oj_then ?_))
  refine oj_split 10 rfl (fun h=>?_) (fun h=>?_)
  · have h1:gap<1:=of_decide_eq_true h
    rw [bad (.inl h1)]
    refine oj_run TT rfl ?_
    (repeat (first | refine cj_seq ?_ | refine cjr TT rfl ?_ | refine oj_then ?_ | refine cj_if_t rfl ?_ | refine cj_ret ?_ | refine nj_then_ret ?_))
    refine nj_nilarr 131 11 ?_
    refine nj_fret TT rfl fun β w' _ _=>?_
    exact ⟨_,rfl,none,0,Nat.le_refl _,rfl,rfl⟩
  have h1:¬ gap<1:=of_decide_eq_false h
  refine oj_run TT rfl ?_
  (repeat refine oj_then ?_)
  refine cj_if rfl (fun h=>?_) (fun h=>?_)
  · have h2:1000<gap:=of_decide_eq_true h
    rw [bad (.inr h2)]
    (repeat (first | refine cj_seq ?_ | refine cjr TT rfl ?_ | refine oj_then ?_ | refine cj_ret ?_ | refine nj_then_ret ?_))
    refine nj_nilarr 131 11 ?_
    refine nj_fret TT rfl fun β w' _ _=>?_
    exact ⟨_,rfl,none,0,Nat.le_refl _,rfl,rfl⟩
  have h2:¬ 1000<gap:=of_decide_eq_false h
  have e1:shredG g gap=if sane g≠0 then ([],sane g) else ((shredV gap g 0 false emptyS 0).1,0):=by unfold shredG;rw [if_neg (by omega)]
  rw [e1]
  (repeat (first | refine cj_seq ?_ | refine cjr TT rfl ?_ | refine cj_skip ?_ | refine nj_then ?_))
  refine oj_callP rfl rfl rfl rfl rfl Tryz.call66 (by (repeat' (first | exact trivial | exact vCells_lt _ _ _ _ _ _ | constructor))) (RSane_c σ g _ hr (by omega)) fun v hv=>⟨.a (.v (.int .i64 (sane g))),trivial,hv.symm,?_⟩
  refine oj_run TT rfl ?_
  (repeat (first | refine cj_seq ?_ | refine cjr TT rfl ?_ | refine oj_then ?_))
  refine cj_if rfl (fun h=>?_) (fun h=>?_)
  · have h3:sane g≠0:=by simpa using h
    rw [if_pos h3]
    (repeat (first | refine cj_seq ?_ | refine cjr TT rfl ?_ | refine oj_then ?_ | refine cj_ret ?_ | refine nj_then_ret ?_))
    refine nj_nilarr 131 11 ?_
    refine nj_fret TT rfl fun β w' _ _=>?_
    exact ⟨_,rfl,none,0,Nat.le_refl _,rfl,rfl⟩
  have h3:sane g=0:=by simpa using h
  rw [if_neg (by simp [h3])]
  (repeat (first | refine cj_seq ?_ | refine cjr TT rfl ?_ | refine oj_then ?_ | refine cj_skip ?_ | refine nj_then ?_))
  refine oj_own 1 1 3 rfl (by (repeat' (first | exact trivial | refine AllLt.of ?_ | constructor))) rfl (by decide) fun gs=>?_
  refine oj_nilarr 131 11 ?_
  refine oj_callF [0,1] (A0:=sh2A gs none 0 0 gap []) (Ar:=[]) rfl rfl rfl rfl rfl rfl rfl Tryz.call155 (by (repeat' (first | exact trivial | exact vCells_lt _ _ _ _ _ _ | constructor))) (FnS.b rfl (value2_c g σ _ false emptyS 0 gs none 0 0 gap [] V.rep (by omega) (by omega) (by omega) (by omega) (by simp;omega) (Int.le_refl _) (by omega) (Nat.le_refl _))) fun v σ2 A2 hle2 ⟨hv,ao',cap',hcp',hA⟩=>⟨.tup [],(by (repeat' (first | exact trivial | refine SV.lt_tup ?_))),hv.symm,?_⟩
  subst hA
  rw [List.nil_append] at hcp' ⊢
  refine oj_run TT rfl ?_
  (repeat (first | refine cj_seq ?_ | refine cjr TT rfl ?_ | refine oj_then ?_))
  refine oj_ldA 0 (c:=.v (.slice ao' (shredV gap g 0 false emptyS 0).1.length cap')) TT rfl rfl rfl rfl rfl rfl rfl rfl rfl rfl rfl trivial (oj_run TT rfl ?_)
  (repeat (first | refine oj_then ?_ | refine cj_ret ?_))
  refine nj_re [1] rfl rfl ?_
  refine nj_fret TT rfl fun β w' _ _=>?_
  exact ⟨_,rfl,ao',cap',hcp',rfl,rfl⟩
theorem RShred_s (σ:Snap) (g:GVal) (r:List AT) (gap:Int) (hr:RepV σ g r) (hw:g.weight<=100000) :
    PureS Tryz.prog 81 [.agg r,.a (.v (.int .i64 gap))] σ (fun v σ'=>∃ ao cap,v=.tuple #[.slice ao (shredG g gap).1.length cap,.int .i64 (shredG g gap).2]/\SlAt σ' ao (shredG g gap).1.length cap 11 (recRows (shredG g gap).1)) :=
  (RShred_f σ g r gap hr hw).seal1 fun v _ _ E ⟨ao,cap,hc,hE,hv⟩ _ hS=>⟨ao,cap,hv,r2E_sealed (by rw [<-hE];exact hS) hc⟩
end Go.Sy
namespace Go.Sy
open Go.Proofs
set_option maxRecDepth 100000 in
set_option maxHeartbeats 1000000 in
theorem ours_c (σ:Snap) (xs:List GRec) (hl:xs.length<=1000000) (ao:Option Addr) (cap:Nat) (H:SlAt σ ao xs.length cap 11 (recRows xs)) :
    PureS Tryz.prog 14 [.a (.v (.slice ao xs.length cap))] σ (fun v σ'=>∃ bo bc,v=.slice bo xs.length bc/\SlAt σ' bo xs.length bc 11 (recRows xs)):=by
  refine enter_s Tryz.func14 rfl rfl (by (repeat' (first | exact trivial | constructor))) fun w=>?_
  (repeat (first | refine cj_seq ?_ | refine cjr TT rfl ?_ | refine oj_then ?_ | refine cj_block ?_))
  refine cj_nilarr 130 11 ?_
  refine cj_cutB (fun (_:Option Addr×Nat)=>σ) (fun s=>[(3,.a (.v (.slice s.1 xs.length s.2)))]) (fun _=>[]) (fun s=>[rE s.1 xs.length s.2 xs]) 0 (fun s=>xs.length<=s.2) ?_ (fun s hs=>?_)
  rotate_left
  · obtain ⟨bo,bc⟩:=s
    dsimp only at hs ⊢
    (repeat (first | refine cj_seq ?_ | refine cjr TT rfl ?_ | refine oj_then ?_ | refine cj_ret ?_))
    refine nj_seal 0 rfl rfl fun σ2 hle2 hS1=>?_
    refine nj_ret TT rfl fun β w' _ _=>?_
    exact ⟨bo,bc,rfl,rE_sealed hS1 hs⟩
  refine cj_loop2 (fun _ (_:Option Addr×Nat)=>σ) (fun (k:Nat) s=>[(0,.a (.v (.slice ao xs.length cap))),(3,.a (.v (.slice s.1 (xs.take k).length s.2))),(4,.a (.v (.int .i64 k)))])
    (fun _ _=>[]) (fun k s=>[rE s.1 (xs.take k).length s.2 (xs.take k)]) 0
    (fun k s=>k<=xs.length/\k<=s.2) (fun k _=>xs.length - k) 0 (none,0) ⟨Nat.zero_le _,Nat.le_refl _⟩ rfl (by (repeat first | exact trivial | refine ⟨rfl,?_⟩)) (by (repeat first | exact trivial | refine ⟨rfl,?_⟩)) rfl (by (repeat' (first | exact trivial | constructor))) (by (repeat' exact trivial)) fun k ⟨bo,bc⟩ ⟨hk,hbc⟩=>?_
  dsimp only at hbc ⊢
  (repeat (first | refine cj_seq ?_ | refine cjr TT rfl ?_ | refine oj_then ?_))
  refine cj_if rfl (fun h=>?_) (fun h=>?_)
  rotate_left
  · have hk0:k=xs.length:=by have:=of_decide_eq_false h;omega
    subst hk0
    rw [List.take_length]
    (repeat (first | refine cj_exit ?_ | refine nj_then_exit ?_ | refine nj_block_out ?_))
    refine nj_again (bo,bc) hbc Nat.zero_lt_one rfl (by (repeat first | exact trivial | refine ⟨rfl,?_⟩)) (by (repeat first | exact trivial | refine ⟨rfl,?_⟩)) rfl (by (repeat' (first | exact trivial | constructor))) (by (repeat' exact trivial))
  have hkl:k<xs.length:=by have:=of_decide_eq_true h;omega
  have hra:=recRows_get (List.getElem?_eq_getElem hkl)
  have htk:xs.take (k+1)=xs.take k++[xs[k]]:=List.take_succ_eq_append_getElem hkl
  have hlk:(xs.take k).length=k:=by rw [List.length_take];omega
  generalize xs[k]=x at *
  have hlk1:(xs.take (k+1)).length=k+1:=by rw [List.length_take];omega
  rw [hlk]
  (repeat (first | refine cj_seq ?_ | refine cjr TT rfl ?_ | refine cj_skip ?_ | refine cj_block ?_ | refine nj_then ?_))
  refine oj_idx TT rfl rfl rfl rfl rfl rfl rfl rfl rfl H (by omega) hra (oj_run TT rfl ?_)
  (repeat (first | refine cjr TT rfl ?_ | refine oj_then ?_))
  refine oj_append_lit TT 0 rfl rfl rfl rfl rfl rfl rfl rfl rfl rfl rfl rfl rfl rfl rfl rfl rfl rfl (by (repeat' (first | exact trivial | refine AllLt.of ?_ | constructor))) rfl (by omega) (by show (k+1)*112<=_;omega) fun ao' cap' hcap'=>oj_run TT rfl ?_
  (repeat (first | refine cjr TT rfl ?_ | refine oj_nil ?_ | refine nj_then ?_ | refine nj_block ?_ | (refine oj_add rfl rfl rfl rfl rfl rfl (by omega) ?_;refine oj_run TT rfl ?_)))
  refine nj_again (k+1,(ao',cap')) ⟨hkl,hcap'⟩ (by dsimp only;omega) rfl ?_ (by (repeat first | exact trivial | refine ⟨rfl,?_⟩)) ?_ (by (repeat' (first | exact trivial | constructor))) (by (repeat' exact trivial))
  · dsimp only
    rw [hlk1]
    (repeat first | exact trivial | refine ⟨rfl,?_⟩)
  · show [_]=[_]
    dsimp only
    unfold rE
    rw [hlk1,htk,recXs_append]
    rfl
set_option maxRecDepth 100000 in
set_option maxHeartbeats 1000000 in
theorem theirs_c (σ:Snap) (xs:List GRec) (hl:xs.length<=1000000) (ao:Option Addr) (cap:Nat) (H:SlAt σ ao xs.length cap 11 (recRows xs)) :
    PureS Tryz.prog 18 [.a (.v (.slice ao xs.length cap))] σ (fun v σ'=>∃ bo bc,v=.slice bo xs.length bc/\SlAt σ' bo xs.length bc 11 (recRows xs)):=by
  refine enter_s Tryz.func18 rfl rfl (by (repeat' (first | exact trivial | constructor))) fun w=>?_
  (repeat (first | refine cj_seq ?_ | refine cjr TT rfl ?_ | refine oj_then ?_ | refine cj_block ?_))
  refine cj_nilarr 131 11 ?_
  refine cj_cutB (fun (_:Option Addr×Nat)=>σ) (fun s=>[(3,.a (.v (.slice s.1 xs.length s.2)))]) (fun _=>[]) (fun s=>[r2E s.1 xs.length s.2 xs]) 0 (fun s=>xs.length<=s.2) ?_ (fun s hs=>?_)
  rotate_left
  · obtain ⟨bo,bc⟩:=s
    dsimp only at hs ⊢
    (repeat (first | refine cj_seq ?_ | refine cjr TT rfl ?_ | refine oj_then ?_ | refine cj_ret ?_))
    refine nj_seal 0 rfl rfl fun σ2 hle2 hS1=>?_
    refine nj_ret TT rfl fun β w' _ _=>?_
    exact ⟨bo,bc,rfl,r2E_sealed hS1 hs⟩
  refine cj_loop2 (fun _ (_:Option Addr×Nat)=>σ) (fun (k:Nat) s=>[(0,.a (.v (.slice ao xs.length cap))),(3,.a (.v (.slice s.1 (xs.take k).length s.2))),(4,.a (.v (.int .i64 k)))])
    (fun _ _=>[]) (fun k s=>[r2E s.1 (xs.take k).length s.2 (xs.take k)]) 0
    (fun k s=>k<=xs.length/\k<=s.2) (fun k _=>xs.length - k) 0 (none,0) ⟨Nat.zero_le _,Nat.le_refl _⟩ rfl (by (repeat first | exact trivial | refine ⟨rfl,?_⟩)) (by (repeat first | exact trivial | refine ⟨rfl,?_⟩)) rfl (by (repeat' (first | exact trivial | constructor))) (by (repeat' exact trivial)) fun k ⟨bo,bc⟩ ⟨hk,hbc⟩=>?_
  dsimp only at hbc ⊢
  (repeat (first | refine cj_seq ?_ | refine cjr TT rfl ?_ | refine oj_then ?_))
  refine cj_if rfl (fun h=>?_) (fun h=>?_)
  rotate_left
  · have hk0:k=xs.length:=by have:=of_decide_eq_false h;omega
    subst hk0
    rw [List.take_length]
    (repeat (first | refine cj_exit ?_ | refine nj_then_exit ?_ | refine nj_block_out ?_))
    refine nj_again (bo,bc) hbc Nat.zero_lt_one rfl (by (repeat first | exact trivial | refine ⟨rfl,?_⟩)) (by (repeat first | exact trivial | refine ⟨rfl,?_⟩)) rfl (by (repeat' (first | exact trivial | constructor))) (by (repeat' exact trivial))
  have hkl:k<xs.length:=by have:=of_decide_eq_true h;omega
  have hra:=recRows_get (List.getElem?_eq_getElem hkl)
  have htk:xs.take (k+1)=xs.take k++[xs[k]]:=List.take_succ_eq_append_getElem hkl
  have hlk:(xs.take k).length=k:=by rw [List.length_take];omega
  generalize xs[k]=x at *
  have hlk1:(xs.take (k+1)).length=k+1:=by rw [List.length_take];omega
  rw [hlk]
  (repeat (first | refine cj_seq ?_ | refine cjr TT rfl ?_ | refine cj_skip ?_ | refine cj_block ?_ | refine nj_then ?_))
  refine oj_idx TT rfl rfl rfl rfl rfl rfl rfl rfl rfl H (by omega) hra (oj_run TT rfl ?_)
  (repeat (first | refine cjr TT rfl ?_ | refine oj_then ?_))
  refine oj_append_lit TT 0 rfl rfl rfl rfl rfl rfl rfl rfl rfl rfl rfl rfl rfl rfl rfl rfl rfl rfl (by (repeat' (first | exact trivial | refine AllLt.of ?_ | constructor))) rfl (by omega) (by show (k+1)*112<=_;omega) fun ao' cap' hcap'=>oj_run TT rfl ?_
  (repeat (first | refine cjr TT rfl ?_ | refine oj_nil ?_ | refine nj_then ?_ | refine nj_block ?_ | (refine oj_add rfl rfl rfl rfl rfl rfl (by omega) ?_;refine oj_run TT rfl ?_)))
  refine nj_again (k+1,(ao',cap')) ⟨hkl,hcap'⟩ (by dsimp only;omega) rfl ?_ (by (repeat first | exact trivial | refine ⟨rfl,?_⟩)) ?_ (by (repeat' (first | exact trivial | constructor))) (by (repeat' exact trivial))
  · dsimp only
    rw [hlk1]
    (repeat first | exact trivial | refine ⟨rfl,?_⟩)
  · show [_]=[_]
    dsimp only
    unfold r2E
    rw [hlk1,htk,recXs_append]
    rfl
end Go.Sy
/- Plain law: what is laid among a shred's records is there. No program in sight. -/
namespace Go.Sy
theorem Swap.det {g g1:GVal} {P:List GStep} {h h':GVal} (hs:Swap g g1 P h h'):g.wf->keysOk g->∀ {g2 h2:GVal},Swap g g2 P h2 h'->g1=g2:=by
  induction hs with
  | refl h h' =>
    intro _ _ g2 h2 h
    cases h
    rfl
  | @step g v' m x P h h' hx hs ih =>
    intro hw hk g2 h2 ht
    generalize hQ:stepOf m x::P=Q at ht
    cases ht with
    | refl=>cases hQ
    | @step _ w' n y Q' _ _ hy ht =>
      obtain ⟨e1,e2⟩:=List.cons.inj hQ
      have hmn:=stepOf_inj hk hx hy e1
      subst hmn
      obtain rfl:x=y:=by rw [hx] at hy;exact Option.some.inj hy
      subst e2
      have hm:=List.mem_of_getElem? hx
      rw [ih (its_wf hw hm) (its_keys hw hk hm) ht]
theorem er_parts {A B A' B':List GRec} (h:(A++B).map er=(A'++B').map er) (hl:A.length=A'.length):A.map er=A'.map er/\B.map er=B'.map er:=by
  rw [List.map_append,List.map_append] at h
  exact List.append_inj h (by rw [List.length_map,List.length_map,hl])
theorem shredV_er {g:GVal} (hw:g.wf) (gap gap':Int) (hg:0<gap) (lv:Int) (nm:Bool) (name:ByteArray) (now now':Int):(shredV gap g lv nm name now).1.map er=(shredV gap' g lv nm name now').1.map er :=
  (shred_lay hg hw lv nm name now).er_eq hw gap' now'
theorem swap_all {gap:Int} (hg:0<gap) {g:GVal} (hw:g.wf) (hk:keysOk g) {P:List GStep} {h:GVal} {q:Nat} {now':Int} (hs:Sub gap g 0 0 P h q now') {h':GVal} (hw':h'.wf) :
    ∃ g',Swap g g' P h h'/\∃ pre post nm' name',(shredV gap g 0 false emptyS 0).1=pre++((shredV gap h P.length nm' name' now').1++post)/\q=pre.length /\
      (∀ H':List GRec,LayV h' P.length nm' name' now' H' (now'+wV gap h)->LayV g' 0 false emptyS 0 (pre++(H'++post)) (wV gap g)) /\
      (∀ H':List GRec,H'.map er=(shredV 1 h' P.length nm' name' 0).1.map er->(pre++(H'++post)).map er=(shredV 1 g' 0 false emptyS 0).1.map er):=by
  obtain ⟨g',hsw,hd⟩:=hs.swap hg h' hw
  obtain ⟨pre,post,nm',name',h1,h2,-,h4⟩:=hd 0 false emptyS
  rw [Int.zero_add,Int.zero_add] at h4
  rw [Int.zero_add] at h1
  rw [Nat.zero_add] at h2
  refine ⟨g',hsw,pre,post,nm',name',h1,h2,h4,fun H' hH=>?_⟩
  have hc':=cntV_pos h'
  have hc:=cntV_pos h
  obtain ⟨now2,hs2⟩:=Sub.regap (gap':=(cntV h':Int)) hs 0
  obtain ⟨g2,hsw2,hd2⟩:=hs2.swap (by omega) h' hw
  obtain ⟨pre2,post2,nm2,name2,k1,k2,-,k4⟩:=hd2 0 false emptyS
  rw [Int.zero_add,Int.zero_add] at k4
  rw [Int.zero_add] at k1
  rw [Nat.zero_add] at k2
  obtain rfl:=hsw.det hw hk hsw2
  have hwh:=(sub_bd hg hs hw).1
  have hee:=shredV_er hw gap (cntV h':Int) hg 0 false emptyS 0 0
  rw [h1,k1] at hee
  obtain ⟨e1,e2⟩:=er_parts hee (by omega)
  have hl1:=shredV_cnt gap h P.length nm' name' now' hwh
  have hl2:=shredV_cnt (cntV h':Int) h P.length nm2 name2 now2 hwh
  obtain ⟨e3,e4⟩:=er_parts e2 (by rw [hl1,hl2])
  rw [shredV_its _ _ _ _ _ _ hwh,shredV_its _ _ _ _ _ _ hwh,List.map_cons,List.map_cons] at e3
  have e5:=(List.cons.inj e3).1
  have e6:=congrArg GRec.nm e5
  have e7:=congrArg GRec.name e5
  have e6:nm'=nm2:=e6
  have e7:name'=name2:=e7
  subst e6 e7
  have hlay:=shred_lay (gap:=1) (by omega) hw' P.length nm' name' now2
  have hwle:wV 1 h'<=wV (cntV h':Int) h:=by
    rw [wV1 hw',wVg hwh]
    have e:(2*(cntV h':Int))*1<=2*(cntV h':Int)*(cntV h:Int):=Int.mul_le_mul_of_nonneg_left (by omega) (by omega)
    omega
  have hG:=k4 _ (hlay.up (Int.le_refl _) (by omega))
  rw [<-hG.er_eq (hsw.wf hw hw') 1 0]
  simp only [List.map_append]
  rw [e1,e4,hH,shredV_er hw' 1 1 (by omega) P.length nm' name' 0 now2]
theorem LayI.sorted_aux {A B:List GRec} {m:Int} (hA:A.Pairwise fun r s=>r.st<s.st) (hB:B.Pairwise fun r s=>r.st<s.st) (h1:∀ r∈A,r.st<=m) (h2:∀ r∈B,m<r.st):(A++B).Pairwise fun r s:GRec=>r.st<s.st :=
  List.pairwise_append.2 ⟨hA,hB,fun r hr s hs=>by have:=h1 r hr;have:=h2 s hs;omega⟩
mutual
theorem LayV.sorted:∀ {g:GVal} {lv:Int} {nm:Bool} {name:ByteArray} {lo hi:Int} {L:List GRec},LayV g lv nm name lo L hi->L.Pairwise fun r s=>r.st<s.st
  | _,_,_,_,_,_,_,.mk h1 h2 h3 h4=>List.pairwise_cons.2 ⟨fun r hr=>(h2.bd r hr).1,h2.sorted⟩
theorem LayI.sorted:∀ {xs:List Itm} {lv lo hi:Int} {L:List GRec},LayI xs lv lo L hi->L.Pairwise fun r s=>r.st<s.st
  | _,_,_,_,_,.nil h=>List.Pairwise.nil
  | _,_,_,_,_,.cons (mid:=mid) h1 h2=>LayI.sorted_aux (m:=mid) h1.sorted h2.sorted (fun r hr=>by have:=h1.bd r hr;omega) (fun r hr=>by have:=h2.bd r hr;omega)
end
end Go.Sy
/- Plain laws: what is taken away from a shred's records, and what is laid in its place. No program in sight. -/
namespace Go.Sy
theorem sub_kinds {gap:Int} {g:GVal} {p:Nat} {now:Int} {P:List GStep} {h:GVal} {q:Nat} {now':Int} (hs:Sub gap g p now P h q now'):g.wf->kinds g->kinds h:=by
  induction hs with
  | refl=>exact fun _ h=>h
  | @step g p now m x P h q now' hx hs ih=>exact fun hw hd=>ih (its_wf hw (List.mem_of_getElem? hx)) (its_kinds hw hd (List.mem_of_getElem? hx))
def deleteG (L:List GRec) (i:Int):List GRec×Int :=
  if placeE L i≠0 then ([],placeE L i) else if i=0 then ([],6) else (L.take i.toNat++L.drop (lastG L i.toNat+1).toNat,0)
def repN (r:GRec) (m n:Int):Int:=if n=2*m - 1 then r.en else r.st+(r.en - r.st+1).tdiv (2*m)*n
def replaceG (L:List GRec) (i:Int) (g:GVal):GRes :=
  if placeE L i≠0 then ⟨[],0,0,placeE L i⟩ else if sane g≠0 then ⟨[],0,0,sane g⟩ else
  match L[i.toNat]? with
  | none=>⟨[],0,0,1⟩
  | some r=>runG L i.toNat (lastG L i.toNat+1).toNat (laidG g r (repN r (cntS g))) (r.en - r.st+1)
end Go.Sy
/- Regions whose orders fork: of two operations that change the world, either may come first, and both ways are gone. No program in sight. -/
namespace Go.Sy
structure GJ (cf:Cf) (ops:Array Oper) (U bef:List Nat) (n:Nat) (listed:Array Bool) (fst:Bool) (Q:Exit->Act->World->Prop) (σ:Snap) (env:Env) (hp:HP) (A:List AE) (nh:Nat):Prop where
  run:Region.noSelect ops=true->Bd env hp nh->∀ a β,StA cf env β a->(∃ w,StW cf σ hp A β w)->Closed ops listed->∀ E0:World->Prop,(∀ x,StW cf σ hp A β x->E0 x) ->
    (fst=true->∀ x,E0 x->StW cf σ hp A β x)->wpAnyC cf.P ops U Q n listed a E0 (fun w=>StW cf σ hp A β w)
structure GK (cf:Cf) (ops:Array Oper) (U bef:List Nat) (n:Nat) (listed:Array Bool) (j:Nat) (Q:Exit->Act->World->Prop) (σ:Snap) (env:Env) (hp:HP) (A:List AE) (nh:Nat):Prop where
  run:Region.noSelect ops=true->Bd env hp nh->∀ a β,StA cf env β a->(∃ w,StW cf σ hp A β w)->Closed ops listed->j∈Region.ready .any ops listed->∀ E0:World->Prop,(∀ x,StW cf σ hp A β x->E0 x) ->
    stepC cf.P ops U Q j (wpAnyC cf.P ops U Q n (listed.setIfInBounds j true)) a E0 (fun w=>StW cf σ hp A β w)
section
variable {cf:Cf} {Q:Exit->Act->World->Prop} {σ:Snap} {env:Env} {hp:HP} {A:List AE} {nh:Nat} {ops:Array Oper} {U bef:List Nat} {n:Nat} {listed:Array Bool} {fst:Bool}
theorem cj_drawG {id:Nat} (m:Nat) (U:List Nat) (hm:cf.P.follows .mixedOrders=true) (hs:Region.noSelect ops=true) (hn:ops.size=m)
    (h:GJ cf ops U [] m (Array.replicate m false) true Q σ env hp A nh) (hd:okRd cf.rd ops=true:=by rfl):CJ cf (.region id ops true) Q σ env hp A nh:=by
  subst hn
  refine ⟨fun hb a β w ha hw=>wpIn_region_any hm ?_⟩
  have hc:Closed ops (Array.replicate ops.size false):=⟨by simp,fun j oj _ hl=>by
    exfalso
    rcases Nat.lt_or_ge j ops.size with h | h
    · simp [h] at hl
    · simp [h] at hl⟩
  exact wpAnyIn_of_C (okRd_mem hd) _ _ _ _ _ _ hw.drew (h.run hs hb a β ha ⟨_,hw⟩ hc _ (fun _ h=>h) (fun _ _ h=>h))
theorem gj_valT {i d:Nat} {o:Oper} (y:SV) (hi:ops[i]?=some o) (hr:(Region.ready .any ops listed).contains i=true) (hf:Region.free .any ops listed i=true) (hk:(U.contains i||fst)=true)
    (hd:o.dst=some d) (hg:guardVal (slotOf ops o) env=some true) (hN:Nat.blt d cf.N=true) (hlt:y.lt nh)
    (hrun:Bd env hp nh->∀ a β,StA cf env β a->∀ w,(U.contains i=false->StW cf σ hp A β w)->(execOp a.eval o).run cf.P w=.ok (.value (y.den β)) w)
    (k:GJ cf ops U (bef++[i]) n (listed.setIfInBounds i true) fst Q σ ((d,y)::env) hp A nh):GJ cf ops U bef (n+1) listed fst Q σ env hp A nh:=by
  refine ⟨fun hs hb a β ha hex hc E0 hE hF=>?_⟩
  have hN':d<cf.N:=by simpa [Nat.blt_eq] using hN
  have hr':i∈Region.ready .any ops listed:=by simpa using hr
  have hw:Region.wanted o (yielded ops a.tmps)=true:=by rw [<-wantedS_slotOf];exact guardVal_ok ha hg
  have hrest:=k.run hs (hb.put hlt d) _ β (ha.put hN' y) hex (hc.set hr') E0 hE hF
  refine wpAnyC_first hi (Region.noSelect_spec hs) n listed a E0 _ hc hE (Region.free_spec hi hf) hr' ⟨.inl ⟨hw,fun w hE0=>.inl ?_⟩,fun hu=>.inl ⟨hw,fun w _=>.inl ?_⟩⟩ (by rw [hd];exact hrest)
  · refine hrun hb a β ha w fun hu=>?_
    rw [hu,Bool.false_or] at hk
    exact hF hk w hE0
  · exact hrun hb a β ha w fun hu'=>absurd (List.contains_iff_mem.2 hu) (by rw [hu'];simp)
theorem gj_val {i d:Nat} {o:Oper} {T:List (Nat×TI)} (hT:TTok cf.P T) {x:SV} (hi:ops[i]?=some o) (hr:(Region.ready .any ops listed).contains i=true) (hf:Region.free .any ops listed i=true)
    (hk:(bif U.contains i then !isLoad o.op else fst)=true) (hd:o.dst=some d) (hg:guardVal (slotOf ops o) env=some true) (hN:Nat.blt d cf.N=true) (h:stepOp T o.op env hp nh=some (.val x))
    (k:GJ cf ops U (bef++[i]) n (listed.setIfInBounds i true) fst Q σ ((d,x)::env) hp A nh):GJ cf ops U bef (n+1) listed fst Q σ env hp A nh:=by
  refine ⟨fun hs hb a β ha hex hc E0 hE hF=>?_⟩
  have hx:x.lt nh:=(step_ok (o:=o) hT ha hb h).1
  refine (gj_valT x hi hr hf ?_ hd hg hN hx (fun hb a β ha w hw=>?_) k).run hs hb a β ha hex hc E0 hE hF
  · cases hu:U.contains i<;>rw [hu] at hk
    · simpa using hk
    · rfl
  · refine (step_ok (o:=o) hT ha hb h).2 w fun hl=>⟨σ,A,hw ?_⟩
    cases hu:U.contains i with
    | false=>rfl
    | true=>rw [hu,cond_true,hl] at hk;cases hk
theorem gj_fork (js:List Nat) (hr:(Region.ready .any ops listed == js)=true) (hne:js.isEmpty=false) (k:∀ j,j∈js->GK cf ops U bef n listed j Q σ env hp A nh):GJ cf ops U bef (n+1) listed fst Q σ env hp A nh:=by
  refine ⟨fun hs hb a β ha hex hc E0 hE hF=>?_⟩
  have hr':=eq_of_beq hr
  refine ⟨fun h0=>?_,fun j hj=>(k j (by rw [<-hr'];exact hj)).run hs hb a β ha hex hc hj E0 hE⟩
  rw [hr'] at h0
  subst h0
  cases hne
theorem gj_two {i j:Nat} (hr:(Region.ready .any ops listed == [i,j])=true) (ki:GK cf ops U bef n listed i Q σ env hp A nh) (kj:GK cf ops U bef n listed j Q σ env hp A nh):GJ cf ops U bef (n+1) listed fst Q σ env hp A nh :=
  gj_fork [i,j] hr rfl fun m hm=>by
    simp only [List.mem_cons,List.not_mem_nil,or_false] at hm
    rcases hm with rfl | rfl
    · exact ki
    · exact kj
theorem gk_call {j d:Nat} {o:Oper} {f:FuncId} {ys:List SV} {Φ:Value->Snap->Prop} (hj:ops[j]?=some o) (hc:callee env o.op=some (f,ys)) (hd:o.dst=some d) (hg:guardVal (slotOf ops o) env=some true)
    (hN:Nat.blt d cf.N=true) (hcall:∀ args w,(callFunc f args).run cf.P w=.ok (.enter f args) w) (hlt:LtAll ys) (hC:PureS cf.P f ys σ Φ)
    (k:∀ v σ',σ.le σ'->Φ v σ'->∃ y:SV,y.lt 0/\y.den β0=v/\GJ cf ops U (bef++[j]) n (listed.setIfInBounds j true) false Q σ' ((d,y)::env) hp A nh):GK cf ops U bef n listed j Q σ env hp A nh:=by
  refine ⟨fun hs hb a β ha hex hcl hr E0 hE=>?_⟩
  have hN':d<cf.N:=by simpa [Nat.blt_eq] using hN
  have den0:∀ {y:SV},y.lt 0->y.den β=y.den β0:=fun hy=>SV.den_congr (n:=0) (fun i hi=>by omega) hy
  have hargs:(ys.map (SV.den β)).toArray=(ys.map (SV.den β0)).toArray:=by
    rw [List.map_congr_left fun y hy=>den0 (hlt.of y hy)]
  have hwant:Region.wanted o (yielded ops a.tmps)=true:=by rw [<-wantedS_slotOf];exact guardVal_ok ha hg
  unfold stepC
  simp only [hj]
  rw [if_pos hwant]
  intro w hw
  unfold Oper.wq
  rw [callee_ok ha hc hcall]
  simp only [Oper.uponIn]
  rw [hargs]
  refine ⟨fun h=>(by cases h),CallsIn.mono (callsIn_FR.2 (hC w hw.sealed)) fun e w' ⟨v,σ',he,h1,h2,h3,h4⟩=>?_⟩
  subst he
  have hw':=hw.after h1 h2 h3
  have hσ:∀ {b},σ' b=none->σ b=none:=fun hb=>Snap.none_of_le h2.le hb
  have hsub:∀ x,StW cf σ' hp A β x->StW cf σ hp A β x:=by
    intro x hx
    refine ⟨hx.os,hx.tape,hx.output,hx.size,hx.fr,fun b o hb=>hx.sealed b o (h2.le b o hb),hw.le,hw.grow,fun i e cs hi=>?_,hw.ro,hx.inj,fun i E hE=>(hx.arr i E hE).weak hσ,hx.arrd,hx.arrh⟩
    obtain ⟨q1,q2,q3,q4⟩:=hx.loc i e cs hi
    exact ⟨q1,q2,hσ q3,q4⟩
  obtain ⟨y,hy,hyv,hk⟩:=k v σ' h2.le h4
  refine ⟨E0,_,hw',fun x hx=>hE x (hsub x hx),.inl fun _ h=>h,?_⟩
  have:=hk.run hs (hb.put (SV.lt_mono (Nat.zero_le _) hy) d) (a.put (some d) (y.den β)) β (ha.put hN' y) ⟨_,hw'⟩ (hcl.set hr) E0 (fun x hx=>hE x (hsub x hx)) (fun h=>by cases h)
  rw [hd,<-hyv,<-den0 hy]
  exact this
theorem gk_callP {j d:Nat} {o:Oper} {f:FuncId} {ys:List SV} {Φ:Value->Prop} (hj:ops[j]?=some o) (hc:callee env o.op=some (f,ys)) (hd:o.dst=some d) (hg:guardVal (slotOf ops o) env=some true)
    (hN:Nat.blt d cf.N=true) (hcall:∀ args w,(callFunc f args).run cf.P w=.ok (.enter f args) w) (hlt:LtAll ys) (hC:PlainS cf.P f ys σ Φ)
    (k:∀ v,Φ v->∃ y:SV,y.lt 0/\y.den β0=v/\GJ cf ops U (bef++[j]) n (listed.setIfInBounds j true) false Q σ ((d,y)::env) hp A nh):GK cf ops U bef n listed j Q σ env hp A nh:=by
  refine gk_call (Φ:=fun v σ'=>Φ v/\σ'=σ) hj hc hd hg hN hcall hlt ?_ fun v σ' _ ⟨hv,he⟩=>by subst he;exact k v hv
  intro w hs
  exact Calls.mono (hC w hs) fun e w' ⟨v,σ',he,h1,h2,h3,h4⟩=>⟨v,σ,he,h1,⟨Snap.le_refl σ,fun b hb=>.inl hb⟩,fun b o hb=>h3 b o (h2.le b o hb),h4,rfl⟩
theorem gk_new {j d:Nat} {o:Oper} {T:List (Nat×TI)} (hT:TTok cf.P T) {e:TypeId} {cs:List AT} {x:AT} (hj:ops[j]?=some o) (h:stepOp T o.op env hp nh=some (.new e cs x)) (hd:o.dst=some d) (hg:guardVal (slotOf ops o) env=some true)
    (hN:Nat.blt d cf.N=true) (k:GJ cf ops U (bef++[j]) n (listed.setIfInBounds j true) false Q σ ((d,.a x)::env) ((nh,.loc e,cs)::hp) A (nh+1)):GK cf ops U bef n listed j Q σ env hp A nh:=by
  refine ⟨fun hs hb a β ha hex hcl hr E0 hE=>?_⟩
  have hN':d<cf.N:=by simpa [Nat.blt_eq] using hN
  have hwant:Region.wanted o (yielded ops a.tmps)=true:=by rw [<-wantedS_slotOf];exact guardVal_ok ha hg
  obtain ⟨hcs,hx,hrun⟩:=step_ok (o:=o) hT ha hb h
  have hxl:(SV.a x).lt (nh+1):=by
    rcases hx with rfl | ⟨n,rfl⟩<;>exact Nat.lt_succ_self nh
  unfold stepC
  simp only [hj]
  rw [if_pos hwant]
  intro w hw
  unfold Oper.wq
  rw [hrun w]
  have hw':=hw.alloc (e:=e) hb hcs
  have hβ:=upd_old β nh w
  have hg2:∀ {i k l},hp.get i=some (k,l)->HP.get ((nh,HK.loc e,cs)::hp) i=some (k,l):=by
    intro i k l hi
    have hlt:=(hb.hp i k l hi).1
    rw [HP.get_cons,if_neg (by omega)]
    exact hi
  have keepS:∀ w',StW cf σ ((nh,.loc e,cs)::hp) A (upd β nh w) w'->StW cf σ hp A β w':=by
    intro w' s
    refine ⟨s.os,s.tape,s.output,s.size,s.fr,s.sealed,s.le,s.grow,fun i e' l hi=>?_,fun i l hi j c hc=>?_,fun i j e1 e2 l1 l2 hi hj heq=>?_,s.arr,s.arrd,fun i j E e' l hE hj=>?_⟩
    · obtain ⟨hlt,hl⟩:=hb.hp i _ l hi
      have:=s.loc i e' l (hg2 hi)
      rw [hβ i hlt,AT.denL_congr hβ hl] at this
      exact this
    · obtain ⟨hlt,hl⟩:=hb.hp i _ l hi
      have:=s.ro i l (hg2 hi) j c hc
      rw [hβ i hlt,AT.den_congr hβ (hl c (List.mem_of_getElem? hc))] at this
      exact this
    · have h1:=(hb.hp i _ l1 hi).1
      have h2:=(hb.hp j _ l2 hj).1
      exact s.inj i j e1 e2 l1 l2 (hg2 hi) (hg2 hj) (by rw [hβ i h1,hβ j h2];exact heq)
    · have h1:=(hb.hp j _ l hj).1
      have:=s.arrh i j E e' l hE (hg2 hj)
      rw [hβ j h1] at this
      exact this
  refine ⟨E0,_,hw',fun x hx=>hE x (keepS x hx),.inl fun _ h=>h,?_⟩
  rw [hd]
  exact k.run hs ((hb.mono (Nat.le_succ nh)).row (Nat.lt_succ_self nh) (fun c hc=>AT.lt_mono (Nat.le_succ nh) (hcs c hc)) |>.put hxl d) _ (upd β nh w) ((ha.congr hb hβ).put hN' (.a x)) ⟨_,hw'⟩ (hcl.set hr) E0 (fun x hx=>hE x (keepS x hx)) (fun h=>by cases h)
theorem gj_order (l:List (Nat×Tag)) (hl:(l.all fun p=>decide (p.1<ops.size))=true) (hq:noQuiet (itemsOf ops l)=true) (ho:orderFrom ops U bef l listed=true) (h:OJ cf (itemsOf ops l) Q σ env hp A nh) :
    GJ cf ops U bef l.length listed fst Q σ env hp A nh:=by
  refine ⟨fun hs hb a β ha hex hc E0 hE _=>?_⟩
  have:=run_wider hE _ _ a hq (h.run hb a β ha hex)
  exact run_order hs l bef listed a E0 _ hc hE (fun p hp=>by simpa using List.all_eq_true.1 hl p hp) ho this
theorem gj_arith {i d:Nat} {o:Oper} {op:BinOp} {x y:Operand} {xt yt:TypeId} {kk:IntKind} {m k':Int} (r:Int) (hop:o.op=.binOp op xt x y yt) (hi:ops[i]?=some o) (hr:(Region.ready .any ops listed).contains i=true) (hf:Region.free .any ops listed i=true) (hk:(U.contains i||fst)=true)
    (hd:o.dst=some d) (hg:guardVal (slotOf ops o) env=some true) (hN:Nat.blt d cf.N=true) (hx:evalO env x=some (.a (.v (.int kk m)))) (hy:evalO env y=some (.a (.v (.int kk k'))))
    (hrun:∀ w P,(binOp op xt (.int kk m) (.int kk k')).run P w=.ok (.int kk r) w)
    (k:GJ cf ops U (bef++[i]) n (listed.setIfInBounds i true) fst Q σ ((d,.a (.v (.int kk r)))::env) hp A nh):GJ cf ops U bef (n+1) listed fst Q σ env hp A nh:=by
  refine gj_valT (.a (.v (.int kk r))) hi hr hf hk hd hg hN trivial (fun _ a β ha w _=>?_) k
  have h1:a.eval x=.int kk m:=evalO_eval ha hx
  have h2:a.eval y=.int kk k':=evalO_eval ha hy
  simp only [execOp,hop,h1,h2,eqGuard_at_int,Sem.run_bind,Sem.run_pure,Result.andThen_ok,hrun]
  rfl
theorem gj_add {i d:Nat} {o:Oper} {x y:Operand} {xt yt:TypeId} {m k':Int} (hop:o.op=.binOp .add xt x y yt) (hi:ops[i]?=some o) (hr:(Region.ready .any ops listed).contains i=true) (hf:Region.free .any ops listed i=true) (hk:(U.contains i||fst)=true)
    (hd:o.dst=some d) (hg:guardVal (slotOf ops o) env=some true) (hN:Nat.blt d cf.N=true) (hx:evalO env x=some (.a (.v (.int .i64 m)))) (hy:evalO env y=some (.a (.v (.int .i64 k')))) (hb:-9223372036854775808<=m+k'/\m+k'<=9223372036854775807)
    (k:GJ cf ops U (bef++[i]) n (listed.setIfInBounds i true) fst Q σ ((d,.a (.v (.int .i64 (m+k'))))::env) hp A nh):GJ cf ops U bef (n+1) listed fst Q σ env hp A nh :=
  gj_arith _ hop hi hr hf hk hd hg hN hx hy (run_add (IntWalk.i64_in _ hb)) k
theorem gj_minus {i d:Nat} {o:Oper} {x y:Operand} {xt yt:TypeId} {m k':Int} (hop:o.op=.binOp .sub xt x y yt) (hi:ops[i]?=some o) (hr:(Region.ready .any ops listed).contains i=true) (hf:Region.free .any ops listed i=true) (hk:(U.contains i||fst)=true)
    (hd:o.dst=some d) (hg:guardVal (slotOf ops o) env=some true) (hN:Nat.blt d cf.N=true) (hx:evalO env x=some (.a (.v (.int .i64 m)))) (hy:evalO env y=some (.a (.v (.int .i64 k')))) (hb:-9223372036854775808<=m - k'/\m - k'<=9223372036854775807)
    (k:GJ cf ops U (bef++[i]) n (listed.setIfInBounds i true) fst Q σ ((d,.a (.v (.int .i64 (m - k'))))::env) hp A nh):GJ cf ops U bef (n+1) listed fst Q σ env hp A nh :=
  gj_arith _ hop hi hr hf hk hd hg hN hx hy (run_sub (IntWalk.i64_in _ hb)) k
end
end Go.Sy
