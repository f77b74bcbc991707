/- Parts of the proof of CStreamsGone: F3, Ka, SyQ, SyT, SyW, SyR, SyS, SyU, SyX, SyY. No conditions. -/
import Derived.Test.YtlonlnagmfdlbaaGreatDoorM4
import Derived.Laws.MakeOwn
namespace Go.Sy
open Go.Proofs
def asciiCells (p:UInt8->Bool):List AT:=(List.range 256).map fun i=>.b (p (UInt8.ofNat i))
theorem asciiCells_len (p:UInt8->Bool):(asciiCells p).length=256:=by simp [asciiCells]
theorem asciiCells_lt (p:UInt8->Bool) (n:Nat):∀ c∈asciiCells p,c.lt n:=by
  intro c hc
  obtain ⟨i,_,rfl⟩:=List.mem_map.1 hc
  trivial
theorem asciiCells_get (p:UInt8->Bool) (u:UInt8):(asciiCells p)[u.toNat]?=some (.b (p u)):=by
  have:=u.toNat_lt
  simp [asciiCells,this]
theorem asciiCells_set (p:UInt8->Bool) (u:UInt8) (β:Nat->Addr):((asciiCells p).set u.toNat .tt).map (AT.den β)=(asciiCells fun x=>p x||x == u).map (AT.den β):=by
  apply List.ext_getElem?
  intro j
  simp only [List.getElem?_map,List.getElem?_set,asciiCells,List.length_map,List.length_range]
  by_cases hj:j<256
  · by_cases huj:u.toNat=j
    · subst huj
      rw [if_pos rfl,if_pos hj]
      simp [hj,AT.den]
    · rw [if_neg huj]
      have hne:UInt8.ofNat j≠u:=fun e=>huj (by rw [<-e];simp;omega)
      simp [hj,AT.den,hne]
  · have:=u.toNat_lt
    rw [if_neg (by omega)]
    simp [hj]
set_option maxRecDepth 100000 in
set_option maxHeartbeats 1000000 in
theorem makeASCIISet_c (σ:Snap) (l:List UInt8) (hl:l.length<=1000) (h128:∀ u∈l,u.toNat<128) :
    PlainS Tryz.prog 252 [.a (.v (.string (mkB l)))] σ (fun v=>v=(SV.tup [.agg (asciiCells l.contains),.a .tt]).den β0):=by
  refine enter_p Tryz.func252 rfl rfl (by (repeat' (first | exact trivial | constructor))) fun w=>?_
  have hsz:=mkB_size l
  (repeat (first | refine cj_seq ?_ | refine cjr TT rfl ?_ | refine oj_then ?_ | refine cj_block ?_))
  refine cj_rowset 0 (asciiCells fun _=>false) rfl (fun β=>?_) (asciiCells_lt _ _) ?_
  · show (List.replicate 256 AT.ff).map _=_
    rw [List.map_replicate,asciiCells,List.map_map]
    exact ((List.map_const' (l:=List.range 256) (b:=Value.bool false)).trans (by rw [List.length_range];rfl)).symm
  refine cj_loop (fun _=>σ) (fun (k:Nat)=>[(0,.a (.v (.string (mkB l)))),(2,.a (.p 0 0)),(4,.a (.v (.int .i64 k)))]) (fun k=>[(0,.loc 354,asciiCells (l.take k).contains)]) (fun _=>[]) 1
    (fun k=>k<=l.length) (fun k=>l.length - k) 0 (Nat.zero_le _) rfl (by (repeat first | exact trivial | refine ⟨rfl,?_⟩)) (by (repeat first | exact trivial | refine ⟨rfl,?_⟩)) rfl (by (repeat' (first | exact trivial | exact Nat.le_of_ble_eq_true rfl | constructor))) ⟨⟨Nat.zero_lt_one,asciiCells_lt _ _⟩,trivial⟩ fun k hk=>?_
  (repeat (first | refine cj_seq ?_ | refine cjr TT rfl ?_ | refine oj_then ?_))
  refine cj_if rfl (fun hc=>?_) (fun hc=>?_)
  · have hlt:k<l.length:=by rw [hsz] at hc;simpa using hc
    have hu:=h128 _ (List.getElem_mem hlt)
    (repeat (first | refine cj_seq ?_ | refine cjr TT rfl ?_ | refine cj_skip ?_ | refine cj_block ?_ | refine nj_then ?_))
    refine oj_index_str (u:=l[k]) TT rfl rfl rfl rfl rfl rfl rfl rfl (by omega) (by simp [hlt]) (oj_run TT rfl ?_)
    (repeat (first | refine cj_seq ?_ | refine cjr TT rfl ?_ | refine oj_then ?_))
    refine cj_if rfl (fun hp=>?_) (fun hp=>?_)
    · simp at hp;omega
    (repeat (first | refine cjr TT rfl ?_ | refine cj_skip ?_ | refine nj_then ?_))
    refine oj_idx_row 4 256 und214 und4 rfl rfl rfl rfl rfl rfl (by omega) (by omega) l[k].toNat (by rw [show Tryz.prog.cellsOf 4=1 from cells4];simp) ?_
    refine oj_store1 (c:=.tt) TT rfl rfl rfl rfl rfl rfl rfl rfl rfl rfl (by rw [asciiCells_len];omega) ?_
    (repeat (first | refine cjr TT rfl ?_ | refine oj_nil ?_ | refine nj_then ?_ | refine nj_block ?_ | (refine oj_add rfl rfl rfl rfl rfl rfl (by omega) ?_;refine oj_run TT rfl ?_)))
    refine nj_rowset 0 (asciiCells (l.take (k+1)).contains) rfl (fun β=>?_) (asciiCells_lt _ _) ?_
    · rw [asciiCells_set]
      congr 2
      funext x
      rw [Bool.eq_iff_iff]
      simp only [Bool.or_eq_true,beq_iff_eq,List.contains_iff_mem]
      rw [List.take_succ_eq_append_getElem hlt,List.mem_append,List.mem_singleton]
    refine nj_again (k+1) hlt (by omega) rfl (by (repeat first | exact trivial | refine ⟨rfl,?_⟩)) (by (repeat first | exact trivial | refine ⟨rfl,?_⟩)) rfl (by (repeat' (first | exact trivial | exact Nat.le_of_ble_eq_true rfl | constructor))) ⟨⟨Nat.zero_lt_one,asciiCells_lt _ _⟩,trivial⟩
  · have hk0:k=l.length:=by rw [hsz] at hc;simp at hc;omega
    subst hk0
    rw [List.take_length]
    (repeat (first | refine cj_seq ?_ | refine cjr TT rfl ?_ | refine oj_then ?_ | refine cj_exit ?_ | refine cj_ret ?_ | refine nj_then ?_ | refine nj_then_exit ?_ | refine nj_block_out ?_))
    refine nj_ret TT rfl fun β w' _ _=>?_
    rfl
def digitB (u:UInt8):Bool:=[48,49,50,51,52,53,54,55,56,57].contains u
def digitsS:ByteArray:=⟨#[48,49,50,51,52,53,54,55,56,57]⟩
set_option maxRecDepth 100000 in
set_option maxHeartbeats 1000000 in
theorem Trim_c (σ:Snap) (l:List UInt8) (hl:l.length<=mostLen) :
    PlainS Tryz.prog 244 [.a (.v (.string (mkB l))),.a (.v (.string digitsS))] σ (fun v=>v=.string (mkB ((trimR digitB l).dropWhile digitB))):=by
  have hsz:=mkB_size l
  refine enter_p Tryz.func244 rfl rfl (by (repeat' (first | exact trivial | constructor))) fun w=>?_
  (repeat (first | refine cj_seq ?_ | refine cjr TT rfl ?_ | refine oj_then ?_))
  refine oj_split 9 rfl (fun h=>?_) (fun h=>?_)
  · have h0:l=[]:=mkB_inj (of_decide_eq_true h)
    subst h0
    refine oj_run TT rfl ?_
    (repeat (first | refine cj_seq ?_ | refine cjr TT rfl ?_ | refine oj_then ?_ | refine cj_if_t rfl ?_ | refine cj_ret ?_ | refine nj_then_ret ?_))
    refine nj_ret TT rfl fun β w' _ _=>?_
    rfl
  refine oj_run TT rfl ?_
  (repeat refine oj_then ?_)
  refine cj_if rfl (fun h=>?_) (fun h=>?_)
  · exact absurd h (by decide)
  (repeat (first | refine cj_seq ?_ | refine cjr TT rfl ?_ | refine cj_skip ?_ | refine nj_then ?_))
  refine oj_split 17 rfl (fun h=>?_) (fun h=>?_)
  · exact absurd h (by decide)
  refine oj_run TT rfl ?_
  (repeat (first | refine cj_seq ?_ | refine cjr TT rfl ?_ | refine oj_then ?_ | refine cj_if_f rfl ?_ | refine cj_skip ?_ | refine nj_then ?_))
  refine oj_callP rfl rfl rfl rfl rfl Tryz.call252 (by (repeat' (first | exact trivial | constructor))) (makeASCIISet_c σ [48,49,50,51,52,53,54,55,56,57] (by decide) (by decide)) fun v hv=>⟨_,?_,hv.symm,?_⟩
  · intro x hx
    simp only [List.mem_cons,List.not_mem_nil,or_false] at hx
    rcases hx with rfl | rfl
    · exact asciiCells_lt _ _
    · trivial
  refine oj_run TT rfl ?_
  (repeat (first | refine cj_seq ?_ | refine cjr TT rfl ?_ | refine oj_then ?_ | refine cj_if_t rfl ?_))
  refine oj_own 0 1 256 rfl (by exact asciiCells_lt digitB 0) rfl (by decide) fun g=>?_
  refine oj_seal 0 rfl rfl rfl fun σ' hle hS=>?_
  have hcell:∀ u:UInt8,σ'.cell ⟨g,u.toNat,none⟩=some (.bool (digitB u)):=by
    intro u
    rcases hS with ⟨h1,_⟩ | ⟨g',h1,h2⟩
    · cases h1
    · injection h1 with h1
      simp only [Addr.mk.injEq,and_true] at h1
      subst h1
      refine h2 u.toNat _ ?_
      show ((asciiCells digitB).map AT.val)[u.toNat]?=_
      rw [List.getElem?_map,asciiCells_get]
      rfl
  refine oj_callP rfl rfl rfl rfl rfl Tryz.call254 (by (repeat' (first | exact trivial | constructor))) (trimRightASCII_c σ' digitB g hcell l hl) fun v hv=>⟨.a (.v (.string (mkB (trimR digitB l)))),trivial,hv.symm,?_⟩
  refine oj_callP rfl rfl rfl rfl rfl Tryz.call253 (by (repeat' (first | exact trivial | constructor))) (trimLeftASCII_c σ' digitB g hcell (trimR digitB l)) fun v hv=>⟨.a (.v (.string (mkB ((trimR digitB l).dropWhile digitB)))),trivial,hv.symm,?_⟩
  refine oj_run TT rfl ?_
  (repeat (first | refine oj_then ?_ | refine cj_ret ?_ | refine nj_then_ret ?_))
  refine nj_ret TT rfl fun β w' _ _=>?_
  rfl
theorem dropWhile_nil (p:UInt8->Bool):∀ (l:List UInt8),l.dropWhile p=[]↔∀ u∈l,p u=true
  | []=>by simp
  | x::l=>by
    rw [List.dropWhile_cons]
    split
    · rename_i h
      rw [dropWhile_nil p l]
      simp [h]
    · rename_i h
      simp [h]
theorem trim_digits (l:List UInt8):(trimR digitB l).dropWhile digitB=[]↔∀ u∈l,digitB u=true:=by
  have hR:trimR digitB l=[]↔∀ u∈l,digitB u=true:=by
    unfold trimR
    rw [List.reverse_eq_nil_iff,dropWhile_nil]
    simp
  constructor
  · intro h
    rw [dropWhile_nil] at h
    by_cases h0:trimR digitB l=[]
    · exact hR.1 h0
    · exfalso
      have hlast:∀ u,(trimR digitB l).getLast?=some u->digitB u=false:=by
        intro u hu
        unfold trimR at hu
        rw [List.getLast?_reverse] at hu
        have:=List.head?_dropWhile_not digitB l.reverse
        rw [hu] at this
        simpa using this
      cases hg:(trimR digitB l).getLast? with
      | none=>rw [List.getLast?_eq_none_iff] at hg;exact h0 hg
      | some u =>
        have h1:=hlast u hg
        have h2:=h u (List.mem_of_getLast? hg)
        rw [h1] at h2;cases h2
  · intro h
    rw [hR.2 h]
    rfl
def decSane (d:GDec):Bool :=
  let l:=d.dg.data.toList
  if l.length=0 then !d.neg&&decide (d.ex=0)
  else decide (l.length<=40)&&l.all digitB&&decide (-800<=d.ex)&&decide (d.ex<=800)&&decide (-400<=l.length+d.ex)&&decide (l.length+d.ex<=400)&&l.head? != some 48&&l.getLast? != some 48
set_option maxRecDepth 100000 in
set_option maxHeartbeats 1000000 in
theorem height_c (σ:Snap) (d:GDec) (h1:d.dg.size<=1000) (h2:-1000<=d.ex) (h3:d.ex<=1000):PlainS Tryz.prog 245 [.agg (decCells d)] σ (fun v=>v=.int .i64 (d.dg.size+d.ex)):=by
  refine enter_p Tryz.func245 rfl rfl (by (repeat' (first | exact trivial | exact decCells_lt _ _ | constructor))) fun w=>?_
  (repeat (first | refine cj_seq ?_ | refine cjr TT rfl ?_ | refine oj_then ?_ | refine cj_ret ?_ | (refine oj_add rfl rfl rfl rfl rfl rfl (by omega) ?_;refine oj_run TT rfl ?_)))
  refine nj_ret TT rfl fun β w' _ _=>?_
  rfl
theorem und23:Tryz.prog.underlying 24=some (.struct (Tryz.prog.fieldsOf 24)):=by kernel_rfl
def fieldsAre:List Field->List (Nat×Nat)->Bool
  | [],[]=>true
  | f :: fs, (t, o) :: l => f.name != "_" && Nat.beq f.type t && Nat.beq f.offset o && fieldsAre fs l
  | _,_=>false
theorem fieldsAre_cons {l : List Field} {t o : Nat} {r : List (Nat × Nat)} (h : fieldsAre l ((t, o) :: r) = true) : ∃ f fs, l = f :: fs ∧ f.name ≠ "_" ∧ f.type = t ∧ f.offset = o ∧ fieldsAre fs r = true := by
  cases l with
  | nil=>cases h
  | cons f fs =>
    simp only [fieldsAre,Bool.and_eq_true,bne_iff_ne,ne_eq] at h
    exact ⟨f,fs,rfl,h.1.1.1,Nat.eq_of_beq_eq_true h.1.1.2,Nat.eq_of_beq_eq_true h.1.2,h.2⟩
theorem eqFields_cons {P : Program} {w : World} {d : Nat} {xs ys : Array Value} {f : Field} {fs : List Field} {a b : Value} {r : Bool} (hn : f.name ≠ "_") (ha : (part f.type xs f.offset).run P w = .ok a w) (hb : (part f.type ys f.offset).run P w = .ok b w)
    (he:(Op.equalIn d f.type a b).run P w=.ok r w):(Op.eqFields d xs ys (f::fs)).run P w=if r then (Op.eqFields d xs ys fs).run P w else .ok false w:=by
  simp only [Op.eqFields,if_pos hn,Sem.run_bind,ha,hb,he,Result.andThen_ok]
  cases r<;>simp
theorem run_part1 {P:Program} {w:World} {t:TypeId} {xs:Array Value} {o:Nat} {d:TypeDesc} {v:Value} (hu:P.underlying t=some d) (hd:aggD d=false) (hv:xs[o]?=some v):(part t xs o).run P w=.ok v w:=by
  simp only [part,Sem.run_bind,run_isAgg hu,hd,Result.andThen_ok,Bool.false_eq_true,if_false,hv,Sem.run_pure]
theorem und9:Tryz.prog.underlying 9=some .string:=by kernel_rfl
theorem und3:Tryz.prog.underlying 3=some (.int .i64):=by kernel_rfl
theorem run_eqStr {P:Program} {w:World} (d:Nat) (t:TypeId) (a b:ByteArray) (h:P.underlying t=some .string):(Op.equalIn (d+1) t (.string a) (.string b)).run P w=.ok (decide (a=b)) w:=by
  simp only [Op.equalIn,Sem.run_bind,run_underlying h,Result.andThen_ok,Sem.run_pure]
  congr 1
  rw [beq_toListBytes,ByteArray.toList_eq,ByteArray.toList_eq,Bool.eq_iff_iff]
  simp only [beq_iff_eq,decide_eq_true_eq]
  exact ⟨fun h=>ByteArray.ext (Array.ext' h),fun h=>by rw [h]⟩
theorem eqDec_ok (m:Nat) (a b:GDec) (w:World):(Op.equalIn (m+1+1) 24 (.agg #[.bool a.neg,.string a.dg,.int .i64 a.ex]) (.agg #[.bool b.neg,.string b.dg,.int .i64 b.ex])).run Tryz.prog w=.ok (decide (a=b)) w:=by
  rw [run_equalIn_agg w (m+1) 24 _ _ und23 (by kernel_rfl)]
  have h:fieldsAre (Tryz.prog.fieldsOf 24).toList [(4,0),(9,1),(3,2)]=true:=by kernel_rfl
  generalize (Tryz.prog.fieldsOf 24).toList=fl at h
  obtain ⟨f0,fl,rfl,n0,t0,o0,h⟩:=fieldsAre_cons h
  obtain ⟨f1,fl,rfl,n1,t1,o1,h⟩:=fieldsAre_cons h
  obtain ⟨f2,fl,rfl,n2,t2,o2,h⟩:=fieldsAre_cons h
  cases fl with
  | cons _ _=>cases h
  | nil =>
    rw [eqFields_cons (r:=a.neg == b.neg) n0 (run_part1 (v:=.bool a.neg) (by rw [t0];exact und4) rfl (by rw [o0];rfl)) (run_part1 (v:=.bool b.neg) (by rw [t0];exact und4) rfl (by rw [o0];rfl)) (run_equalIn_bool' w m f0.type a.neg b.neg (by rw [t0];exact und4))]
    rw [eqFields_cons (r:=decide (a.dg=b.dg)) n1 (run_part1 (v:=.string a.dg) (by rw [t1];exact und9) rfl (by rw [o1];rfl)) (run_part1 (v:=.string b.dg) (by rw [t1];exact und9) rfl (by rw [o1];rfl)) (run_eqStr m f1.type a.dg b.dg (by rw [t1];exact und9))]
    rw [eqFields_cons (r:=a.ex == b.ex) n2 (run_part1 (v:=.int .i64 a.ex) (by rw [t2];exact und3) rfl (by rw [o2];rfl)) (run_part1 (v:=.int .i64 b.ex) (by rw [t2];exact und3) rfl (by rw [o2];rfl)) (run_equalIn_int w m f2.type .i64 .i64 a.ex b.ex (by rw [t2];exact und3))]
    simp only [Op.eqFields,Sem.run_pure]
    have:(decide (a=b))=(a.neg == b.neg&&(decide (a.dg=b.dg)&&a.ex == b.ex)):=by
      rw [Bool.eq_iff_iff]
      cases a;cases b
      simp
    rw [this]
    cases (a.neg == b.neg)<;>cases decide (a.dg=b.dg)<;>cases (a.ex == b.ex)<;>rfl
theorem oj_eqDec {cf:Cf} {Q:Exit->Act->World->Prop} {σ:Snap} {env:Env} {hp:HP} {A:List AE} {nh:Nat} {it:Item} {rest:List Item} {d:Nat} {x y:Operand} {yt:TypeId} {ca cb:List AT} (a b:GDec) (hP:cf.P=Tryz.prog)
    (hop:it.o.op=.binOp .eql 24 x y yt) (hd:it.o.dst=some d) (hg:guardVal it.guard env=some true) (hN:Nat.blt d cf.N=true) (hx:evalO env x=some (.agg ca)) (hy:evalO env y=some (.agg cb)) (hca:∀ β,ca.map (AT.den β)=(decCells a).map (AT.den β)) (hcb:∀ β,cb.map (AT.den β)=(decCells b).map (AT.den β))
    (hk:OJ cf rest Q σ ((d,.a (.b (decide (a=b))))::env) hp A nh):OJ cf (it::rest) Q σ env hp A nh:=by
  refine oj_val (.a (.b (decide (a=b)))) hd hg hN trivial (fun _ ac β ha w=>?_) hk
  have h1:ac.eval x=.agg #[.bool a.neg,.string a.dg,.int .i64 a.ex]:=(evalO_eval ha hx).trans (by simp only [SV.den,hca];rfl)
  have h2:ac.eval y=.agg #[.bool b.neg,.string b.dg,.int .i64 b.ex]:=(evalO_eval ha hy).trans (by simp only [SV.den,hcb];rfl)
  rw [hP]
  have hG:(eqGuard .eql 24 x y (.agg #[.bool a.neg,.string a.dg,.int .i64 a.ex]) (.agg #[.bool b.neg,.string b.dg,.int .i64 b.ex])).run Tryz.prog w=.ok () w:=run_eqGuard_agg w _ _ _ _ _ _ (by kernel_rfl)
  have hE:(Op.equalIn 10000 24 (.agg #[.bool a.neg,.string a.dg,.int .i64 a.ex]) (.agg #[.bool b.neg,.string b.dg,.int .i64 b.ex])).run Tryz.prog w=.ok (decide (a=b)) w:=eqDec_ok 9998 a b w
  have hB:(binOp .eql 24 (.agg #[.bool a.neg,.string a.dg,.int .i64 a.ex]) (.agg #[.bool b.neg,.string b.dg,.int .i64 b.ex])).run Tryz.prog w=.ok (.bool (decide (a=b))) w:=by
    rw [run_eql_struct,hE]
    rfl
  simp only [execOp,hop,h1,h2,Sem.run_bind,hG,hB,Result.andThen_ok,Sem.run_pure]
  rfl
theorem decSane_mk (ng:Bool) (l:List UInt8) (ex:Int) (h0:l.length≠0):decSane ⟨ng,mkB l,ex⟩=(decide (l.length<=40)&&l.all digitB&&decide (-800<=ex)&&decide (ex<=800)&&decide (-400<=l.length+ex)&&decide (l.length+ex<=400)&&l.head? != some 48&&l.getLast? != some 48):=by
  unfold decSane
  exact if_neg h0
def dec0:GDec:=⟨false,⟨#[]⟩,0⟩
set_option maxRecDepth 100000 in
set_option maxHeartbeats 1000000 in
theorem decSane_c (σ:Snap) (d:GDec) (hd:d.dg.size<=mostLen):PlainS Tryz.prog 228 [.agg (decCells d)] σ (fun v=>v=.bool (decSane d)):=by
  obtain ⟨ng,dg,ex⟩:=d
  obtain ⟨l,rfl⟩:=mkB_ex dg
  have hsz:=mkB_size l
  simp only at hd
  rw [hsz] at hd
  have hd':=hd
  simp only [mostLen] at hd'
  refine enter_p Tryz.func228 rfl rfl (by (repeat' (first | exact trivial | exact decCells_lt _ _ | constructor))) fun w=>?_
  (repeat (first | refine cj_seq ?_ | refine cjr TT rfl ?_ | refine oj_then ?_ | refine cj_block ?_))
  refine cj_if rfl (fun h=>?_) (fun h=>?_)
  · have h0:l=[]:=by simpa using h
    subst h0
    (repeat (first | refine cj_seq ?_ | refine cjr TT rfl ?_))
    refine oj_eqDec ⟨ng,mkB [],ex⟩ dec0 rfl rfl rfl rfl rfl rfl rfl (fun _=>rfl) (fun _=>rfl) (oj_run TT rfl ?_)
    (repeat (first | refine oj_then ?_ | refine cj_ret ?_ | refine nj_then_ret ?_ | refine nj_block_ret ?_))
    refine nj_ret TT rfl fun β w' _ _=>?_
    show Value.bool _=_
    congr 1
    simp only [decSane,mkB_list,List.length_nil,if_true,dec0,GDec.mk.injEq]
    rw [Bool.eq_iff_iff]
    cases ng<;>simp [mkB]
  · have h0:l≠[]:=by simpa using h
    have hl0:l.length≠0:=by simpa using h0
    have hlb:(mkB l).size=l.length:=hsz
    (repeat (first | refine cj_seq ?_ | refine cjr TT rfl ?_))
    refine oj_split 17 rfl (fun h=>?_) (fun h=>?_)
    · have h40:40<l.length:=by simp at h;omega
      refine oj_run TT rfl ?_
      (repeat (first | refine cj_seq ?_ | refine cjr TT rfl ?_ | refine oj_then ?_ | refine cj_if_t rfl ?_ | refine cj_ret ?_ | refine nj_then_ret ?_ | refine nj_block_ret ?_))
      refine nj_ret TT rfl fun β w' _ _=>?_
      show Value.bool false=_
      congr 1
      rw [decSane_mk _ _ _ hl0,show decide (l.length<=40)=false by simp;omega]
      simp
    have h40:l.length<=40:=by simp at h;omega
    refine oj_run TT rfl ?_
    refine oj_callP rfl rfl rfl rfl rfl Tryz.call244 (by (repeat' (first | exact trivial | constructor))) (Trim_c σ l hd) fun v hv=>⟨.a (.v (.string (mkB ((trimR digitB l).dropWhile digitB)))),trivial,hv.symm,?_⟩
    refine oj_run TT rfl ?_
    (repeat refine oj_then ?_)
    have htr:(decide (mkB ((trimR digitB l).dropWhile digitB)=⟨#[]⟩))=l.all digitB:=by
      rw [Bool.eq_iff_iff,decide_eq_true_eq,List.all_eq_true,<-trim_digits]
      exact ⟨fun h=>mkB_inj h,fun h=>by rw [h];rfl⟩
    refine cj_if rfl (fun h=>?_) (fun h=>?_)
    · rw [htr] at h
      (repeat (first | refine cj_seq ?_ | refine cjr TT rfl ?_ | refine oj_then ?_ | refine cj_ret ?_ | refine nj_then_ret ?_ | refine nj_block_ret ?_))
      refine nj_ret TT rfl fun β w' _ _=>?_
      show Value.bool false=_
      congr 1
      rw [decSane_mk _ _ _ hl0,show l.all digitB=false by simpa using h]
      simp
    rw [htr] at h
    have hall:l.all digitB=true:=by simpa using h
    (repeat (first | refine cj_seq ?_ | refine cjr TT rfl ?_))
    refine oj_split 27 rfl (fun h=>?_) (fun h=>?_)
    · refine oj_run TT rfl ?_
      (repeat (first | refine cj_seq ?_ | refine cjr TT rfl ?_ | refine oj_then ?_ | refine cj_if_t rfl ?_ | refine cj_ret ?_ | refine nj_then_ret ?_ | refine nj_block_ret ?_))
      refine nj_ret TT rfl fun β w' _ _=>?_
      show Value.bool false=_
      congr 1
      have:ex < -800:=by simpa using h
      rw [decSane_mk _ _ _ hl0,show decide (-800<=ex)=false by simp;omega]
      simp
    have hex1:-800<=ex:=by simpa using h
    refine oj_run TT rfl ?_
    (repeat refine oj_then ?_)
    refine cj_if rfl (fun h=>?_) (fun h=>?_)
    · (repeat (first | refine cj_seq ?_ | refine cjr TT rfl ?_ | refine oj_then ?_ | refine cj_ret ?_ | refine nj_then_ret ?_ | refine nj_block_ret ?_))
      refine nj_ret TT rfl fun β w' _ _=>?_
      show Value.bool false=_
      congr 1
      have:800<ex:=by simpa using h
      rw [decSane_mk _ _ _ hl0,show decide (ex<=800)=false by simp;omega]
      simp
    have hex2:ex<=800:=by simpa using h
    (repeat (first | refine cj_seq ?_ | refine cjr TT rfl ?_ | refine cj_skip ?_ | refine nj_then ?_ | refine nj_block ?_))
    refine oj_callP rfl rfl rfl rfl rfl Tryz.call245 (by (repeat' (first | exact trivial | exact decCells_lt _ _ | constructor))) (height_c σ ⟨ng,mkB l,ex⟩ (by show (mkB l).size<=1000;omega) (by show -1000<=ex;omega) (by show ex<=1000;omega)) fun v hv=>⟨.a (.v (.int .i64 ((mkB l).size+ex))),trivial,hv.symm,?_⟩
    refine oj_run TT rfl ?_
    (repeat (first | refine cj_seq ?_ | refine cjr TT rfl ?_ | refine oj_then ?_))
    have hfin:decSane ⟨ng,mkB l,ex⟩=(decide (-400<=l.length+ex)&&decide (l.length+ex<=400)&&l.head? != some 48&&l.getLast? != some 48):=by
      rw [decSane_mk _ _ _ hl0,hall,show decide (l.length<=40)=true by simp;omega,show decide (-800<=ex)=true by simp;omega,show decide (ex<=800)=true by simp;omega]
      simp
    have hx:(((mkB l).size:Nat):Int)=l.length:=by rw [hsz]
    refine oj_split 36 rfl (fun h=>?_) (fun h=>?_)
    rotate_left
    · refine oj_run TT rfl ?_
      (repeat (first | refine oj_then ?_ | refine cj_ret ?_))
      refine nj_ret TT rfl fun β w' _ _=>?_
      show Value.bool false=_
      congr 1
      rw [hfin,show decide (-400<=(l.length:Int)+ex)=false by rw [<-hx];exact h]
      simp
    have e1:decide (-400<=(l.length:Int)+ex)=true:=by rw [<-hx];exact h
    refine oj_run TT rfl ?_
    refine oj_split 40 rfl (fun h=>?_) (fun h=>?_)
    rotate_left
    · refine oj_run TT rfl ?_
      (repeat (first | refine oj_then ?_ | refine cj_ret ?_))
      refine nj_ret TT rfl fun β w' _ _=>?_
      show Value.bool false=_
      congr 1
      rw [hfin,show decide ((l.length:Int)+ex<=400)=false by rw [<-hx];exact h]
      simp
    have e2:decide ((l.length:Int)+ex<=400)=true:=by rw [<-hx];exact h
    refine oj_run TT rfl ?_
    have hlt:0<l.length:=by omega
    refine oj_index_str (u:=l[0]) TT rfl rfl rfl rfl rfl rfl rfl rfl (by omega) (by simp [hlt]) (oj_run TT rfl ?_)
    have e3:(l.head? != some 48)=!decide ((l[0].toNat:Int)=48):=by
      rw [List.head?_eq_getElem?,List.getElem?_eq_getElem hlt,Bool.eq_iff_iff]
      simp [<-UInt8.toNat_inj]
      omega
    refine oj_split 46 rfl (fun h=>?_) (fun h=>?_)
    rotate_left
    · refine oj_run TT rfl ?_
      (repeat (first | refine oj_then ?_ | refine cj_ret ?_))
      refine nj_ret TT rfl fun β w' _ _=>?_
      show Value.bool false=_
      congr 1
      rw [hfin,e3,h]
      simp
    refine oj_run TT rfl ?_
    refine oj_minus rfl rfl rfl rfl rfl rfl (by show -9223372036854775808<=((mkB l).size:Int) - 1/\((mkB l).size:Int) - 1<=9223372036854775807;omega) (oj_run TT rfl ?_)
    refine oj_index_str (u:=l[l.length - 1]) TT rfl rfl rfl rfl rfl rfl rfl rfl (by show 0<=((mkB l).size:Int) - 1;omega) (by
      show l[(((mkB l).size:Int) - 1).toNat]?=_
      rw [show (((mkB l).size:Int) - 1).toNat=l.length - 1 by omega,List.getElem?_eq_getElem (by omega)]) (oj_run TT rfl ?_)
    have e4:(l.getLast? != some 48)=!decide ((l[l.length - 1].toNat:Int)=48):=by
      rw [List.getLast?_eq_getElem?,List.getElem?_eq_getElem (by omega),Bool.eq_iff_iff]
      simp [<-UInt8.toNat_inj]
      omega
    (repeat (first | refine oj_then ?_ | refine cj_ret ?_))
    refine nj_ret TT rfl fun β w' _ _=>?_
    show Value.bool _=_
    congr 1
    rw [hfin,e1,e2,e3,e4,h]
    simp
end Go.Sy
/- Plain law: parts as bytes, and bytes as parts. No program in sight. -/
namespace Go.Sy
structure GPart where
  kd:Int
  b:Bool
  n:GDec
  s:ByteArray
  i:Int
deriving DecidableEq
def emptyB:ByteArray:=⟨#[]⟩
def part0:GPart:=⟨0,false,dec0,emptyB,0⟩
def rightG (p:GPart):Bool :=
  if p.kd=0 then decide (p=part0)
  else if p.kd=1 then decide ((⟨0,false,p.n,p.s,p.i⟩:GPart)=part0)
  else if p.kd=2 then decide ((⟨0,p.b,dec0,p.s,p.i⟩:GPart)=part0)&&decSane p.n
  else if p.kd=3 then decide ((⟨0,p.b,p.n,emptyB,p.i⟩:GPart)=part0)
  else if p.kd=9 then decide ((⟨0,p.b,p.n,p.s,0⟩:GPart)=part0)&&decide (0<=p.i)&&decide (p.i<=4294967295)
  else false
inductive Rt:GPart->Prop
  | null:Rt part0
  | bool (b:Bool):Rt ⟨1,b,dec0,emptyB,0⟩
  | num (n:GDec) (h:decSane n=true):Rt ⟨2,false,n,emptyB,0⟩
  | str (s:ByteArray):Rt ⟨3,false,dec0,s,0⟩
  | whole (i:Int) (h1:0<=i) (h2:i<=4294967295):Rt ⟨9,false,dec0,emptyB,i⟩
theorem right_iff (p:GPart):rightG p=true↔Rt p:=by
  obtain ⟨kd,b,n,s,i⟩:=p
  constructor
  · intro h
    unfold rightG at h
    dsimp only at h
    split at h
    · rename_i h0
      rw [decide_eq_true_eq] at h
      rw [h]
      exact Rt.null
    split at h
    · rename_i h0 h1
      simp only [decide_eq_true_eq,part0,GPart.mk.injEq,true_and] at h
      obtain ⟨rfl,rfl,rfl⟩:=h
      subst h1
      exact Rt.bool b
    split at h
    · rename_i h0 h1 h2
      simp only [Bool.and_eq_true,decide_eq_true_eq,part0,GPart.mk.injEq,true_and] at h
      obtain ⟨⟨rfl,rfl,rfl⟩,hs⟩:=h
      subst h2
      exact Rt.num n hs
    split at h
    · rename_i h0 h1 h2 h3
      simp only [decide_eq_true_eq,part0,GPart.mk.injEq,true_and] at h
      obtain ⟨rfl,rfl,rfl⟩:=h
      subst h3
      exact Rt.str s
    split at h
    · rename_i h0 h1 h2 h3 h9
      simp only [Bool.and_eq_true,decide_eq_true_eq,part0,GPart.mk.injEq,true_and,and_true] at h
      obtain ⟨⟨⟨rfl,rfl,rfl⟩,ha⟩,hb⟩:=h
      subst h9
      exact Rt.whole i ha hb
    · cases h
  · intro h
    cases h with
    | null=>rfl
    | bool b=>simp [rightG,part0]
    | num n h=>simp [rightG,part0,h]
    | str s=>simp [rightG,part0]
    | whole i h1 h2=>simp [rightG,part0,h1,h2]
def byteOf (x:Int):UInt8:=UInt8.ofNat (x % 256).toNat
theorem byteOf_nat (x:Int):((byteOf x).toNat:Int)=x % 256:=by
  unfold byteOf
  rw [UInt8.toNat_ofNat']
  omega
theorem all8 {p:UInt8->Prop} (h:∀ n:Fin 256,p (UInt8.ofNat n.val)) (c:UInt8):p c:=by
  have:=h ⟨c.toNat,c.toNat_lt⟩
  simpa using this
theorem turn_turn:∀ c:UInt8,255 - (255 - c)=c:=all8 (by decide +kernel)
theorem fig_back:∀ c:UInt8,48+(c - 48+1) - 1=c:=all8 (by decide +kernel)
theorem fig_iff':∀ c:UInt8,digitB c=true->c - 48+1≠0/\c - 48+1<=10:=all8 (by decide +kernel)
def sizeG (d:GDec):List UInt8 :=
  byteOf ((d.dg.size+d.ex+1000) / 256)::byteOf (d.dg.size+d.ex+1000)::(d.dg.data.toList.map (fun c=>c - 48+1)++[0])
def turnG (l:List UInt8):List UInt8:=l.map fun c=>255 - c
theorem turnG_turn (l:List UInt8):turnG (turnG l)=l:=by
  unfold turnG
  rw [List.map_map]
  conv=>rhs;rw [<-List.map_id l]
  exact List.map_congr_left fun c _=>turn_turn c
def escG:List UInt8->List UInt8
  | []=>[]
  | c::l=>if c=0 then 0::255::escG l else c::escG l
def putG (p:GPart):List UInt8 :=
  if p.kd=0 then [16]
  else if p.kd=1 then [if p.b then 33 else 32]
  else if p.kd=2 then (if p.n.dg.size=0 then [49] else if p.n.neg then 48::turnG (sizeG p.n) else 50::sizeG p.n)
  else if p.kd=3 then 64::(escG p.s.data.toList++[0,0])
  else [80,byteOf (p.i / 16777216),byteOf (p.i / 65536),byteOf (p.i / 256),byteOf p.i]
def encG (l:List GPart):List UInt8×Int :=
  if 16<l.length then ([],4) else if l.all rightG then (l.flatMap putG,0) else ([],1)
def zsplit:List UInt8->Option (List UInt8×List UInt8)
  | []=>none
  | c::l=>if c=0 then some ([],l) else (zsplit l).map fun p=>(c::p.1,p.2)
theorem zsplit_of:∀ (a r:List UInt8),(∀ c∈a,c≠0)->zsplit (a++0::r)=some (a,r)
  | [],r,_=>by simp [zsplit]
  | c::a,r,h=>by
    rw [List.cons_append,zsplit,if_neg (h c List.mem_cons_self),zsplit_of a r fun x hx=>h x (List.mem_cons_of_mem c hx)]
    rfl
def decOf (neg:Bool) (x y:UInt8) (ds:List UInt8):GDec:=⟨neg,mkB (ds.map fun c=>48+c - 1),x.toNat*256+y.toNat - 1000 - ds.length⟩
def numberG (b:List UInt8) (neg:Bool):Option (GDec×List UInt8) :=
  match (if neg then turnG b else b) with
  | x::y::s =>
    match zsplit s with
    | some (ds,_)=>if ds=[]\/(ds.any fun c=>decide (10<c))=true\/decSane (decOf neg x y ds)=false then none else some (decOf neg x y ds,b.drop (3+ds.length))
    | none=>none
  | _=>none
def textG:List UInt8->Option (List UInt8×List UInt8)
  | []=>none
  | [_]=>none
  | c::d::r =>
    if c≠0 then (textG (d::r)).map fun p=>(c::p.1,p.2)
    else if d=0 then some ([],r) else if d=255 then (textG r).map fun p=>(0::p.1,p.2) else none
def firstG (b:List UInt8):Option (GPart×List UInt8) :=
  match b with
  | []=>none
  | t::r =>
    if t=16 then some (part0,r)
    else if t=32\/t=33 then some (⟨1,decide (t=33),dec0,emptyB,0⟩,r)
    else if t=49 then some (⟨2,false,dec0,emptyB,0⟩,r)
    else if t=48\/t=50 then (numberG r (decide (t=48))).map fun p=>(⟨2,false,p.1,emptyB,0⟩,p.2)
    else if t=64 then (textG r).map fun p=>(⟨3,false,dec0,mkB p.1,0⟩,p.2)
    else if t=80 then
      match r with
      | a::b::c::d::r=>some (⟨9,false,dec0,emptyB,(a.toNat:Int)*16777216+b.toNat*65536+c.toNat*256+d.toNat⟩,r)
      | _=>none
    else none
theorem esc_text:∀ (s u:List UInt8),textG (escG s++0::0::u)=some (s,u)
  | [],u=>by simp [escG,textG]
  | c::s,u=>by
    have ih:=esc_text s u
    unfold escG
    split
    · rename_i h0
      subst h0
      rw [List.cons_append,List.cons_append,textG,ih]
      simp
    · rename_i h0
      have:∃ d r,escG s++0::0::u=d::r:=by
        cases h:escG s++0::0::u with
        | nil=>simp at h
        | cons d r=>exact ⟨d,r,rfl⟩
      obtain ⟨d,r,e⟩:=this
      rw [List.cons_append,e,textG,if_pos h0,<-e,ih]
      rfl
theorem sane_size {d:GDec} (h:decSane d=true) (h0:d.dg.size≠0):(∀ c∈d.dg.data.toList,digitB c=true) /\ -400<=d.dg.size+d.ex/\d.dg.size+d.ex<=400:=by
  obtain ⟨ng,dg,ex⟩:=d
  obtain ⟨l,rfl⟩:=mkB_ex dg
  simp only [mkB_size] at h0 ⊢
  rw [decSane_mk _ _ _ h0] at h
  simp only [Bool.and_eq_true,decide_eq_true_eq,List.all_eq_true] at h
  obtain ⟨⟨⟨⟨⟨⟨⟨-,h1⟩,-⟩,-⟩,h2⟩,h3⟩,-⟩,-⟩:=h
  exact ⟨h1,h2,h3⟩
theorem sane_zero {d:GDec} (h:decSane d=true) (h0:d.dg.size=0):d=dec0:=by
  obtain ⟨ng,dg,ex⟩:=d
  obtain ⟨l,rfl⟩:=mkB_ex dg
  have h0:l.length=0:=by simpa using h0
  have hl:l=[]:=List.eq_nil_of_length_eq_zero h0
  subst hl
  simp only [decSane,mkB_list,List.length_nil,if_true,Bool.and_eq_true,Bool.not_eq_true',decide_eq_true_eq] at h
  obtain ⟨rfl,rfl⟩:=h
  rfl
theorem any_false_of {l:List UInt8} (h:∀ c∈l,c<=10):(l.any fun c=>decide (10<c))=false:=by
  rw [List.any_eq_false]
  intro c hc
  have:=h c hc
  rw [decide_eq_true_eq,UInt8.not_lt]
  exact this
theorem dec_of_size {d:GDec} (h:decSane d=true) (h0:d.dg.size≠0):decOf d.neg (byteOf ((d.dg.size+d.ex+1000) / 256)) (byteOf (d.dg.size+d.ex+1000)) (d.dg.data.toList.map fun c=>c - 48+1)=d:=by
  obtain ⟨-,h1,h2⟩:=sane_size h h0
  obtain ⟨ng,dg,ex⟩:=d
  obtain ⟨l,rfl⟩:=mkB_ex dg
  simp only [mkB_size] at h1 h2 ⊢
  unfold decOf
  rw [mkB_list,List.map_map,List.length_map,byteOf_nat,byteOf_nat]
  congr 1
  · congr 1
    conv=>rhs;rw [<-List.map_id l]
    exact List.map_congr_left fun c _=>fig_back c
  · omega
theorem size_len (d:GDec):(sizeG d).length=3+d.dg.size:=by
  unfold sizeG
  rw [List.length_cons,List.length_cons,List.length_append,List.length_map,List.length_singleton,Array.length_toList]
  show d.dg.data.size+1+1+1=3+d.dg.data.size
  omega
theorem size_number {d:GDec} (h:decSane d=true) (h0:d.dg.size≠0) (u:List UInt8):numberG ((if d.neg then turnG (sizeG d) else sizeG d)++u) d.neg=some (d,u):=by
  obtain ⟨hd,-,-⟩:=sane_size h h0
  have hs:(if d.neg then turnG ((if d.neg then turnG (sizeG d) else sizeG d)++u) else ((if d.neg then turnG (sizeG d) else sizeG d)++u))=sizeG d++(if d.neg then turnG u else u):=by
    cases d.neg
    · rfl
    · show turnG (turnG (sizeG d)++u)=sizeG d++turnG u
      have:turnG (turnG (sizeG d)++u)=turnG (turnG (sizeG d))++turnG u:=List.map_append
      rw [this,turnG_turn]
  unfold numberG
  rw [hs]
  unfold sizeG
  rw [List.cons_append,List.cons_append,List.append_assoc]
  dsimp only
  rw [show ([0]++(if d.neg then turnG u else u))=0::(if d.neg then turnG u else u) from rfl,zsplit_of _ _ (fun c hc=>by
    obtain ⟨x,hx,rfl⟩:=List.mem_map.1 hc
    exact (fig_iff' x (hd x hx)).1)]
  dsimp only
  rw [dec_of_size h h0,if_neg,List.length_map]
  · congr 2
    have hl:(if d.neg then turnG (sizeG d) else sizeG d).length=3+d.dg.data.toList.length:=by
      have:=size_len d
      split
      · unfold turnG;rw [List.length_map,this];rfl
      · rw [this];rfl
    show List.drop (3+d.dg.data.toList.length) _=u
    rw [<-hl]
    exact List.drop_left
  · rintro (h1 | h1 | h1)
    · rw [List.map_eq_nil_iff] at h1
      exact h0 (by show d.dg.data.size=0;rw [<-Array.length_toList,h1];rfl)
    · rw [any_false_of fun c hc=>by
        obtain ⟨x,hx,rfl⟩:=List.mem_map.1 hc
        exact (fig_iff' x (hd x hx)).2] at h1
      cases h1
    · rw [h] at h1;cases h1
theorem first_put {p:GPart} (h:Rt p) (u:List UInt8):firstG (putG p++u)=some (p,u):=by
  cases h with
  | null=>rfl
  | bool b=>cases b<;>rfl
  | num n h =>
    unfold putG
    dsimp only
    rw [if_neg (by decide),if_neg (by decide),if_pos rfl]
    by_cases h0:n.dg.size=0
    · rw [if_pos h0,sane_zero h h0]
      rfl
    rw [if_neg h0]
    have hn:=size_number h h0 u
    cases hneg:n.neg with
    | true =>
      rw [hneg] at hn
      simp only [if_true] at hn ⊢
      rw [List.cons_append]
      unfold firstG
      dsimp only
      rw [if_neg (by decide),if_neg (by decide),if_neg (by decide),if_pos (.inl rfl),decide_eq_true rfl,hn]
      rfl
    | false =>
      rw [hneg] at hn
      simp only [Bool.false_eq_true,if_false] at hn ⊢
      rw [List.cons_append]
      unfold firstG
      dsimp only
      rw [if_neg (by decide),if_neg (by decide),if_neg (by decide),if_pos (.inr rfl),show decide ((50:UInt8)=48)=false from rfl,hn]
      rfl
  | str s =>
    unfold putG
    dsimp only
    rw [if_neg (by decide),if_neg (by decide),if_neg (by decide),if_pos rfl,List.cons_append,List.append_assoc]
    unfold firstG
    dsimp only
    rw [if_neg (by decide),if_neg (by decide),if_neg (by decide),if_neg (by decide),if_pos rfl,show [0,0]++u=0::0::u from rfl,esc_text]
    rfl
  | whole i h1 h2 =>
    show firstG (80::byteOf (i / 16777216)::byteOf (i / 65536)::byteOf (i / 256)::byteOf i::u)=_
    unfold firstG
    dsimp only
    rw [if_neg (by decide),if_neg (by decide),if_neg (by decide),if_neg (by decide),if_neg (by decide),if_pos rfl]
    rw [byteOf_nat,byteOf_nat,byteOf_nat,byteOf_nat]
    congr 3
    omega
theorem put_ne {p:GPart} (h:Rt p):putG p≠[]:=by
  intro e
  have h1:=first_put h []
  rw [e] at h1
  cases h1
theorem all_rt {l:List GPart}:l.all rightG=true↔∀ p∈l,Rt p:=by
  rw [List.all_eq_true]
  exact ⟨fun h p hp=>(right_iff p).1 (h p hp),fun h p hp=>(right_iff p).2 (h p hp)⟩
end Go.Sy
/- Arrays that are made; the less of two numbers. No program in sight. -/
namespace Go.Sy
section
variable {cf:Cf} {σ:Snap} {hp:HP} {A:List AE} {β:Nat->Addr} {w:World}
theorem StW.undrew {o:Obj} (h:StW cf σ hp A β (w.drew.alloc o)):StW cf σ hp A β (w.alloc o) :=
  ⟨h.os,h.tape,h.output,h.size,h.fr,h.sealed,h.le,h.grow,h.loc,h.ro,h.inj,h.arr,h.arrd,h.arrh⟩
end
theorem madeCells_one (v:Value) (n:Nat):madeCells #[v] n=(List.replicate n v).toArray:=by
  apply Array.ext
  · simp [madeCells]
  · intro i h1 h2
    simp [madeCells,Nat.mod_one]
section
variable {cf:Cf} {Q:Exit->Act->World->Prop} {σ:Snap} {env:Env} {hp:HP} {A:List AE} {nh:Nat} {it:Item} {rest:List Item}
theorem oj_makeSlice {d:Nat} {t e n:Nat} {x y:Operand} {T:List (Nat×TI)} (hT:TTok cf.P T) {ti te:TI} {c0:AT} (hop:it.o.op=.makeSlice t x y) (hd:it.o.dst=some d) (hg:guardVal it.guard env=some true) (hN:Nat.blt d cf.N=true)
    (htg:canSink it.tag=true) (hx:evalO env x=some (.a (.v (.int .i64 n)))) (hy:evalO env y=some (.a (.v (.int .i64 n)))) (ht:tget T t=some ti) (hkt:ti.kind=.slice e) (hte:tget T e=some te) (hsz:te.size=1) (hze:te.zero=[c0])
    (_:c0.lt 0) (hby:n*te.bytes<=281474976710656) (hmax:n<=1000000000)
    (hk:∀ g,OJ cf rest Q σ ((d,.a (.v (.slice (some ⟨g,0,none⟩) n n)))::env) hp (A++[⟨some ⟨g,0,none⟩,n,n,e,1,List.replicate n c0.val⟩]) nh):OJ cf (it::rest) Q σ env hp A nh:=by
  refine oj_step hd hg hN htg fun hb a β ha w hw=>?_
  obtain ⟨i1,d1,z1,hs1⟩:=tiOf_spec (hT _ _ ht)
  obtain ⟨i3,d3,z3,hs3⟩:=tiOf_spec (hT _ _ hte)
  have hut:cf.P.underlying t=some (.slice e):=by
    have h1:=hs1.kind
    rw [hkt] at h1
    have h2:=hs1.und
    cases d1<;>first
      | (simp only [kindD,TK.slice.injEq] at h1;subst h1;exact h2)
      | (simp only [kindD] at h1;cases h1)
  have hz3:z3.cells=#[c0.val]:=by
    have:=zero_den hs3 β0
    rw [<-this,hze]
    rfl
  have hxe:a.eval x=.int .i64 n:=evalO_eval ha hx
  have hye:a.eval y=.int .i64 n:=evalO_eval ha hy
  have hrun:=run_make (P:=cf.P) w t e i3 z3 hut hs3.info hs3.zero .i64 .i64 n n (by omega) (Int.le_refl _) (by rw [hs3.bytes];rw [<-Int.natCast_mul,Nat.mul_comm];omega) (by omega)
  rw [hs3.size,hsz,Int.toNat_natCast,Nat.mul_one,hz3,madeCells_one] at hrun
  have hm:=((StW.nilArr e 1).1 hw).moveArr (i:=A.length) (E:=⟨none,0,0,e,1,[]⟩) (E':=⟨some ⟨w.heap.size,0,none⟩,n,n,e,1,List.replicate n c0.val⟩) (cur':=(List.replicate n c0.val).toArray) (by simp) rfl (Nat.le_refl _) (by simp only [maxLen];omega) (by simp) (by simp) (by simp)
  have hset:(A++[(⟨none,0,0,e,1,[]⟩:AE)]).set A.length ⟨some ⟨w.heap.size,0,none⟩,n,n,e,1,List.replicate n c0.val⟩=A++[⟨some ⟨w.heap.size,0,none⟩,n,n,e,1,List.replicate n c0.val⟩]:=by
    rw [List.set_append_right _ _ (Nat.le_refl _),Nat.sub_self]
    rfl
  rw [hset] at hm
  refine ⟨.a (.v (.slice (some ⟨w.heap.size,0,none⟩) n n)),σ,hp,_,nh,_,β,?_,ha,hb.put (x:=.a (.v (.slice (some ⟨w.heap.size,0,none⟩) n n))) trivial d,hm.undrew,hk w.heap.size⟩
  simp only [execOp,hop,hxe,hye,Sem.run_bind,hrun,Result.andThen_ok,Sem.run_pure]
  rfl
def mmOf:Op->Option (Bool×Operand×Operand)
  | .call c =>
    match c.callee,c.args.toList with
    | .builtin .min,[x,y]=>some (true,x,y)
    | .builtin .max,[x,y]=>some (false,x,y)
    | _,_=>none
  | _=>none
theorem mmOf_run {o:Oper} {b:Bool} {x y:Operand} (h:mmOf o.op=some (b,x,y)) {P:Program} {a:Act} {w:World} {k:IntKind} {m n:Int} (hx:a.eval x=.int k m) (hy:a.eval y=.int k n) :
    (execOp a.eval o).run P w=.ok (.value (.int k (if b then (if n<m then n else m) else (if n > m then n else m)))) w:=by
  unfold mmOf at h
  split at h
  · rename_i c hop
    have e1:∀ l,c.args.toList=l->c.args=l.toArray:=fun l hl=>by
      cases hq:c.args with
      | mk l'=>rw [hq] at hl;simp only at hl;rw [hl]
    split at h
    · rename_i x' y' hcal hargs
      injection h with h
      simp only [Prod.mk.injEq] at h
      obtain ⟨rfl,rfl,rfl⟩:=h
      simp only [execOp,hop,resolve,hcal,e1 _ hargs,invoke,builtin,Sem.run_bind,Sem.run_pure,Result.andThen_ok,List.map_toArray,List.map_cons,List.map_nil,Builtin.min_,hx,hy,List.foldlM_cons,List.foldlM_nil,Builtin.min2]
      rfl
    · rename_i x' y' hcal hargs
      injection h with h
      simp only [Prod.mk.injEq] at h
      obtain ⟨rfl,rfl,rfl⟩:=h
      simp only [execOp,hop,resolve,hcal,e1 _ hargs,invoke,builtin,Sem.run_bind,Sem.run_pure,Result.andThen_ok,List.map_toArray,List.map_cons,List.map_nil,Builtin.max_,hx,hy,List.foldlM_cons,List.foldlM_nil,Builtin.max2]
      rfl
    · cases h
  · cases h
theorem oj_mm {d:Nat} {b:Bool} {x y:Operand} {m n:Int} (hop:mmOf it.o.op=some (b,x,y)) (hd:it.o.dst=some d) (hg:guardVal it.guard env=some true) (hN:Nat.blt d cf.N=true) (htag:(match it.tag with | .pure=>false | _=>true)=true)
    (hx:evalO env x=some (.a (.v (.int .i64 m)))) (hy:evalO env y=some (.a (.v (.int .i64 n))))
    (k:OJ cf rest Q σ ((d,.a (.v (.int .i64 (if b then (if n<m then n else m) else (if n > m then n else m)))))::env) hp A nh):OJ cf (it::rest) Q σ env hp A nh :=
  oj_valW (.a (.v (.int .i64 (if b then (if n<m then n else m) else (if n > m then n else m))))) hd hg hN trivial htag
    (fun _ _ β ha _ _=>mmOf_run hop (evalO_eval (β:=β) ha hx) (evalO_eval (β:=β) ha hy)) k
end
end Go.Sy
/- Arrays that are made, of elements of several cells. No program in sight. -/
namespace Go.Sy
theorem madeCells_rep (z:List Value) (k:Nat):(madeCells z.toArray (k*z.length)).toList=(List.replicate k z).flatten:=by
  have hall:∀ r∈List.replicate k z,r.length=z.length:=fun r hr=>by rw [List.eq_of_mem_replicate hr]
  have hl:(List.replicate k z).flatten.length=k*z.length:=by rw [flat_len hall,List.length_replicate]
  have hl2:(madeCells z.toArray (k*z.length)).toList.length=k*z.length:=by rw [Array.length_toList,size_madeCells]
  apply List.ext_getElem?
  intro i
  by_cases hi:i<k*z.length
  · have hz:0<z.length:=by
      rcases Nat.eq_zero_or_pos z.length with h | h
      · rw [h,Nat.mul_zero] at hi;omega
      · exact h
    have hm:i / z.length<k:=Nat.div_lt_of_lt_mul (by rw [Nat.mul_comm];exact hi)
    have hj:i % z.length<z.length:=Nat.mod_lt _ hz
    have:=flat_get hall (m:=i / z.length) (j:=i % z.length) (r:=z) (c:=z[i % z.length]) (by rw [List.getElem?_replicate,if_pos hm]) (List.getElem?_eq_getElem hj)
    rw [Nat.mul_comm,Nat.div_add_mod] at this
    rw [this]
    unfold madeCells
    rw [Array.getElem?_toList,Array.getElem?_map,Array.getElem?_range,if_pos hi]
    simp [hj]
  · rw [List.getElem?_eq_none (by omega),List.getElem?_eq_none (by omega)]
section
variable {cf:Cf} {Q:Exit->Act->World->Prop} {σ:Snap} {env:Env} {hp:HP} {A:List AE} {nh:Nat} {it:Item} {rest:List Item}
theorem oj_makeSliceN {d:Nat} {t e n:Nat} {x y:Operand} {T:List (Nat×TI)} (hT:TTok cf.P T) {ti te:TI} (xs:List Value) (hop:it.o.op=.makeSlice t x y) (hd:it.o.dst=some d) (hg:guardVal it.guard env=some true) (hN:Nat.blt d cf.N=true)
    (htg:canSink it.tag=true) (hx:evalO env x=some (.a (.v (.int .i64 n)))) (hy:evalO env y=some (.a (.v (.int .i64 n)))) (ht:tget T t=some ti) (hkt:ti.kind=.slice e) (hte:tget T e=some te)
    (hby:n*te.bytes<=281474976710656) (hmax:n<=1000000000) (hxs:(madeCells (te.zero.map AT.val).toArray (n*te.size)).toList=xs)
    (hk:∀ g,OJ cf rest Q σ ((d,.a (.v (.slice (some ⟨g,0,none⟩) n n)))::env) hp (A++[⟨some ⟨g,0,none⟩,n,n,e,te.size,xs⟩]) nh):OJ cf (it::rest) Q σ env hp A nh:=by
  refine oj_step hd hg hN htg fun hb a β ha w hw=>?_
  obtain ⟨i1,d1,z1,hs1⟩:=tiOf_spec (hT _ _ ht)
  obtain ⟨i3,d3,z3,hs3⟩:=tiOf_spec (hT _ _ hte)
  have hut:cf.P.underlying t=some (.slice e):=by
    have h1:=hs1.kind
    rw [hkt] at h1
    have h2:=hs1.und
    cases d1<;>first
      | (simp only [kindD,TK.slice.injEq] at h1;subst h1;exact h2)
      | (simp only [kindD] at h1;cases h1)
  have hz3:z3.cells=(te.zero.map AT.val).toArray:=(zero_den hs3 β0).symm
  have hxl:xs.length=n*te.size:=by rw [<-hxs,Array.length_toList,size_madeCells]
  have hxe:a.eval x=.int .i64 n:=evalO_eval ha hx
  have hye:a.eval y=.int .i64 n:=evalO_eval ha hy
  have hrun:=run_make (P:=cf.P) w t e i3 z3 hut hs3.info hs3.zero .i64 .i64 n n (by omega) (Int.le_refl _) (by rw [hs3.bytes];rw [<-Int.natCast_mul,Nat.mul_comm];omega) (by omega)
  rw [hs3.size,Int.toNat_natCast,hz3] at hrun
  have hm:=((StW.nilArr e te.size).1 hw).moveArr (i:=A.length) (E:=⟨none,0,0,e,te.size,[]⟩) (E':=⟨some ⟨w.heap.size,0,none⟩,n,n,e,te.size,xs⟩) (cur':=madeCells (te.zero.map AT.val).toArray (n*te.size)) (by simp) rfl (Nat.le_refl _) (by simp only [maxLen];omega) (by dsimp only;exact hxl) (by rw [size_madeCells]) (by dsimp only;rw [hxs,<-hxl,List.take_length])
  have hset:(A++[(⟨none,0,0,e,te.size,[]⟩:AE)]).set A.length ⟨some ⟨w.heap.size,0,none⟩,n,n,e,te.size,xs⟩=A++[⟨some ⟨w.heap.size,0,none⟩,n,n,e,te.size,xs⟩]:=by
    rw [List.set_append_right _ _ (Nat.le_refl _),Nat.sub_self]
    rfl
  rw [hset] at hm
  refine ⟨.a (.v (.slice (some ⟨w.heap.size,0,none⟩) n n)),σ,hp,_,nh,_,β,?_,ha,hb.put (x:=.a (.v (.slice (some ⟨w.heap.size,0,none⟩) n n))) trivial d,hm.undrew,hk w.heap.size⟩
  simp only [execOp,hop,hxe,hye,Sem.run_bind,hrun,Result.andThen_ok,Sem.run_pure]
  rfl
end
section
variable {cf:Cf} {σ:Snap} {hp:HP} {A:List AE} {β:Nat->Addr} {w:World}
end
section
variable {cf:Cf} {Q:Exit->Act->World->Prop} {σ:Snap} {env:Env} {hp:HP} {A:List AE} {nh:Nat}
end
end Go.Sy
/- More rules: room made by 'append(nil, make(..)..)'; values read in a wider class. No program in sight. -/
namespace Go.Sy
section
variable {cf:Cf} {Q:Exit->Act->World->Prop} {σ:Snap} {env:Env} {hp:HP} {A:List AE} {nh:Nat} {it:Item} {rest:List Item}
theorem sealed_cell {σ:Snap} {w:World} (h:Sealed σ w) {a:Addr} {v:Value} (hv:σ.cell a=some v):w.cell? a=some v:=by
  unfold Snap.cell at hv
  unfold World.cell?
  split at hv
  · rename_i c e f hc
    rw [h _ _ hc]
    exact hv
  · cases hv
variable {W:(Nat->Addr)->World->Prop}
theorem StW.dropA {β:Nat->Addr} {w:World} (h:StW cf σ hp A β w):StW cf σ hp [] β w :=
  { h with arr:=fun i E hi=>(by simp at hi),arrd:=fun i j E F hi=>(by simp at hi),arrh:=fun i j E e cs hi=>(by simp at hi) }
end
end Go.Sy
/- A store of several cells into an own array. No program in sight. -/
namespace Go.Sy
theorem take_splice {α:Type} (l news:List α) (off N:Nat) (h:off+news.length<=N) (hl:N<=l.length) :
    (l.take off++news++l.drop (off+news.length)).take N=(l.take N).take off++news++(l.take N).drop (off+news.length):=by
  have h1:(l.take off++news).length=off+news.length:=by rw [List.length_append,List.length_take];omega
  rw [List.take_append,h1,List.take_of_length_le (by omega),List.take_take,Nat.min_eq_left (by omega),List.drop_take]
section
variable {cf:Cf} {Q:Exit->Act->World->Prop} {σ:Snap} {env:Env} {hp:HP} {A:List AE} {nh:Nat} {it:Item} {rest:List Item}
theorem oj_stAs (i:Nat) {E:AE} {A':List AE} {t:Nat} {x y:Operand} {T:List (Nat×TI)} (hT:TTok cf.P T) {ti:TI} {g off:Nat} {cs:List AT} (hop:it.o.op=.store t x y) (hd:it.o.dst=none) (hg:guardVal it.guard env=some true)
    (htag:canSink it.tag=true) (hx:evalO env x=some (.a (.v (.pointer (some ⟨g,off,none⟩))))) (hy:evalO env y=some (.agg cs)) (hi:A[i]?=some E) (hE:E.ao=some ⟨g,0,none⟩) (ht:tget T t=some ti) (hsz:ti.size=cs.length)
    (hoff:off+cs.length<=E.n*E.sz) (hc:∀ c∈cs,c.lt 0) (hone:cs.all AT.one=true)
    (hA:A.set i ⟨E.ao,E.n,E.cap,E.e,E.sz,E.xs.take off++cs.map AT.val++E.xs.drop (off+cs.length)⟩=A') (k:OJ cf rest Q σ env hp A' nh):OJ cf (it::rest) Q σ env hp A nh:=by
  subst hA
  refine ⟨fun hb a β ha hex=>?_⟩
  have key:∀ w,StW cf σ hp A β w->∀ Q',it.o.wq cf.P a w (fun a' w'=>∃ E' S':World->Prop,S' w'/\(∀ x,S' x->E' x)/\RunT cf.P Q rest E' S' a') Q':=by
    intro w hw Q'
    obtain ⟨inf,d',z,hs⟩:=tiOf_spec (hT _ _ ht)
    have hx':a.eval x=.pointer (some ⟨g,off,none⟩):=evalO_eval ha hx
    have hmap:cs.map (AT.den β)=cs.map AT.val:=List.map_congr_left fun c h=>AT.den_val (hc c h) β
    have hy':a.eval y=.agg (cs.map AT.val).toArray:=by
      rw [<-hmap]
      exact evalO_eval ha hy
    have hE0:=hw.arr i E hi
    rcases hE0.2 with h1 | ⟨g',cur,h3,h4,h5,h6,h7,h8,h9,h10⟩
    · rw [h1.1] at hE;cases hE
    · rw [hE] at h3
      injection h3 with h3
      simp only [Addr.mk.injEq,and_true] at h3
      subst h3
      have hnc:E.n*E.sz<=E.cap*E.sz:=Nat.mul_le_mul_right _ h5
      have hll:cur.toList.length=E.cap*E.sz:=by rw [Array.length_toList,h7]
      have hst:=run_storeCells_at cf.P g off E.e (cs.map AT.val) 0 cur w h4 (by simp only [List.length_map];omega) (fun v hv=>by
        obtain ⟨c,hc',rfl⟩:=List.mem_map.1 hv
        exact AT.one_den β0 (List.all_eq_true.1 hone c hc'))
      simp only [Nat.add_zero,List.length_map] at hst
      have hrun:(execOp a.eval it.o).run cf.P w=.ok .skip (w.setRow g (cur.toList.take off++cs.map AT.val++cur.toList.drop (off+cs.length)).toArray):=by
        have hsz':inf.size=cs.length:=by rw [hs.size,hsz]
        simp only [execOp,hop,Instr.storeAt,hx',hy',Instr.sureAddr,storeVar,Sem.run_bind,Sem.run_pure,Result.andThen_ok,Value.cells,run_size hs.info,hsz',List.size_toArray,List.length_map,ne_eq,not_true,if_false,Sem.run_ite,hst]
      unfold Oper.wq
      rw [hrun]
      have htk:=take_splice cur.toList (cs.map AT.val) off (E.n*E.sz) (by simp only [List.length_map];omega) (by omega)
      simp only [List.length_map] at htk
      have hxl:E.xs.length=E.n*E.sz:=hE0.1
      have hw':=hw.setArr (E':=⟨E.ao,E.n,E.cap,E.e,E.sz,E.xs.take off++cs.map AT.val++E.xs.drop (off+cs.length)⟩) (cur':=(cur.toList.take off++cs.map AT.val++cur.toList.drop (off+cs.length)).toArray) hi hE h4 rfl rfl rfl rfl h5
        (by simp only [List.length_append,List.length_take,List.length_drop,List.length_map];omega) (by simp only [List.size_toArray,List.length_append,List.length_take,List.length_drop,List.length_map];omega) (by rw [htk,h8])
      refine ⟨_,_,hw',fun _ h=>h,?_⟩
      rw [hd]
      exact k.run hb a β ha ⟨_,hw'⟩
  simp only [RunT]
  rw [if_pos (guardVal_ok ha hg)]
  cases htag':it.tag with
  | pure=>rw [htag'] at htag;cases htag
  | quiet=>rw [htag'] at htag;cases htag
  | keep=>rw [htag'] at htag;cases htag
  | sink=>exact fun w hw=>key w hw _
  | free=>exact fun w hw=>key w hw _
end
end Go.Sy
/- Calls that look at the call's own arrays, and leave them as they are. No program in sight. -/
namespace Go.Sy
theorem ArrSealed.mono {σ σ':Snap} {E:AE} (h:ArrSealed σ E) (hle:σ.le σ'):ArrSealed σ' E:=by
  rcases h with h | ⟨g,h1,h2⟩
  · exact .inl h
  · exact .inr ⟨g,h1,fun j x hx=>hle.cell (h2 j x hx)⟩
section
variable {cf:Cf} {hp:HP} {β:Nat->Addr} {w w':World}
theorem StW.sealAll:∀ {A:List AE} {σ:Snap},StW cf σ hp A β w->∃ σ',σ.le σ'/\(∀ (i:Nat) E,A[i]?=some E->ArrSealed σ' E)/\StW cf σ' hp [] β w
  | [],σ,h=>⟨σ,Snap.le_refl σ,fun i E hE=>by simp at hE,h⟩
  | E::A,σ,h=>by
    obtain ⟨σ1,h1,h2,h3⟩:=h.sealArr (i:=0) (E:=E) rfl
    obtain ⟨σ2,h4,h5,h6⟩:=StW.sealAll (A:=A) h3
    refine ⟨σ2,Snap.le_trans h1 h4,fun i F hF=>?_,h6⟩
    cases i with
    | zero =>
      simp only [List.getElem?_cons_zero,Option.some.injEq] at hF
      subst hF
      exact h2.mono h4
    | succ i=>exact h5 i F (by simpa using hF)
theorem ArrOk.weak {σ σ':Snap} {E:AE} (h:ArrOk cf σ' w E) (hn:∀ {b},σ' b=none->σ b=none):ArrOk cf σ w E:=by
  refine ⟨h.1,h.2.imp id ?_⟩
  rintro ⟨g,cur,h3,h4,h5,h6,h7,h8,h9,h10⟩
  exact ⟨g,cur,h3,h4,h5,h6,h7,h8,hn h9,h10⟩
theorem StW.peeked {σ σ1 σ2:Snap} {A A':List AE} (h:StW cf σ hp A β w) (h1:StW cf σ1 hp [] β w) (hle:σ.le σ1) (h':StW ⟨cf.P,w,σ1,blks [],0,[],none⟩ σ2 [] A' β0 w'):StW cf σ hp (A++A') β w':=by
  have t:StW cf σ2 hp (A'++[]) β w':=StW.through (A0:=[]) (Ar:=[]) h1 h'
  rw [List.append_nil] at t
  have hold:∀ b,b<w.heap.size->w'.heap[b]?=w.heap[b]?:=fun b hb=>h'.fr b hb (by rintro ⟨E,hE,_⟩;cases hE)
  have hle2:σ.le σ2:=Snap.le_trans hle h'.le
  have hn:∀ {b},σ2 b=none->σ b=none:=fun hb=>Snap.none_of_le hle2 hb
  have hget:∀ {j:Nat} {E:AE},(A++A')[j]?=some E->(j<A.length/\A[j]?=some E)\/(A.length<=j/\A'[j - A.length]?=some E):=by
    intro j E hj
    by_cases hlt:j<A.length
    · rw [List.getElem?_append_left hlt] at hj;exact .inl ⟨hlt,hj⟩
    · rw [List.getElem?_append_right (by omega)] at hj;exact .inr ⟨by omega,hj⟩
  have old:∀ {j:Nat} {E:AE} {b:Nat},A[j]?=some E->E.blk=some b->b<w.heap.size:=fun hE hb=>((h.arr _ _ hE).lt hb).1
  have new:∀ {j:Nat} {E:AE} {b:Nat},A'[j]?=some E->E.blk=some b->w.heap.size<=b:=by
    intro j E b hE hb
    rcases ((h'.arr _ _ hE).lt hb).2.2 with h1 | ⟨F,hF,_⟩
    · exact h1
    · cases hF
  refine ⟨t.os,t.tape,t.output,t.size,t.fr,fun b o hb=>t.sealed b o (hle2 b o hb),h.le,h.grow,fun i e cs hi=>?_,h.ro,h.inj,fun i E hE=>?_,fun i j E F hE hF hij g hg=>?_,fun i j E e cs hE hj=>?_⟩
  · obtain ⟨q1,q2,q3,q4⟩:=t.loc i e cs hi
    exact ⟨q1,q2,hn q3,q4⟩
  · rcases hget hE with ⟨_,hE⟩ | ⟨_,hE⟩
    · exact (h.arr i E hE).keep fun g hg=>hold g (old hE hg)
    · exact (t.arr _ E hE).weak hn
  · rcases hget hE with ⟨_,hE⟩ | ⟨_,hE⟩<;>rcases hget hF with ⟨_,hF⟩ | ⟨_,hF⟩
    · exact h.arrd i j E F hE hF hij g hg
    · intro hc
      have:=old hE hg
      have:=new hF hc
      omega
    · intro hc
      have:=new hE hg
      have:=old hF hc
      omega
    · exact t.arrd _ _ E F hE hF (by omega) g hg
  · rcases hget hE with ⟨_,hE⟩ | ⟨_,hE⟩
    · exact h.arrh i j E e cs hE hj
    · exact t.arrh _ j E e cs hE hj
end
theorem FnC.ofPure {P:Program} {f:FuncId} {args:Array Value} {σ:Snap} {Φ:Value->Snap->Prop} (h:PureC P f args σ Φ):FnC P f args σ [] (fun v σ' A'=>Φ v σ'/\A'=[]):=by
  intro w hw
  refine Calls.mono (h w hw.sealed) fun e w' ⟨v,σ',he,h1,h2,h3,h4⟩=>?_
  rw [blks_nil]
  refine ⟨v,σ',he,h1,h2,h3,[],⟨h4,rfl⟩,?_⟩
  rw [blks_nil]
  exact (StW.start (M:=fun _=>False) hw.sealed β0).after h1 h2 h3
section
variable {cf:Cf} {Q:Exit->Act->World->Prop} {σ:Snap} {env:Env} {hp:HP} {A:List AE} {nh:Nat} {it:Item} {rest:List Item}
theorem oj_peekF {d:Nat} {f:FuncId} {ys:List SV} {Φ:Value->List AE->Prop}
    (hc:callee env it.o.op=some (f,ys)) (hd:it.o.dst=some d) (hg:guardVal it.guard env=some true)
    (hN:Nat.blt d cf.N=true) (htag:canSink it.tag=true) (hcall:∀ args w,(callFunc f args).run cf.P w=.ok (.enter f args) w) (hlt:LtAll ys)
    (hC:∀ σ',σ.le σ'->(∀ (i:Nat) E,A[i]?=some E->ArrSealed σ' E)->FnS cf.P f ys σ' [] (fun v _ A'=>Φ v A'))
    (k:∀ v A',Φ v A'->∃ y:SV,y.lt 0/\y.den β0=v/\OJ cf rest Q σ ((d,y)::env) hp (A++A') nh):OJ cf (it::rest) Q σ env hp A nh:=by
  refine ⟨fun hb a β ha hex=>?_⟩
  have hN':d<cf.N:=by simpa [Nat.blt_eq] using hN
  have den0:∀ {y:SV},y.lt 0->y.den β=y.den β0:=fun hy=>SV.den_congr (n:=0) (fun i hi=>by omega) hy
  have hargs:(ys.map (SV.den β)).toArray=(ys.map (SV.den β0)).toArray:=by
    rw [List.map_congr_left fun y hy=>den0 (hlt.of y hy)]
  have key:∀ w,StW cf σ hp A β w->∀ Q',it.o.wq cf.P a w (fun a' w'=>∃ E' S':World->Prop,S' w'/\(∀ x,S' x->E' x)/\RunT cf.P Q rest E' S' a') Q':=by
    intro w hw Q'
    obtain ⟨σ1,hle,hS,hw1⟩:=hw.sealAll
    have hw2:StW cf σ1 hp ([]++[]) β w:=hw1
    unfold Oper.wq
    rw [callee_ok ha hc hcall]
    simp only [Oper.uponIn]
    rw [hargs]
    refine ⟨fun h=>(by cases h),CallsIn.mono (callsIn_FR.2 (hC σ1 hle hS w hw2.handIn)) fun e w' ⟨v,σ',he,h1,h2,h3,A',h4,h5⟩=>?_⟩
    subst he
    obtain ⟨y,hy,hyv,hk⟩:=k v A' h4
    have hw':=hw.peeked hw1 hle h5
    refine ⟨_,_,hw',fun _ h=>h,?_⟩
    have:=hk.run (hb.put (SV.lt_mono (Nat.zero_le _) hy) d) (a.put (some d) (y.den β)) β (ha.put hN' y) ⟨_,hw'⟩
    rw [hd,<-hyv,<-den0 hy]
    exact this
  simp only [RunT]
  rw [if_pos (guardVal_ok ha hg)]
  cases htag':it.tag with
  | pure=>rw [htag'] at htag;cases htag
  | quiet=>rw [htag'] at htag;cases htag
  | keep=>rw [htag'] at htag;cases htag
  | sink=>exact fun w hw=>key w hw _
  | free=>exact fun w hw=>key w hw _
theorem oj_peekP {d:Nat} {f:FuncId} {ys:List SV} {Φ:Value->Prop}
    (hc:callee env it.o.op=some (f,ys)) (hd:it.o.dst=some d) (hg:guardVal it.guard env=some true)
    (hN:Nat.blt d cf.N=true) (htag:canSink it.tag=true) (hcall:∀ args w,(callFunc f args).run cf.P w=.ok (.enter f args) w) (hlt:LtAll ys)
    (hC:∀ σ',σ.le σ'->(∀ (i:Nat) E,A[i]?=some E->ArrSealed σ' E)->PlainS cf.P f ys σ' Φ)
    (k:∀ v,Φ v->∃ y:SV,y.lt 0/\y.den β0=v/\OJ cf rest Q σ ((d,y)::env) hp A nh):OJ cf (it::rest) Q σ env hp A nh:=by
  refine oj_peekF (Φ:=fun v A'=>Φ v/\A'=[]) hc hd hg hN htag hcall hlt (fun σ' h1 h2=>FnC.ofPure (hC σ' h1 h2)) fun v A' ⟨h1,h2⟩=>?_
  subst h2
  rw [List.append_nil]
  exact k v h1
theorem oj_strcat {d:Nat} {x y:Operand} {xt yt:TypeId} {s t:ByteArray} (hop:it.o.op=.binOp .add xt x y yt) (hd:it.o.dst=some d) (hg:guardVal it.guard env=some true) (hN:Nat.blt d cf.N=true)
    (hx:evalO env x=some (.a (.v (.string s)))) (hy:evalO env y=some (.a (.v (.string t)))) (hb:s.size+t.size<=9223372036854775807)
    (hk:OJ cf rest Q σ ((d,.a (.v (.string (s++t))))::env) hp A nh):OJ cf (it::rest) Q σ env hp A nh:=by
  refine oj_val (.a (.v (.string (s++t)))) hd hg hN trivial (fun _ a β ha w=>?_) hk
  have h1:a.eval x=.string s:=evalO_eval ha hx
  have h2:a.eval y=.string t:=evalO_eval ha hy
  have h3:¬ ((s.size+t.size:Nat):Int) > IntKind.i64.max:=by
    show ¬ ((s.size+t.size:Nat):Int) > 9223372036854775807
    omega
  simp only [execOp,hop,h1,h2]
  rw [Sem.run_bind]
  have:∀ P:Program,(do eqGuard .add xt x y (.string s) (.string t);binOp .add xt (.string s) (.string t):Sem Value).run P w=.ok (.string (s++t)) w:=by
    intro P
    simp only [eqGuard,binOp,Op.stringOp,if_neg h3,Sem.run_bind,Sem.run_pure]
    rfl
  rw [this]
  rfl
end
end Go.Sy
/- Regions whose orders fork: of two operations that change the world, either may come first, and both ways are gone. No program in sight. -/
namespace Go.Sy
structure GJ (cf:Cf) (ops:Array Oper) (U bef:List Nat) (n:Nat) (listed:Array Bool) (fst:Bool) (Q:Exit->Act->World->Prop) (σ:Snap) (env:Env) (hp:HP) (A:List AE) (nh:Nat):Prop where
  run:Region.noSelect ops=true->Bd env hp nh->∀ a β,StA cf env β a->(∃ w,StW cf σ hp A β w)->Closed ops listed->∀ E0:World->Prop,(∀ x,StW cf σ hp A β x->E0 x) ->
    (fst=true->∀ x,E0 x->StW cf σ hp A β x)->wpAnyC cf.P ops U Q n listed a E0 (fun w=>StW cf σ hp A β w)
structure GK (cf:Cf) (ops:Array Oper) (U bef:List Nat) (n:Nat) (listed:Array Bool) (j:Nat) (Q:Exit->Act->World->Prop) (σ:Snap) (env:Env) (hp:HP) (A:List AE) (nh:Nat):Prop where
  run:Region.noSelect ops=true->Bd env hp nh->∀ a β,StA cf env β a->(∃ w,StW cf σ hp A β w)->Closed ops listed->j∈Region.ready .any ops listed->∀ E0:World->Prop,(∀ x,StW cf σ hp A β x->E0 x) ->
    stepC cf.P ops U Q j (wpAnyC cf.P ops U Q n (listed.setIfInBounds j true)) a E0 (fun w=>StW cf σ hp A β w)
section
variable {cf:Cf} {Q:Exit->Act->World->Prop} {σ:Snap} {env:Env} {hp:HP} {A:List AE} {nh:Nat} {ops:Array Oper} {U bef:List Nat} {n:Nat} {listed:Array Bool} {fst:Bool}
theorem cj_drawG {id:Nat} (m:Nat) (U:List Nat) (hm:cf.P.follows .mixedOrders=true) (hs:Region.noSelect ops=true) (hn:ops.size=m)
    (h:GJ cf ops U [] m (Array.replicate m false) true Q σ env hp A nh) (hd:okRd cf.rd ops=true:=by rfl):CJ cf (.region id ops true) Q σ env hp A nh:=by
  subst hn
  refine ⟨fun hb a β w ha hw=>wpIn_region_any hm ?_⟩
  have hc:Closed ops (Array.replicate ops.size false):=⟨by simp,fun j oj _ hl=>by
    exfalso
    rcases Nat.lt_or_ge j ops.size with h | h
    · simp [h] at hl
    · simp [h] at hl⟩
  exact wpAnyIn_of_C (okRd_mem hd) _ _ _ _ _ _ hw.drew (h.run hs hb a β ha ⟨_,hw⟩ hc _ (fun _ h=>h) (fun _ _ h=>h))
theorem gj_valT {i d:Nat} {o:Oper} (y:SV) (hi:ops[i]?=some o) (hr:(Region.ready .any ops listed).contains i=true) (hf:Region.free .any ops listed i=true) (hk:(U.contains i||fst)=true)
    (hd:o.dst=some d) (hg:guardVal (slotOf ops o) env=some true) (hN:Nat.blt d cf.N=true) (hlt:y.lt nh)
    (hrun:Bd env hp nh->∀ a β,StA cf env β a->∀ w,(U.contains i=false->StW cf σ hp A β w)->(execOp a.eval o).run cf.P w=.ok (.value (y.den β)) w)
    (k:GJ cf ops U (bef++[i]) n (listed.setIfInBounds i true) fst Q σ ((d,y)::env) hp A nh):GJ cf ops U bef (n+1) listed fst Q σ env hp A nh:=by
  refine ⟨fun hs hb a β ha hex hc E0 hE hF=>?_⟩
  have hN':d<cf.N:=by simpa [Nat.blt_eq] using hN
  have hr':i∈Region.ready .any ops listed:=by simpa using hr
  have hw:Region.wanted o (yielded ops a.tmps)=true:=by rw [<-wantedS_slotOf];exact guardVal_ok ha hg
  have hrest:=k.run hs (hb.put hlt d) _ β (ha.put hN' y) hex (hc.set hr') E0 hE hF
  refine wpAnyC_first hi (Region.noSelect_spec hs) n listed a E0 _ hc hE (Region.free_spec hi hf) hr' ⟨.inl ⟨hw,fun w hE0=>.inl ?_⟩,fun hu=>.inl ⟨hw,fun w _=>.inl ?_⟩⟩ (by rw [hd];exact hrest)
  · refine hrun hb a β ha w fun hu=>?_
    rw [hu,Bool.false_or] at hk
    exact hF hk w hE0
  · exact hrun hb a β ha w fun hu'=>absurd (List.contains_iff_mem.2 hu) (by rw [hu'];simp)
theorem gj_val {i d:Nat} {o:Oper} {T:List (Nat×TI)} (hT:TTok cf.P T) {x:SV} (hi:ops[i]?=some o) (hr:(Region.ready .any ops listed).contains i=true) (hf:Region.free .any ops listed i=true)
    (hk:(bif U.contains i then !isLoad o.op else fst)=true) (hd:o.dst=some d) (hg:guardVal (slotOf ops o) env=some true) (hN:Nat.blt d cf.N=true) (h:stepOp T o.op env hp nh=some (.val x))
    (k:GJ cf ops U (bef++[i]) n (listed.setIfInBounds i true) fst Q σ ((d,x)::env) hp A nh):GJ cf ops U bef (n+1) listed fst Q σ env hp A nh:=by
  refine ⟨fun hs hb a β ha hex hc E0 hE hF=>?_⟩
  have hx:x.lt nh:=(step_ok (o:=o) hT ha hb h).1
  refine (gj_valT x hi hr hf ?_ hd hg hN hx (fun hb a β ha w hw=>?_) k).run hs hb a β ha hex hc E0 hE hF
  · cases hu:U.contains i<;>rw [hu] at hk
    · simpa using hk
    · rfl
  · refine (step_ok (o:=o) hT ha hb h).2 w fun hl=>⟨σ,A,hw ?_⟩
    cases hu:U.contains i with
    | false=>rfl
    | true=>rw [hu,cond_true,hl] at hk;cases hk
theorem gj_fork (js:List Nat) (hr:(Region.ready .any ops listed == js)=true) (hne:js.isEmpty=false) (k:∀ j,j∈js->GK cf ops U bef n listed j Q σ env hp A nh):GJ cf ops U bef (n+1) listed fst Q σ env hp A nh:=by
  refine ⟨fun hs hb a β ha hex hc E0 hE hF=>?_⟩
  have hr':=eq_of_beq hr
  refine ⟨fun h0=>?_,fun j hj=>(k j (by rw [<-hr'];exact hj)).run hs hb a β ha hex hc hj E0 hE⟩
  rw [hr'] at h0
  subst h0
  cases hne
theorem gj_two {i j:Nat} (hr:(Region.ready .any ops listed == [i,j])=true) (ki:GK cf ops U bef n listed i Q σ env hp A nh) (kj:GK cf ops U bef n listed j Q σ env hp A nh):GJ cf ops U bef (n+1) listed fst Q σ env hp A nh :=
  gj_fork [i,j] hr rfl fun m hm=>by
    simp only [List.mem_cons,List.not_mem_nil,or_false] at hm
    rcases hm with rfl | rfl
    · exact ki
    · exact kj
theorem gk_call {j d:Nat} {o:Oper} {f:FuncId} {ys:List SV} {Φ:Value->Snap->Prop} (hj:ops[j]?=some o) (hc:callee env o.op=some (f,ys)) (hd:o.dst=some d) (hg:guardVal (slotOf ops o) env=some true)
    (hN:Nat.blt d cf.N=true) (hcall:∀ args w,(callFunc f args).run cf.P w=.ok (.enter f args) w) (hlt:LtAll ys) (hC:PureS cf.P f ys σ Φ)
    (k:∀ v σ',σ.le σ'->Φ v σ'->∃ y:SV,y.lt 0/\y.den β0=v/\GJ cf ops U (bef++[j]) n (listed.setIfInBounds j true) false Q σ' ((d,y)::env) hp A nh):GK cf ops U bef n listed j Q σ env hp A nh:=by
  refine ⟨fun hs hb a β ha hex hcl hr E0 hE=>?_⟩
  have hN':d<cf.N:=by simpa [Nat.blt_eq] using hN
  have den0:∀ {y:SV},y.lt 0->y.den β=y.den β0:=fun hy=>SV.den_congr (n:=0) (fun i hi=>by omega) hy
  have hargs:(ys.map (SV.den β)).toArray=(ys.map (SV.den β0)).toArray:=by
    rw [List.map_congr_left fun y hy=>den0 (hlt.of y hy)]
  have hwant:Region.wanted o (yielded ops a.tmps)=true:=by rw [<-wantedS_slotOf];exact guardVal_ok ha hg
  unfold stepC
  simp only [hj]
  rw [if_pos hwant]
  intro w hw
  unfold Oper.wq
  rw [callee_ok ha hc hcall]
  simp only [Oper.uponIn]
  rw [hargs]
  refine ⟨fun h=>(by cases h),CallsIn.mono (callsIn_FR.2 (hC w hw.sealed)) fun e w' ⟨v,σ',he,h1,h2,h3,h4⟩=>?_⟩
  subst he
  have hw':=hw.after h1 h2 h3
  have hσ:∀ {b},σ' b=none->σ b=none:=fun hb=>Snap.none_of_le h2.le hb
  have hsub:∀ x,StW cf σ' hp A β x->StW cf σ hp A β x:=by
    intro x hx
    refine ⟨hx.os,hx.tape,hx.output,hx.size,hx.fr,fun b o hb=>hx.sealed b o (h2.le b o hb),hw.le,hw.grow,fun i e cs hi=>?_,hw.ro,hx.inj,fun i E hE=>(hx.arr i E hE).weak hσ,hx.arrd,hx.arrh⟩
    obtain ⟨q1,q2,q3,q4⟩:=hx.loc i e cs hi
    exact ⟨q1,q2,hσ q3,q4⟩
  obtain ⟨y,hy,hyv,hk⟩:=k v σ' h2.le h4
  refine ⟨E0,_,hw',fun x hx=>hE x (hsub x hx),.inl fun _ h=>h,?_⟩
  have:=hk.run hs (hb.put (SV.lt_mono (Nat.zero_le _) hy) d) (a.put (some d) (y.den β)) β (ha.put hN' y) ⟨_,hw'⟩ (hcl.set hr) E0 (fun x hx=>hE x (hsub x hx)) (fun h=>by cases h)
  rw [hd,<-hyv,<-den0 hy]
  exact this
theorem gk_new {j d:Nat} {o:Oper} {T:List (Nat×TI)} (hT:TTok cf.P T) {e:TypeId} {cs:List AT} {x:AT} (hj:ops[j]?=some o) (h:stepOp T o.op env hp nh=some (.new e cs x)) (hd:o.dst=some d) (hg:guardVal (slotOf ops o) env=some true)
    (hN:Nat.blt d cf.N=true) (k:GJ cf ops U (bef++[j]) n (listed.setIfInBounds j true) false Q σ ((d,.a x)::env) ((nh,.loc e,cs)::hp) A (nh+1)):GK cf ops U bef n listed j Q σ env hp A nh:=by
  refine ⟨fun hs hb a β ha hex hcl hr E0 hE=>?_⟩
  have hN':d<cf.N:=by simpa [Nat.blt_eq] using hN
  have hwant:Region.wanted o (yielded ops a.tmps)=true:=by rw [<-wantedS_slotOf];exact guardVal_ok ha hg
  obtain ⟨hcs,hx,hrun⟩:=step_ok (o:=o) hT ha hb h
  have hxl:(SV.a x).lt (nh+1):=by
    rcases hx with rfl | ⟨n,rfl⟩<;>exact Nat.lt_succ_self nh
  unfold stepC
  simp only [hj]
  rw [if_pos hwant]
  intro w hw
  unfold Oper.wq
  rw [hrun w]
  have hw':=hw.alloc (e:=e) hb hcs
  have hβ:=upd_old β nh w
  have hg2:∀ {i k l},hp.get i=some (k,l)->HP.get ((nh,HK.loc e,cs)::hp) i=some (k,l):=by
    intro i k l hi
    have hlt:=(hb.hp i k l hi).1
    rw [HP.get_cons,if_neg (by omega)]
    exact hi
  have keepS:∀ w',StW cf σ ((nh,.loc e,cs)::hp) A (upd β nh w) w'->StW cf σ hp A β w':=by
    intro w' s
    refine ⟨s.os,s.tape,s.output,s.size,s.fr,s.sealed,s.le,s.grow,fun i e' l hi=>?_,fun i l hi j c hc=>?_,fun i j e1 e2 l1 l2 hi hj heq=>?_,s.arr,s.arrd,fun i j E e' l hE hj=>?_⟩
    · obtain ⟨hlt,hl⟩:=hb.hp i _ l hi
      have:=s.loc i e' l (hg2 hi)
      rw [hβ i hlt,AT.denL_congr hβ hl] at this
      exact this
    · obtain ⟨hlt,hl⟩:=hb.hp i _ l hi
      have:=s.ro i l (hg2 hi) j c hc
      rw [hβ i hlt,AT.den_congr hβ (hl c (List.mem_of_getElem? hc))] at this
      exact this
    · have h1:=(hb.hp i _ l1 hi).1
      have h2:=(hb.hp j _ l2 hj).1
      exact s.inj i j e1 e2 l1 l2 (hg2 hi) (hg2 hj) (by rw [hβ i h1,hβ j h2];exact heq)
    · have h1:=(hb.hp j _ l hj).1
      have:=s.arrh i j E e' l hE (hg2 hj)
      rw [hβ j h1] at this
      exact this
  refine ⟨E0,_,hw',fun x hx=>hE x (keepS x hx),.inl fun _ h=>h,?_⟩
  rw [hd]
  exact k.run hs ((hb.mono (Nat.le_succ nh)).row (Nat.lt_succ_self nh) (fun c hc=>AT.lt_mono (Nat.le_succ nh) (hcs c hc)) |>.put hxl d) _ (upd β nh w) ((ha.congr hb hβ).put hN' (.a x)) ⟨_,hw'⟩ (hcl.set hr) E0 (fun x hx=>hE x (keepS x hx)) (fun h=>by cases h)
theorem gj_order (l:List (Nat×Tag)) (hl:(l.all fun p=>decide (p.1<ops.size))=true) (hq:noQuiet (itemsOf ops l)=true) (ho:orderFrom ops U bef l listed=true) (h:OJ cf (itemsOf ops l) Q σ env hp A nh) :
    GJ cf ops U bef l.length listed fst Q σ env hp A nh:=by
  refine ⟨fun hs hb a β ha hex hc E0 hE _=>?_⟩
  have:=run_wider hE _ _ a hq (h.run hb a β ha hex)
  exact run_order hs l bef listed a E0 _ hc hE (fun p hp=>by simpa using List.all_eq_true.1 hl p hp) ho this
end
end Go.Sy
/- What 'slices.Delete' does with a call's own array: a piece moved to the front, the rest cleared. No program in sight. -/
namespace Go.Sy
section
variable {cf:Cf} {Q:Exit->Act->World->Prop} {σ:Snap} {env:Env} {hp:HP} {A:List AE} {nh:Nat} {it:Item} {rest:List Item}
theorem run_sliceBounds3 {len cap l h m:Nat} {k1 k2 k3:IntKind} (hl:l<=h) (hh:h<=m) (hm:m<=cap) (P:Program) (w:World) :
    (Instr.sliceBounds true len cap (some (.int k1 (l:Int))) (some (.int k2 (h:Int))) (some (.int k3 (m:Int)))).run P w=.ok (l,h,m) w:=by
  simp [Instr.sliceBounds,Instr.sliceBound,asIntOf,hh,hl,hm]
theorem oj_slice3 {d:Nat} {x lo hi mx:Operand} {k1 k2 k3:IntKind} {i1 i2 i3:Int} {t e:TypeId} {T:List (Nat×TI)} (hT:TTok cf.P T) {ti te:TI} {ao:Option Addr} {n cap:Nat} (l h m:Nat) (hop:it.o.op=.slice t x (some lo) (some hi) (some mx)) (hd:it.o.dst=some d)
    (hg:guardVal it.guard env=some true) (hN:Nat.blt d cf.N=true) (hx:evalO env x=some (.a (.v (.slice ao n cap)))) (hlo:evalO env lo=some (.a (.v (.int k1 i1)))) (hhi:evalO env hi=some (.a (.v (.int k2 i2)))) (hmx:evalO env mx=some (.a (.v (.int k3 i3))))
    (ht:tget T t=some ti) (hkd:ti.kind=.slice e) (hte:tget T e=some te) (e1:i1=(l:Int)) (e2:i2=(h:Int)) (e3:i3=(m:Int)) (hlh:l<=h) (hhm:h<=m) (hmc:m<=cap)
    (k:OJ cf rest Q σ ((d,.a (.v (.slice (if m=l then ao else ao.map (·.add (l*te.size))) (h - l) (m - l))))::env) hp A nh):OJ cf (it::rest) Q σ env hp A nh:=by
  subst e1 e2 e3
  refine oj_val _ hd hg hN (by trivial) (fun _ a β ha w=>?_) k
  obtain ⟨i2,d2,z2,hs2⟩:=tiOf_spec (hT _ _ ht)
  obtain ⟨i3,d3,z3,hs3⟩:=tiOf_spec (hT _ _ hte)
  have h1:=hs2.kind
  have hun:cf.P.underlying t=some (.slice e):=by
    rw [hkd] at h1
    have h2:=hs2.und
    cases d2<;>first
      | (simp only [kindD,TK.slice.injEq] at h1;subst h1;exact h2)
      | (simp only [kindD] at h1;cases h1)
  have h2:a.eval x=.slice ao n cap:=evalO_eval ha hx
  have h3:a.eval lo=.int k1 (l:Int):=evalO_eval ha hlo
  have h4:a.eval hi=.int k2 (h:Int):=evalO_eval ha hhi
  have h5:a.eval mx=.int k3 (m:Int):=evalO_eval ha hmx
  simp only [execOp,hop,h2,h3,h4,h5,Option.map_some,Instr.sliceAt,Instr.slice,Sem.run_bind,run_underlying hun,Result.andThen_ok,run_sliceBounds3 hlh hhm hmc,run_size hs3.info,hs3.size,Sem.run_pure]
  rfl
theorem oj_append_own {d:Nat} {s x:Operand} {t u e:Nat} {T:List (Nat×TI)} (hT:TTok cf.P T) {ti tu te:TI} (i:Nat) {E:AE} {g:Nat} {xo:Option Addr} {xc:Nat} (p q:Nat)
    (hop:appendOf it.o.op=some (s,x,t,u)) (hd:it.o.dst=some d) (hg:guardVal it.guard env=some true) (hN:Nat.blt d cf.N=true) (htg:canSink it.tag=true)
    (hs:evalO env s=some (.a (.v (.slice (some ⟨g,0,none⟩) p E.cap)))) (hx:evalO env x=some (.a (.v (.slice xo (E.n - q) xc)))) (hA:A[i]?=some E) (hE:E.ao=some ⟨g,0,none⟩) (hEe:E.e=e)
    (hpq:p<=q) (hqn:q<=E.n) (hxo:q=E.n\/xo=some ⟨g,q*te.size,none⟩) (hxs:xo.isSome=true)
    (ht:tget T t=some ti) (hkt:ti.kind=.slice e) (hu:tget T u=some tu) (hku:slOrStr tu.kind=true) (hte:tget T e=some te) (hsz:E.sz=te.size)
    (hone:∀ v∈E.xs,v.oneCell'=true)
    (hk:OJ cf rest Q σ ((d,.a (.v (.slice (some ⟨g,0,none⟩) (p+(E.n - q)) E.cap)))::env) hp (A.set i ⟨E.ao,p+(E.n - q),E.cap,E.e,E.sz,E.xs.take (p*E.sz)++E.xs.drop (q*E.sz)⟩) nh):OJ cf (it::rest) Q σ env hp A nh:=by
  subst hEe
  refine oj_step hd hg hN htg fun hb a β ha w hw=>?_
  obtain ⟨i1,d1,z1,hs1⟩:=tiOf_spec (hT _ _ ht)
  obtain ⟨i2,d2,z2,hs2⟩:=tiOf_spec (hT _ _ hu)
  obtain ⟨i3,d3,z3,hs3⟩:=tiOf_spec (hT _ _ hte)
  have hut:cf.P.underlying t=some (.slice E.e):=by
    have h1:=hs1.kind
    rw [hkt] at h1
    have h2:=hs1.und
    cases d1<;>first
      | (simp only [kindD,TK.slice.injEq] at h1;subst h1;exact h2)
      | (simp only [kindD] at h1;cases h1)
  have hxe:a.eval x=.slice xo (E.n - q) xc:=evalO_eval ha hx
  have hse:a.eval s=.slice (some ⟨g,0,none⟩) p E.cap:=evalO_eval ha hs
  have hE0:=hw.arr i E hA
  obtain ⟨xa,rfl⟩:∃ xa,xo=some xa:=by cases xo with | none=>cases hxs | some xa=>exact ⟨xa,rfl⟩
  rcases hE0.2 with h1 | ⟨g',cur,h3,hrow,hnc,hcm,hcs,htk,hσ,hown⟩
  · rw [h1.1] at hE;cases hE
  rw [hE] at h3
  injection h3 with h3
  simp only [Addr.mk.injEq,and_true] at h3
  subst h3
  have hxl:E.xs.length=E.n*E.sz:=hE0.1
  have hqs:q*E.sz<=E.n*E.sz:=Nat.mul_le_mul_right _ hqn
  have hps:p*E.sz<=q*E.sz:=Nat.mul_le_mul_right _ hpq
  have hncs:E.n*E.sz<=E.cap*E.sz:=Nat.mul_le_mul_right _ hnc
  have hdl:(E.xs.drop (q*E.sz)).length=(E.n - q)*E.sz:=by rw [List.length_drop,hxl,Nat.sub_mul]
  have hroom:p+(E.n - q)<=E.cap:=by omega
  have hfc:(Builtin.firstCells E.sz (E.n - q) (.slice (some xa) (E.n - q) xc)).run cf.P w=.ok (E.xs.drop (q*E.sz)).toArray w:=by
    refine run_firstCells_some (P:=cf.P) w E.sz (E.n - q) xa (E.n - q) xc _ hdl fun j v hv=>?_
    have hj:=(List.getElem?_eq_some_iff.1 hv).1
    rcases hxo with hq | hq
    · rw [hdl,hq,Nat.sub_self,Nat.zero_mul] at hj
      omega
    · injection hq with hq
      subst hq
      rw [List.getElem?_drop] at hv
      have:=hE0.cell hE hv
      rw [hsz] at this
      rw [Addr.add_lit]
      exact this
  have hm:(E.n - q)*E.sz=E.n*E.sz - q*E.sz:=Nat.sub_mul _ _ _
  have hpm:(p+(E.n - q))*E.sz=p*E.sz+(E.n - q)*E.sz:=Nat.add_mul _ _ _
  have hst:=run_storeCells_at cf.P g (p*E.sz) E.e (E.xs.drop (q*E.sz)) 0 cur w hrow (by rw [hdl,hcs];omega) (fun v hv=>hone v (List.mem_of_mem_drop hv))
  simp only [Nat.add_zero] at hst
  have hcl:cur.toList.length=E.cap*E.sz:=by rw [Array.length_toList,hcs]
  refine ⟨.a (.v (.slice (some ⟨g,0,none⟩) (p+(E.n - q)) E.cap)),σ,hp,_,nh,_,β,?_,ha,hb.put (x:=.a (.v (.slice (some ⟨g,0,none⟩) (p+(E.n - q)) E.cap))) trivial d,
    hw.setArr (E':=⟨E.ao,p+(E.n - q),E.cap,E.e,E.sz,E.xs.take (p*E.sz)++E.xs.drop (q*E.sz)⟩) (cur':=(cur.toList.take (p*E.sz)++E.xs.drop (q*E.sz)++cur.toList.drop (p*E.sz+(E.xs.drop (q*E.sz)).length)).toArray) hA hE hrow rfl rfl rfl rfl hroom ?_ ?_ ?_,hk⟩
  · refine appendOf_run hop ?_
    rw [hse,hxe]
    have hlen:∀ w',(Builtin.lenOf (.slice (some xa) (E.n - q) xc)).run cf.P w'=.ok (E.n - q) w':=fun _=>rfl
    rcases slOrStr_ok (d:=d2) (by rw [hs2.kind];exact hku) with ⟨e',rfl⟩ | rfl<;>(
      simp only [Builtin.append_,List.getElem?_toArray,List.getElem?_cons_zero,List.getElem?_cons_succ,Sem.run_bind,run_underlying hut,Result.andThen_ok,run_size hs3.info,hs3.size,<-hsz,run_underlying hs2.und,Bool.false_eq_true,if_false,hlen,hroom,if_true,Bool.not_false,hfc,Sem.run_pure,add0,hst]
      rfl)
  · dsimp only
    rw [List.length_append,hdl,List.length_take,hxl,Nat.min_eq_left (by omega),hpm]
  · dsimp only
    simp only [List.size_toArray,List.length_append,List.length_take,List.length_drop,hcl,hxl]
    omega
  · dsimp only
    rw [hpm,<-hdl]
    have e1:cur.toList.take (p*E.sz)=E.xs.take (p*E.sz):=by
      rw [<-htk,List.take_take,Nat.min_eq_left (by omega)]
    rw [e1]
    have e2:p*E.sz+(E.xs.drop (q*E.sz)).length=(E.xs.take (p*E.sz)++E.xs.drop (q*E.sz)).length:=by
      rw [List.length_append,List.length_take,hxl,Nat.min_eq_left (by omega)]
    rw [e2]
    exact List.take_left
def clearOf:Op->Option (Operand×TypeId)
  | .call c =>
    match c.callee,c.args.toList,c.argTypes.toList with
    | .builtin .clear,[x],[t]=>some (x,t)
    | _,_,_=>none
  | _=>none
theorem clearOf_run {o:Oper} {x:Operand} {t:TypeId} (h:clearOf o.op=some (x,t)) {P:Program} {a:Act} {w w':World} {v:Value}
    (hr:(Builtin.clear_ #[t] o.type #[a.eval x]).run P w=.ok v w'):(execOp a.eval o).run P w=.ok (.value v) w':=by
  unfold clearOf at h
  split at h
  · rename_i c hop
    split at h
    · rename_i x' t' hcal hargs htys
      injection h with h
      simp only [Prod.mk.injEq] at h
      obtain ⟨rfl,rfl⟩:=h
      have e1:c.args=#[x']:=by
        cases hq:c.args with
        | mk l=>rw [hq] at hargs;simp only at hargs;rw [hargs]
      have e2:c.argTypes=#[t']:=by
        cases hq:c.argTypes with
        | mk l=>rw [hq] at htys;simp only at htys;rw [htys]
      simp only [execOp,hop,resolve,hcal,e1,e2,invoke,builtin,Sem.run_bind,Sem.run_pure,Result.andThen_ok,List.map_toArray,List.map_cons,List.map_nil,hr]
    · cases h
  · cases h
theorem mem_zeroCells {z:Array Value} {n:Nat} {v:Value} (h:v∈(Builtin.zeroCells z n).toList):v∈z.toList:=by
  unfold Builtin.zeroCells at h
  rw [Array.toList_map,List.mem_map] at h
  obtain ⟨i,hi,rfl⟩:=h
  rw [Array.mem_toList_iff,Array.mem_range] at hi
  have hz:0<z.size:=by
    rcases Nat.eq_zero_or_pos z.size with h0 | h0
    · rw [h0,Nat.mul_zero] at hi;omega
    · exact h0
  have hlt:=Nat.mod_lt i hz
  rw [getElem!_pos z (i % z.size) hlt]
  exact Array.mem_toList_iff.2 (Array.getElem_mem hlt)
theorem oj_clear_tail {x:Operand} {t e:Nat} {T:List (Nat×TI)} (hT:TTok cf.P T) {ti te:TI} (i:Nat) {E:AE} {g:Nat} {xo:Option Addr} {m xc:Nat} (q:Nat)
    (hop:clearOf it.o.op=some (x,t)) (hd:it.o.dst=none) (hg:guardVal it.guard env=some true) (htg:canSink it.tag=true)
    (hx:evalO env x=some (.a (.v (.slice xo m xc)))) (hA:A[i]?=some E) (hE:E.ao=some ⟨g,0,none⟩) (hEe:E.e=e) (hq:E.n<=q) (hqm:q+m<=E.cap) (hxo:m=0\/xo=some ⟨g,q*te.size,none⟩)
    (ht:tget T t=some ti) (hkt:ti.kind=.slice e) (hte:tget T e=some te) (hsz:E.sz=te.size) (hzl:te.zero.length=te.size) (hzo:te.zero.all AT.one=true)
    (k:OJ cf rest Q σ env hp A nh):OJ cf (it::rest) Q σ env hp A nh:=by
  subst hEe
  refine ⟨fun hb a β ha hex=>?_⟩
  have key:∀ w,StW cf σ hp A β w->∀ Q',it.o.wq cf.P a w (fun a' w'=>∃ E' S':World->Prop,S' w'/\(∀ x,S' x->E' x)/\RunT cf.P Q rest E' S' a') Q':=by
    intro w hw Q'
    obtain ⟨i1,d1,z1,hs1⟩:=tiOf_spec (hT _ _ ht)
    obtain ⟨i3,d3,z3,hs3⟩:=tiOf_spec (hT _ _ hte)
    have hut:cf.P.underlying t=some (.slice E.e):=by
      have h1:=hs1.kind
      rw [hkt] at h1
      have h2:=hs1.und
      cases d1<;>first
        | (simp only [kindD,TK.slice.injEq] at h1;subst h1;exact h2)
        | (simp only [kindD] at h1;cases h1)
    have hxe:a.eval x=.slice xo m xc:=evalO_eval ha hx
    have hE0:=hw.arr i E hA
    rcases hE0.2 with h1 | ⟨g',cur,h3,hrow,hnc,hcm,hcs,htk,hσ,hown⟩
    · rw [h1.1] at hE;cases hE
    rw [hE] at h3
    injection h3 with h3
    simp only [Addr.mk.injEq,and_true] at h3
    subst h3
    rcases Nat.eq_zero_or_pos m with hm0 | hmp
    · subst hm0
      have hrun:(execOp a.eval it.o).run cf.P w=.ok (.value (.tuple #[])) w:=by
        refine clearOf_run hop ?_
        rw [hxe]
        cases xo<;>simp only [Builtin.clear_,List.getElem?_toArray,List.getElem?_cons_zero,Sem.run_bind,run_underlying hut,Result.andThen_ok,Sem.run_pure]
      unfold Oper.wq
      rw [hrun]
      refine ⟨_,_,hw,fun _ h=>h,?_⟩
      rw [hd]
      exact k.run hb a β ha ⟨_,hw⟩
    · have hxo:=hxo.resolve_left (by omega)
      subst hxo
      have hz3:z3.cells.size=E.sz:=by
        have:=zero_den hs3 β
        rw [<-this,hsz]
        simp [hzl]
      have hzone:∀ v∈z3.cells.toList,v.oneCell'=true:=fun v hv=>by
        have:=zero_den hs3 β
        rw [<-this] at hv
        simp only [List.mem_map] at hv
        obtain ⟨c,hc,rfl⟩:=hv
        exact AT.one_den β (List.all_eq_true.1 hzo c hc)
      have hzs:(Builtin.zeroCells z3.cells m).toList.length=m*E.sz:=by rw [Array.length_toList,size_zeroCells,hz3]
      have hle:q*E.sz+m*E.sz<=E.cap*E.sz:=by rw [<-Nat.add_mul];exact Nat.mul_le_mul_right _ hqm
      have hnq:E.n*E.sz<=q*E.sz:=Nat.mul_le_mul_right _ hq
      have hst:=run_storeCells_at cf.P g (q*E.sz) E.e (Builtin.zeroCells z3.cells m).toList 0 cur w hrow (by rw [hzs,hcs];omega) (fun v hv=>hzone v (mem_zeroCells hv))
      simp only [Nat.add_zero] at hst
      have hcl:cur.toList.length=E.cap*E.sz:=by rw [Array.length_toList,hcs]
      have hrun:(execOp a.eval it.o).run cf.P w=.ok (.value (.tuple #[])) (w.setRow g (cur.toList.take (q*E.sz)++(Builtin.zeroCells z3.cells m).toList++cur.toList.drop (q*E.sz+(Builtin.zeroCells z3.cells m).toList.length)).toArray):=by
        refine clearOf_run hop ?_
        rw [hxe]
        obtain ⟨m',rfl⟩:∃ m',m=m'+1:=⟨m - 1,by omega⟩
        rw [<-hsz]
        simp only [Builtin.clear_,List.getElem?_toArray,List.getElem?_cons_zero,Sem.run_bind,run_underlying hut,Result.andThen_ok,run_zero hs3.info hs3.zero,hst,Sem.run_pure]
      unfold Oper.wq
      rw [hrun]
      have hxl:E.xs.length=E.n*E.sz:=hE0.1
      have hw':=hw.setArr (E':=E) (cur':=(cur.toList.take (q*E.sz)++(Builtin.zeroCells z3.cells m).toList++cur.toList.drop (q*E.sz+(Builtin.zeroCells z3.cells m).toList.length)).toArray) hA hE hrow rfl rfl rfl rfl hnc hxl
        (by
          simp only [List.size_toArray,List.length_append,List.length_take,List.length_drop,hcl,hzs]
          omega)
        (by
          dsimp only
          rw [List.append_assoc,List.take_append_of_le_length (by rw [List.length_take,hcl];omega),List.take_take,Nat.min_eq_left hnq,htk])
      rw [set_same hA] at hw'
      refine ⟨_,_,hw',fun _ h=>h,?_⟩
      rw [hd]
      exact k.run hb a β ha ⟨_,hw'⟩
  simp only [RunT]
  rw [if_pos (guardVal_ok ha hg)]
  cases htag':it.tag with
  | pure=>rw [htag'] at htg;cases htg
  | quiet=>rw [htag'] at htg;cases htg
  | keep=>rw [htag'] at htg;cases htg
  | sink=>exact fun w hw=>key w hw _
  | free=>exact fun w hw=>key w hw _
theorem gj_indexAddr {ops:Array Oper} {U bef:List Nat} {n:Nat} {listed:Array Bool} {fst:Bool} {i d:Nat} {o:Oper} {x ix:Operand} {t:TypeId} {T:List (Nat×TI)} (hT:TTok cf.P T) {ti te:TI} {e:Nat} {ad:Addr} {m c:Nat} {k:IntKind} {q:Int} (hop:o.op=.indexAddr t x ix)
    (hi:ops[i]?=some o) (hr:(Region.ready .any ops listed).contains i=true) (hf:Region.free .any ops listed i=true) (hk:(U.contains i||fst)=true) (hd:o.dst=some d) (hg:guardVal (slotOf ops o) env=some true) (hN:Nat.blt d cf.N=true)
    (hx:evalO env x=some (.a (.v (.slice (some ad) m c)))) (hix:evalO env ix=some (.a (.v (.int k q)))) (ht:tget T t=some ti) (hkd:ti.kind=.slice e) (hte:tget T e=some te) (h0:0<=q/\q<m)
    (kk:GJ cf ops U (bef++[i]) n (listed.setIfInBounds i true) fst Q σ ((d,.a (.v (.pointer (some (ad.add (q.toNat*te.size))))))::env) hp A nh):GJ cf ops U bef (n+1) listed fst Q σ env hp A nh:=by
  refine gj_valT (.a (.v (.pointer (some (ad.add (q.toNat*te.size)))))) hi hr hf hk hd hg hN trivial (fun _ a β ha w _=>?_) kk
  obtain ⟨i2,d2,z2,hs2⟩:=tiOf_spec (hT _ _ ht)
  obtain ⟨i3,d3,z3,hs3⟩:=tiOf_spec (hT _ _ hte)
  have h1:=hs2.kind
  have hun:cf.P.underlying t=some (.slice e):=by
    rw [hkd] at h1
    have h2:=hs2.und
    cases d2<;>first
      | (simp only [kindD,TK.slice.injEq] at h1;subst h1;exact h2)
      | (simp only [kindD] at h1;cases h1)
  have h2:a.eval x=.slice (some ad) m c:=evalO_eval ha hx
  have h3:a.eval ix=.int k q:=evalO_eval ha hix
  simp only [execOp,hop,h2,h3,Instr.indexAt,asIntOf,Sem.run_bind,Sem.run_pure,Result.andThen_ok,run_underlying hun,h0,and_self,if_true,run_size hs3.info,hs3.size]
  rfl
theorem gj_row {ops:Array Oper} {U bef:List Nat} {n:Nat} {listed:Array Bool} {fst:Bool} (t:Nat) {ad:Addr} (cs:List AT) (h:env.get t=some (.a (.v (.pointer (some ad))))) (hlt:∀ c∈cs,c.lt 0) (hσ:∀ (j:Nat) c,cs[j]?=some c->σ.cell (ad.add j)=some (c.den β0))
    (k:GJ cf ops U bef n listed fst Q σ ((t,.a (.p nh 0))::env) ((nh,.ro,cs)::hp) A (nh+1)):GJ cf ops U bef n listed fst Q σ env hp A nh:=by
  refine ⟨fun hs hb a β ha hex hc E0 hE hF=>?_⟩
  let β':Nat->Addr:=fun i=>if i=nh then ad else β i
  have hβ:∀ i,i<nh->β' i=β i:=fun i hi=>by simp only [β'];rw [if_neg (by omega)]
  have hnew:β' nh=ad:=by simp only [β',if_true]
  have ha':StA cf ((t,.a (.p nh 0))::env) β' a:=by
    refine ⟨ha.size,ha.defers,fun i z hz=>?_⟩
    rw [Env.get_cons] at hz
    by_cases hi:t=i
    · rw [if_pos hi] at hz
      injection hz with hz
      subst hz;subst hi
      have:=ha.env t _ h
      simp only [SV.den,AT.den] at this
      simp only [SV.den,AT.den,hnew,Addr.add_zero']
      exact this
    · rw [if_neg hi] at hz;rw [SV.den_congr hβ (hb.env i z hz)];exact ha.env i z hz
  have hb':Bd ((t,.a (.p nh 0))::env) ((nh,.ro,cs)::hp) (nh+1) :=
    ((hb.mono (Nat.le_succ nh)).put (x:=.a (.p nh 0)) (Nat.lt_succ_self nh) t).row (Nat.lt_succ_self nh) fun c hc=>AT.lt_mono (Nat.zero_le _) (hlt c hc)
  have hget:∀ {i:Nat} {q:HK} {r:List AT},HP.get ((nh,HK.ro,cs)::hp) i=some (q,r)->(i=nh/\q=.ro/\r=cs)\/(i<nh/\hp.get i=some (q,r)):=by
    intro i q r hi
    rw [HP.get_cons] at hi
    by_cases hin:nh=i
    · rw [if_pos hin] at hi
      injection hi with hi
      simp only [Prod.mk.injEq] at hi
      exact .inl ⟨hin.symm,hi.1.symm,hi.2.symm⟩
    · rw [if_neg hin] at hi
      exact .inr ⟨(hb.hp i _ _ hi).1,hi⟩
  have hget':∀ {i q r},hp.get i=some (q,r)->HP.get ((nh,HK.ro,cs)::hp) i=some (q,r):=by
    intro i q r hi
    rw [HP.get_cons,if_neg (fun hc=>by have:=(hb.hp i q r hi).1;omega)];exact hi
  have hS:(fun w=>StW cf σ hp A β w)=fun w=>StW cf σ ((nh,.ro,cs)::hp) A β' w:=by
    funext w
    apply propext
    constructor
    · intro hw
      refine ⟨hw.os,hw.tape,hw.output,hw.size,hw.fr,hw.sealed,hw.le,hw.grow,fun i e' l hi=>?_,fun i l hi j c hc=>?_,fun i j e1 e2 l1 l2 hi hj hij=>?_,hw.arr,hw.arrd,fun i j E e' l hE hj=>?_⟩
      · rcases hget hi with ⟨_,hk,_⟩ | ⟨hl,hi'⟩
        · cases hk
        · rw [hβ i hl,AT.denL_congr hβ (hb.hp i _ l hi').2];exact hw.loc i e' l hi'
      · rcases hget hi with ⟨rfl,_,rfl⟩ | ⟨hl,hi'⟩
        · rw [hnew,hσ j c hc]
          congr 1
          exact AT.den_congr (n:=0) (fun i hi=>by omega) (hlt c (List.mem_of_getElem? hc))
        · rw [hβ i hl,AT.den_congr hβ ((hb.hp i _ l hi').2 c (List.mem_of_getElem? hc))];exact hw.ro i l hi' j c hc
      · rcases hget hi with ⟨_,hk,_⟩ | ⟨hl,hi'⟩
        · cases hk
        · rcases hget hj with ⟨_,hk,_⟩ | ⟨hl',hj'⟩
          · cases hk
          · rw [hβ i hl,hβ j hl'] at hij;exact hw.inj i j _ _ _ _ hi' hj' hij
      · rcases hget hj with ⟨_,hk,_⟩ | ⟨hl',hj'⟩
        · cases hk
        · rw [hβ j hl'];exact hw.arrh i j E e' l hE hj'
    · intro hw
      refine ⟨hw.os,hw.tape,hw.output,hw.size,hw.fr,hw.sealed,hw.le,hw.grow,fun i e' l hi=>?_,fun i l hi j c hc=>?_,fun i j e1 e2 l1 l2 hi hj hij=>?_,hw.arr,hw.arrd,fun i j E e' l hE hj=>?_⟩
      · have:=hw.loc i e' l (hget' hi)
        rw [hβ i (hb.hp i _ _ hi).1,AT.denL_congr hβ (hb.hp i _ l hi).2] at this;exact this
      · have:=hw.ro i l (hget' hi) j c hc
        rw [hβ i (hb.hp i _ _ hi).1,AT.den_congr hβ ((hb.hp i _ l hi).2 c (List.mem_of_getElem? hc))] at this;exact this
      · refine hw.inj i j _ _ _ _ (hget' hi) (hget' hj) ?_
        rw [hβ i (hb.hp i _ _ hi).1,hβ j (hb.hp j _ _ hj).1];exact hij
      · have:=hw.arrh i j E e' l hE (hget' hj)
        rw [hβ j (hb.hp j _ _ hj).1] at this;exact this
  have hS':∀ w,StW cf σ hp A β w↔StW cf σ ((nh,.ro,cs)::hp) A β' w:=fun w=>by rw [show StW cf σ hp A β w=(fun w=>StW cf σ hp A β w) w from rfl,hS]
  rw [hS]
  exact k.run hs hb' a β' ha' ⟨hex.choose,(hS' _).1 hex.choose_spec⟩ hc E0 (fun x hx=>hE x ((hS' x).2 hx)) (fun hf x hx=>(hS' x).1 (hF hf x hx))
theorem gj_idx {ops:Array Oper} {U bef:List Nat} {n:Nat} {listed:Array Bool} {fst:Bool} {i d:Nat} {o:Oper} {x ix:Operand} {t:TypeId} {T:List (Nat×TI)} (hT:TTok cf.P T) {ti te:TI} {e:Nat} {ao:Option Addr} {m c:Nat} {k:IntKind} {q:Int} {rows:List (List AT)} {r:List AT} (hop:o.op=.indexAddr t x ix)
    (hi:ops[i]?=some o) (hr:(Region.ready .any ops listed).contains i=true) (hf:Region.free .any ops listed i=true) (hk:(U.contains i||fst)=true) (hd:o.dst=some d) (hg:guardVal (slotOf ops o) env=some true) (hN:Nat.blt d cf.N=true)
    (hx:evalO env x=some (.a (.v (.slice ao m c)))) (hix:evalO env ix=some (.a (.v (.int k q)))) (ht:tget T t=some ti) (hkd:ti.kind=.slice e) (hte:tget T e=some te) (H:SlAt σ ao m c te.size rows) (h0:0<=q) (hrow:rows[q.toNat]?=some r)
    (kk:GJ cf ops U (bef++[i]) n (listed.setIfInBounds i true) fst Q σ ((d,.a (.p nh 0))::(d,.a (.v (.pointer (some ((ao.getD ⟨0,0,none⟩).add (q.toNat*te.size))))))::env) ((nh,.ro,r)::hp) A (nh+1)):GJ cf ops U bef (n+1) listed fst Q σ env hp A nh:=by
  have hlt:q.toNat<m:=by rw [<-H.len];exact (List.getElem?_eq_some_iff.1 hrow).1
  rcases H.at_ with h1 | ⟨ad,rfl,h2⟩
  · omega
  · refine gj_indexAddr hT hop hi hr hf hk hd hg hN hx hix ht hkd hte ⟨h0,by omega⟩ ?_
    refine gj_row d r (by rw [Env.get_cons,if_pos rfl]) (H.clo r (List.mem_of_getElem? hrow)).2 (fun j c hc=>?_) kk
    rw [Addr.add_add]
    exact h2 q.toNat r j c hrow hc
end
end Go.Sy
/- Regions whose allocations and calls come in several orders, calls that are handed arrays among them. No program in sight. -/
namespace Go.Sy
section
variable {cf:Cf} {σ σb:Snap} {hp hpb:HP} {A:List AE} {β:Nat->Addr} {w0 x:World}
theorem StW.base (h0:StW cf σb hpb [] β w0) (hle:σb.le σ) (hs:subH hpb hp) (h:StW cf σ hp A β x):StW cf σb hpb [] β x:=by
  refine ⟨h.os,h.tape,h.output,h.size,h.fr,fun b o hb=>h.sealed b o (hle b o hb),h0.le,h0.grow,fun i e cs hi=>?_,h0.ro,fun i j e1 e2 l1 l2 hi hj heq=>h.inj i j e1 e2 l1 l2 (hs _ _ hi) (hs _ _ hj) heq,
    fun i E hi=>(by simp at hi),fun i j E F hi=>(by simp at hi),fun i j E e cs hi=>(by simp at hi)⟩
  obtain ⟨q1,q2,q3,q4⟩:=h.loc i e cs (hs _ _ hi)
  exact ⟨q1,q2,Snap.none_of_le hle q3,q4⟩
theorem StW.reβ {β':Nat->Addr} {nb:Nat} (hb:Bd [] hpb nb) (hβ:∀ i,i<nb->β' i=β i) (h:StW cf σb hpb [] β x):StW cf σb hpb [] β' x:=by
  refine ⟨h.os,h.tape,h.output,h.size,h.fr,h.sealed,h.le,h.grow,fun i e cs hi=>?_,fun i cs hi j c hc=>?_,fun i j e1 e2 l1 l2 hi hj heq=>?_,fun i E hi=>(by simp at hi),fun i j E F hi=>(by simp at hi),fun i j E e cs hi=>(by simp at hi)⟩
  · obtain ⟨hlt,hl⟩:=hb.hp i _ cs hi
    have:=h.loc i e cs hi
    rw [hβ i hlt,AT.denL_congr hβ hl]
    exact this
  · obtain ⟨hlt,hl⟩:=hb.hp i _ cs hi
    have:=h.ro i cs hi j c hc
    rw [hβ i hlt,AT.den_congr hβ (hl c (List.mem_of_getElem? hc))]
    exact this
  · have h1:=(hb.hp i _ l1 hi).1
    have h2:=(hb.hp j _ l2 hj).1
    exact h.inj i j e1 e2 l1 l2 hi hj (by rw [<-hβ i h1,<-hβ j h2];exact heq)
end
structure GB (cf:Cf) (ops:Array Oper) (U bef:List Nat) (σb:Snap) (hpb:HP) (nb n:Nat) (listed:Array Bool) (Q:Exit->Act->World->Prop) (σ:Snap) (env:Env) (hp:HP) (A:List AE) (nh:Nat):Prop where
  run:Region.noSelect ops=true->Bd env hp nh->Bd [] hpb nb->nb<=nh->σb.le σ->subH hpb hp->∀ a β,StA cf env β a->(∃ w,StW cf σ hp A β w)->(∃ w,StW cf σb hpb [] β w)->Closed ops listed ->
    wpAnyC cf.P ops U Q n listed a (fun w=>StW cf σb hpb [] β w) (fun w=>StW cf σ hp A β w)
structure GBK (cf:Cf) (ops:Array Oper) (U bef:List Nat) (σb:Snap) (hpb:HP) (nb n:Nat) (listed:Array Bool) (j:Nat) (Q:Exit->Act->World->Prop) (σ:Snap) (env:Env) (hp:HP) (A:List AE) (nh:Nat):Prop where
  run:Region.noSelect ops=true->Bd env hp nh->Bd [] hpb nb->nb<=nh->σb.le σ->subH hpb hp->∀ a β,StA cf env β a->(∃ w,StW cf σ hp A β w)->(∃ w,StW cf σb hpb [] β w)->Closed ops listed->j∈Region.ready .any ops listed ->
    stepC cf.P ops U Q j (wpAnyC cf.P ops U Q n (listed.setIfInBounds j true)) a (fun w=>StW cf σb hpb [] β w) (fun w=>StW cf σ hp A β w)
section
variable {cf:Cf} {Q:Exit->Act->World->Prop} {σ σb:Snap} {env:Env} {hp hpb:HP} {A:List AE} {nh nb:Nat} {ops:Array Oper} {U bef:List Nat} {n:Nat} {listed:Array Bool}
theorem cj_drawB {id:Nat} (m:Nat) (U:List Nat) (hpb:HP) (hm:cf.P.follows .mixedOrders=true) (hs:Region.noSelect ops=true) (hn:ops.size=m) (hsub:subH hpb hp)
    (h:GB cf ops U [] σ hpb nh m (Array.replicate m false) Q σ env hp A nh) (hd:okRd cf.rd ops=true:=by rfl):CJ cf (.region id ops true) Q σ env hp A nh:=by
  subst hn
  refine ⟨fun hb a β w ha hw=>wpIn_region_any hm ?_⟩
  have hc:Closed ops (Array.replicate ops.size false):=⟨by simp,fun j oj _ hl=>by
    exfalso
    rcases Nat.lt_or_ge j ops.size with h | h
    · simp [h] at hl
    · simp [h] at hl⟩
  have hbb:Bd [] hpb nh:=⟨fun i x h=>(by cases h),fun i k cs hi=>hb.hp i k cs (hsub _ _ hi)⟩
  have hb0:StW cf σ hpb [] β w:=by
    have:=hw.dropA
    exact this.sub hsub
  exact wpAnyIn_of_C (okRd_mem hd) _ _ _ _ _ _ hw.drew (h.run hs hb hbb (Nat.le_refl _) (Snap.le_refl _) hsub a β ha ⟨_,hw⟩ ⟨_,hb0⟩ hc)
theorem gb_val {i d:Nat} {o:Oper} {T:List (Nat×TI)} (hT:TTok cf.P T) {x:SV} (hi:ops[i]?=some o) (hr:(Region.ready .any ops listed).contains i=true) (hf:Region.free .any ops listed i=true)
    (hk:(U.contains i&&isLoad o.op)=false) (hd:o.dst=some d) (hg:guardVal (slotOf ops o) env=some true) (hN:Nat.blt d cf.N=true) (h:stepOp T o.op env hpb nh=some (.val x))
    (k:GB cf ops U (bef++[i]) σb hpb nb n (listed.setIfInBounds i true) Q σ ((d,x)::env) hp A nh):GB cf ops U bef σb hpb nb (n+1) listed Q σ env hp A nh:=by
  refine ⟨fun hs hb hbb hnb hle hsub a β ha hex hex0 hc=>?_⟩
  obtain ⟨w0,hw0⟩:=id hex0
  have hN':d<cf.N:=by simpa [Nat.blt_eq] using hN
  have hb':Bd env hpb nh:=hb.sub (fun i x h=>h) hsub
  have hx:x.lt nh:=(step_ok (o:=o) hT ha hb' h).1
  have hr':i∈Region.ready .any ops listed:=by simpa using hr
  have hw:Region.wanted o (yielded ops a.tmps)=true:=by rw [<-wantedS_slotOf];exact guardVal_ok ha hg
  have hrest:=k.run hs (hb.put hx d) hbb hnb hle hsub _ β (ha.put hN' x) hex hex0 (hc.set hr')
  refine wpAnyC_first hi (Region.noSelect_spec hs) n listed a _ _ hc (fun y hy=>hw0.base hle hsub hy) (Region.free_spec hi hf) hr' ⟨.inl ⟨hw,fun w hE0=>.inl ?_⟩,fun hu=>.inl ⟨hw,fun w _=>.inl ?_⟩⟩ (by rw [hd];exact hrest)
  · exact (step_ok (o:=o) hT ha hb' h).2 w fun _=>⟨σb,[],hE0⟩
  · refine (step_ok (o:=o) hT ha hb' h).2 w fun hl=>?_
    rw [hl,Bool.and_true] at hk
    rw [List.contains_iff_mem.2 hu] at hk
    cases hk
theorem gb_fork (js:List Nat) (hr:(Region.ready .any ops listed == js)=true) (hne:js.isEmpty=false) (k:∀ j,j∈js->GBK cf ops U bef σb hpb nb n listed j Q σ env hp A nh):GB cf ops U bef σb hpb nb (n+1) listed Q σ env hp A nh:=by
  refine ⟨fun hs hb hbb hnb hle hsub a β ha hex hex0 hc=>?_⟩
  have hr':=eq_of_beq hr
  refine ⟨fun h0=>?_,fun j hj=>(k j (by rw [<-hr'];exact hj)).run hs hb hbb hnb hle hsub a β ha hex hex0 hc hj⟩
  rw [hr'] at h0
  subst h0
  cases hne
theorem gb_one {i:Nat} (hr:(Region.ready .any ops listed == [i])=true) (k:GBK cf ops U bef σb hpb nb n listed i Q σ env hp A nh):GB cf ops U bef σb hpb nb (n+1) listed Q σ env hp A nh :=
  gb_fork [i] hr rfl fun j hj=>by rw [List.mem_singleton] at hj;subst hj;exact k
theorem gb_two {i j:Nat} (hr:(Region.ready .any ops listed == [i,j])=true) (ki:GBK cf ops U bef σb hpb nb n listed i Q σ env hp A nh) (kj:GBK cf ops U bef σb hpb nb n listed j Q σ env hp A nh):GB cf ops U bef σb hpb nb (n+1) listed Q σ env hp A nh :=
  gb_fork [i,j] hr rfl fun m hm=>by
    simp only [List.mem_cons,List.not_mem_nil,or_false] at hm
    rcases hm with rfl | rfl
    · exact ki
    · exact kj
theorem gb_three {i j l:Nat} (hr:(Region.ready .any ops listed == [i,j,l])=true) (ki:GBK cf ops U bef σb hpb nb n listed i Q σ env hp A nh) (kj:GBK cf ops U bef σb hpb nb n listed j Q σ env hp A nh) (kl:GBK cf ops U bef σb hpb nb n listed l Q σ env hp A nh) :
    GB cf ops U bef σb hpb nb (n+1) listed Q σ env hp A nh :=
  gb_fork [i,j,l] hr rfl fun m hm=>by
    simp only [List.mem_cons,List.not_mem_nil,or_false] at hm
    rcases hm with rfl | rfl | rfl
    · exact ki
    · exact kj
    · exact kl
theorem gb_callF {j d:Nat} {o:Oper} {f:FuncId} {ys:List SV} {Φ:Value->Snap->List AE->Prop} (is:List Nat) {A0 Ar:List AE} (hA:reA is A=A0++Ar) (hn:nodupB is=true)
    (hj:ops[j]?=some o) (hc:callee env o.op=some (f,ys)) (hd:o.dst=some d) (hg:guardVal (slotOf ops o) env=some true)
    (hN:Nat.blt d cf.N=true) (hcall:∀ args w,(callFunc f args).run cf.P w=.ok (.enter f args) w) (hlt:LtAll ys) (hC:FnS cf.P f ys σ A0 Φ)
    (k:∀ v σ' A',σ.le σ'->Φ v σ' A'->∃ y:SV,y.lt 0/\y.den β0=v/\GB cf ops U (bef++[j]) σb hpb nb n (listed.setIfInBounds j true) Q σ' ((d,y)::env) hp (A'++Ar) nh):GBK cf ops U bef σb hpb nb n listed j Q σ env hp A nh:=by
  refine ⟨fun hs hb hbb hnb hle hsub a β ha hex hex0 hcl hr=>?_⟩
  obtain ⟨w0,hw0⟩:=id hex0
  have hN':d<cf.N:=by simpa [Nat.blt_eq] using hN
  have den0:∀ {y:SV},y.lt 0->y.den β=y.den β0:=fun hy=>SV.den_congr (n:=0) (fun i hi=>by omega) hy
  have hargs:(ys.map (SV.den β)).toArray=(ys.map (SV.den β0)).toArray:=by
    rw [List.map_congr_left fun y hy=>den0 (hlt.of y hy)]
  have hwant:Region.wanted o (yielded ops a.tmps)=true:=by rw [<-wantedS_slotOf];exact guardVal_ok ha hg
  unfold stepC
  simp only [hj]
  rw [if_pos hwant]
  intro w hw
  have hw2:StW cf σ hp (A0++Ar) β w:=by rw [<-hA];exact hw.reA hn
  unfold Oper.wq
  rw [callee_ok ha hc hcall]
  simp only [Oper.uponIn]
  rw [hargs]
  refine ⟨fun h=>(by cases h),CallsIn.mono (callsIn_FR.2 (hC w hw2.handIn)) fun e w' ⟨v,σ',he,h1,h2,h3,A',h4,h5⟩=>?_⟩
  subst he
  obtain ⟨y,hy,hyv,hk⟩:=k v σ' A' h2.le h4
  have hw':=hw2.through h5
  have hle':=Snap.le_trans hle h2.le
  refine ⟨_,_,hw',fun x hx=>hw0.base hle' hsub hx,.inl fun _ h=>h,?_⟩
  have:=hk.run hs (hb.put (SV.lt_mono (Nat.zero_le _) hy) d) hbb hnb hle' hsub (a.put (some d) (y.den β)) β (ha.put hN' y) ⟨_,hw'⟩ ⟨w0,hw0⟩ (hcl.set hr)
  rw [hd,<-hyv,<-den0 hy]
  exact this
theorem gb_new {j d:Nat} {o:Oper} {T:List (Nat×TI)} (hT:TTok cf.P T) {e:TypeId} {cs:List AT} {x:AT} (hj:ops[j]?=some o) (h:stepOp T o.op env hp nh=some (.new e cs x)) (hd:o.dst=some d) (hg:guardVal (slotOf ops o) env=some true)
    (hN:Nat.blt d cf.N=true) (k:GB cf ops U (bef++[j]) σb hpb nb n (listed.setIfInBounds j true) Q σ ((d,.a x)::env) ((nh,.loc e,cs)::hp) A (nh+1)):GBK cf ops U bef σb hpb nb n listed j Q σ env hp A nh:=by
  refine ⟨fun hs hb hbb hnb hle hsub a β ha hex hex0 hcl hr=>?_⟩
  obtain ⟨w0,hw0⟩:=id hex0
  have hN':d<cf.N:=by simpa [Nat.blt_eq] using hN
  have hwant:Region.wanted o (yielded ops a.tmps)=true:=by rw [<-wantedS_slotOf];exact guardVal_ok ha hg
  obtain ⟨hcs,hx,hrun⟩:=step_ok (o:=o) hT ha hb h
  have hxl:(SV.a x).lt (nh+1):=by
    rcases hx with rfl | ⟨n,rfl⟩<;>exact Nat.lt_succ_self nh
  unfold stepC
  simp only [hj]
  rw [if_pos hwant]
  intro w hw
  unfold Oper.wq
  rw [hrun w]
  have hw':=hw.alloc (e:=e) hb hcs
  have hβ:=upd_old β nh w
  have hβb:∀ i,i<nb->upd β nh w i=β i:=fun i hi=>hβ i (by omega)
  have hβb':∀ i,i<nb->β i=upd β nh w i:=fun i hi=>(hβb i hi).symm
  have hsub':subH hpb ((nh,HK.loc e,cs)::hp):=by
    intro i y hy
    have hlt:=(hb.hp i y.1 y.2 (hsub i y hy)).1
    rw [HP.get_cons,if_neg (by omega)]
    exact hsub i y hy
  have hw0':=hw0.reβ hbb hβb
  refine ⟨_,_,hw',fun x hx=>hw0'.base hle hsub' hx,.inl fun _ h=>h.reβ hbb hβb',?_⟩
  rw [hd]
  exact k.run hs ((hb.mono (Nat.le_succ nh)).row (Nat.lt_succ_self nh) (fun c hc=>AT.lt_mono (Nat.le_succ nh) (hcs c hc)) |>.put hxl d) hbb (by omega) hle hsub' _ (upd β nh w) ((ha.congr hb hβ).put hN' (.a x)) ⟨_,hw'⟩ ⟨_,hw0'⟩ (hcl.set hr)
theorem gb_order (l:List (Nat×Tag)) (hl:(l.all fun p=>decide (p.1<ops.size))=true) (hq:noQuiet (itemsOf ops l)=true) (ho:orderFrom ops U bef l listed=true) (h:OJ cf (itemsOf ops l) Q σ env hp A nh) :
    GB cf ops U bef σb hpb nb l.length listed Q σ env hp A nh:=by
  refine ⟨fun hs hb hbb hnb hle hsub a β ha hex hex0 hc=>?_⟩
  obtain ⟨w0,hw0⟩:=hex0
  have:=run_wider (fun x hx=>hw0.base hle hsub hx) _ _ a hq (h.run hb a β ha hex)
  exact run_order hs l bef listed a _ _ hc (fun x hx=>hw0.base hle hsub hx) (fun p hp=>by simpa using List.all_eq_true.1 hl p hp) ho this
theorem wpAnyC_by_world {P:Program}:∀ (n:Nat) (listed:Array Bool) (a:Act) (E S:World->Prop),(∃ w,S w)->(∀ w,S w->∃ S':World->Prop,S' w/\wpAnyC P ops U Q n listed a E S')->wpAnyC P ops U Q n listed a E S
  | 0,listed,a,E,S,⟨w0,h0⟩,h=>by
    obtain ⟨S0,h1,h2⟩:=h w0 h0
    refine ⟨h2.1,fun w hw=>?_⟩
    obtain ⟨S',h3,h4⟩:=h w hw
    exact h4.2 w h3
  | n+1,listed,a,E,S,hex,h=>by
    refine ⟨fun hr w hw=>?_,fun j hj=>?_⟩
    · obtain ⟨S',h3,h4⟩:=h w hw
      exact h4.1 hr w h3
    · unfold stepC
      cases hop:ops[j]? with
      | none =>
        refine wpAnyC_by_world n _ a E S hex fun w hw=>?_
        obtain ⟨S',h3,h4⟩:=h w hw
        have:=h4.2 j hj
        unfold stepC at this
        rw [hop] at this
        exact ⟨S',h3,this⟩
      | some o =>
        dsimp only
        by_cases hwant:Region.wanted o (yielded ops a.tmps)=true
        · rw [if_pos hwant]
          intro w hw
          obtain ⟨S',h3,h4⟩:=h w hw
          have:=h4.2 j hj
          unfold stepC at this
          rw [hop] at this
          dsimp only at this
          rw [if_pos hwant] at this
          exact this w h3
        · rw [if_neg hwant]
          refine wpAnyC_by_world n _ _ E S hex fun w hw=>?_
          obtain ⟨S',h3,h4⟩:=h w hw
          have:=h4.2 j hj
          unfold stepC at this
          rw [hop] at this
          dsimp only at this
          rw [if_neg hwant] at this
          exact ⟨S',h3,this⟩
theorem gb_seal (i:Nat) {E:AE} {A':List AE} (hi:A[i]?=some E) (hA:A.eraseIdx i=A') (h:∀ σ',σ.le σ'->ArrSealed σ' E->GB cf ops U bef σb hpb nb n listed Q σ' env hp A' nh):GB cf ops U bef σb hpb nb n listed Q σ env hp A nh:=by
  refine ⟨fun hs hb hbb hnb hle hsub a β ha hex hex0 hc=>wpAnyC_by_world _ _ _ _ _ hex fun w hw=>?_⟩
  obtain ⟨σ',h1,h2,h3⟩:=hw.sealArr hi
  rw [hA] at h3
  exact ⟨_,h3,(h σ' h1 h2).run hs hb hbb hnb (Snap.le_trans hle h1) hsub a β ha ⟨_,h3⟩ hex0 hc⟩
theorem gb_own (h:Nat) {e:TypeId} {cs:List AT} (n' sz:Nat) (hrow:hp.get h=some (.loc e,cs)) (hcs:∀ c∈cs,c.lt 0) (hlen:cs.length=n'*sz) (hn:n'<=9223372036854775807) (hsb:hpb.get h=none)
    (k:∀ g,GB cf ops U bef σb hpb nb n listed Q σ (concE h g env) (HP.del h hp) (A++[⟨some ⟨g,0,none⟩,n',n',e,sz,cs.map AT.val⟩]) nh):GB cf ops U bef σb hpb nb n listed Q σ env hp A nh:=by
  refine ⟨fun hs hb hbb hnb hle hsub a β ha hex hex0 hc=>?_⟩
  obtain ⟨w,hw⟩:=hex
  obtain ⟨g,hg⟩:∃ g,β h=⟨g,0,none⟩:=by
    obtain ⟨q1,-,-,-⟩:=hw.loc h e cs hrow
    exact ⟨_,q1⟩
  have hsub':subH hpb (HP.del h hp):=by
    intro i y hy
    rw [HP.del_get]
    split
    · rename_i he
      subst he
      rw [hsb] at hy
      cases hy
    · exact hsub i y hy
  have e1:(fun w=>StW cf σ hp A β w)=fun w=>StW cf σ (HP.del h hp) (A++[⟨some ⟨g,0,none⟩,n',n',e,sz,cs.map AT.val⟩]) β w:=by
    funext w
    exact propext (StW.own hrow hcs hg hlen hn)
  have:=(k g).run hs hb.conc hbb hnb hle hsub' a β (ha.conc hg) ⟨w,(StW.own hrow hcs hg hlen hn).1 hw⟩ hex0 hc
  rw [e1]
  exact this
end
end Go.Sy
