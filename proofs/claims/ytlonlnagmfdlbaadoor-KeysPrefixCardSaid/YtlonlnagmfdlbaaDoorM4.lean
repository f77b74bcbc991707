/- Parts of the proof of CKeysPrefix: F3, Ka, SyQ, SyT, SyW, SyY, SyZ, K1, K2, KSh, K3. No conditions. -/
import Derived.Test.YtlonlnagmfdlbaaDoorM3
import Derived.Laws.MakeOwn
import Derived.Laws.IdiomStrings
import Derived.Lib.BufferRead
import Derived.Shelf.Strings.Replace
import Derived.Test.YtlonlnagmfdlbaaDoorProg
namespace Go.Sy
open Go.Proofs
def asciiCells (p:UInt8->Bool):List AT:=(List.range 256).map fun i=>.b (p (UInt8.ofNat i))
theorem asciiCells_len (p:UInt8->Bool):(asciiCells p).length=256:=by simp [asciiCells]
theorem asciiCells_lt (p:UInt8->Bool) (n:Nat):∀ c∈asciiCells p,c.lt n:=by
  intro c hc
  obtain ⟨i,_,rfl⟩:=List.mem_map.1 hc
  trivial
theorem asciiCells_get (p:UInt8->Bool) (u:UInt8):(asciiCells p)[u.toNat]?=some (.b (p u)):=by
  have:=u.toNat_lt
  simp [asciiCells,this]
theorem asciiCells_set (p:UInt8->Bool) (u:UInt8) (β:Nat->Addr):((asciiCells p).set u.toNat .tt).map (AT.den β)=(asciiCells fun x=>p x||x == u).map (AT.den β):=by
  apply List.ext_getElem?
  intro j
  simp only [List.getElem?_map,List.getElem?_set,asciiCells,List.length_map,List.length_range]
  by_cases hj:j<256
  · by_cases huj:u.toNat=j
    · subst huj
      rw [if_pos rfl,if_pos hj]
      simp [hj,AT.den]
    · rw [if_neg huj]
      have hne:UInt8.ofNat j≠u:=fun e=>huj (by rw [<-e];simp;omega)
      simp [hj,AT.den,hne]
  · have:=u.toNat_lt
    rw [if_neg (by omega)]
    simp [hj]
set_option maxRecDepth 100000 in
set_option maxHeartbeats 1000000 in
theorem makeASCIISet_c (σ:Snap) (l:List UInt8) (hl:l.length<=1000) (h128:∀ u∈l,u.toNat<128) :
    PlainS Tryd.prog 58 [.a (.v (.string (mkB l)))] σ (fun v=>v=(SV.tup [.agg (asciiCells l.contains),.a .tt]).den β0):=by
  refine enter_p Tryd.func58 rfl rfl (by (repeat' (first | exact trivial | constructor))) fun w=>?_
  have hsz:=mkB_size l
  (repeat (first | refine cj_seq ?_ | refine cjr TT rfl ?_ | refine oj_then ?_ | refine cj_block ?_))
  refine cj_rowset 0 (asciiCells fun _=>false) rfl (fun β=>?_) (asciiCells_lt _ _) ?_
  · show (List.replicate 256 AT.ff).map _=_
    rw [List.map_replicate,asciiCells,List.map_map]
    exact ((List.map_const' (l:=List.range 256) (b:=Value.bool false)).trans (by rw [List.length_range];rfl)).symm
  refine cj_loop (fun _=>σ) (fun (k:Nat)=>[(0,.a (.v (.string (mkB l)))),(2,.a (.p 0 0)),(4,.a (.v (.int .i64 k)))]) (fun k=>[(0,.loc 90,asciiCells (l.take k).contains)]) (fun _=>[]) 1
    (fun k=>k<=l.length) (fun k=>l.length - k) 0 (Nat.zero_le _) rfl (by (repeat first | exact trivial | refine ⟨rfl,?_⟩)) (by (repeat first | exact trivial | refine ⟨rfl,?_⟩)) rfl (by (repeat' (first | exact trivial | exact Nat.le_of_ble_eq_true rfl | constructor))) ⟨⟨Nat.zero_lt_one,asciiCells_lt _ _⟩,trivial⟩ fun k hk=>?_
  (repeat (first | refine cj_seq ?_ | refine cjr TT rfl ?_ | refine oj_then ?_))
  refine cj_if rfl (fun hc=>?_) (fun hc=>?_)
  · have hlt:k<l.length:=by rw [hsz] at hc;simpa using hc
    have hu:=h128 _ (List.getElem_mem hlt)
    (repeat (first | refine cj_seq ?_ | refine cjr TT rfl ?_ | refine cj_skip ?_ | refine cj_block ?_ | refine nj_then ?_))
    refine oj_index_str (u:=l[k]) TT rfl rfl rfl rfl rfl rfl rfl rfl (by omega) (by simp [hlt]) (oj_run TT rfl ?_)
    (repeat (first | refine cj_seq ?_ | refine cjr TT rfl ?_ | refine oj_then ?_))
    refine cj_if rfl (fun hp=>?_) (fun hp=>?_)
    · simp at hp;omega
    (repeat (first | refine cjr TT rfl ?_ | refine cj_skip ?_ | refine nj_then ?_))
    refine oj_idx_row 4 256 und214 und4 rfl rfl rfl rfl rfl rfl (by omega) (by omega) l[k].toNat (by rw [show Tryd.prog.cellsOf 4=1 from cells4];simp) ?_
    refine oj_store1 (c:=.tt) TT rfl rfl rfl rfl rfl rfl rfl rfl rfl rfl (by rw [asciiCells_len];omega) ?_
    (repeat (first | refine cjr TT rfl ?_ | refine oj_nil ?_ | refine nj_then ?_ | refine nj_block ?_ | (refine oj_add rfl rfl rfl rfl rfl rfl (by omega) ?_;refine oj_run TT rfl ?_)))
    refine nj_rowset 0 (asciiCells (l.take (k+1)).contains) rfl (fun β=>?_) (asciiCells_lt _ _) ?_
    · rw [asciiCells_set]
      congr 2
      funext x
      rw [Bool.eq_iff_iff]
      simp only [Bool.or_eq_true,beq_iff_eq,List.contains_iff_mem]
      rw [List.take_succ_eq_append_getElem hlt,List.mem_append,List.mem_singleton]
    refine nj_again (k+1) hlt (by omega) rfl (by (repeat first | exact trivial | refine ⟨rfl,?_⟩)) (by (repeat first | exact trivial | refine ⟨rfl,?_⟩)) rfl (by (repeat' (first | exact trivial | exact Nat.le_of_ble_eq_true rfl | constructor))) ⟨⟨Nat.zero_lt_one,asciiCells_lt _ _⟩,trivial⟩
  · have hk0:k=l.length:=by rw [hsz] at hc;simp at hc;omega
    subst hk0
    rw [List.take_length]
    (repeat (first | refine cj_seq ?_ | refine cjr TT rfl ?_ | refine oj_then ?_ | refine cj_exit ?_ | refine cj_ret ?_ | refine nj_then ?_ | refine nj_then_exit ?_ | refine nj_block_out ?_))
    refine nj_ret TT rfl fun β w' _ _=>?_
    rfl
def digitB (u:UInt8):Bool:=[48,49,50,51,52,53,54,55,56,57].contains u
def digitsS:ByteArray:=⟨#[48,49,50,51,52,53,54,55,56,57]⟩
set_option maxRecDepth 100000 in
set_option maxHeartbeats 1000000 in
theorem Trim_c (σ:Snap) (l:List UInt8) (hl:l.length<=mostLen) :
    PlainS Tryd.prog 47 [.a (.v (.string (mkB l))),.a (.v (.string digitsS))] σ (fun v=>v=.string (mkB ((trimR digitB l).dropWhile digitB))):=by
  have hsz:=mkB_size l
  refine enter_p Tryd.func47 rfl rfl (by (repeat' (first | exact trivial | constructor))) fun w=>?_
  (repeat (first | refine cj_seq ?_ | refine cjr TT rfl ?_ | refine oj_then ?_))
  refine oj_split 9 rfl (fun h=>?_) (fun h=>?_)
  · have h0:l=[]:=mkB_inj (of_decide_eq_true h)
    subst h0
    refine oj_run TT rfl ?_
    (repeat (first | refine cj_seq ?_ | refine cjr TT rfl ?_ | refine oj_then ?_ | refine cj_if_t rfl ?_ | refine cj_ret ?_ | refine nj_then_ret ?_))
    refine nj_ret TT rfl fun β w' _ _=>?_
    rfl
  refine oj_run TT rfl ?_
  (repeat refine oj_then ?_)
  refine cj_if rfl (fun h=>?_) (fun h=>?_)
  · exact absurd h (by decide)
  (repeat (first | refine cj_seq ?_ | refine cjr TT rfl ?_ | refine cj_skip ?_ | refine nj_then ?_))
  refine oj_split 17 rfl (fun h=>?_) (fun h=>?_)
  · exact absurd h (by decide)
  refine oj_run TT rfl ?_
  (repeat (first | refine cj_seq ?_ | refine cjr TT rfl ?_ | refine oj_then ?_ | refine cj_if_f rfl ?_ | refine cj_skip ?_ | refine nj_then ?_))
  refine oj_callP rfl rfl rfl rfl rfl Tryd.call58 (by (repeat' (first | exact trivial | constructor))) (makeASCIISet_c σ [48,49,50,51,52,53,54,55,56,57] (by decide) (by decide)) fun v hv=>⟨_,?_,hv.symm,?_⟩
  · intro x hx
    simp only [List.mem_cons,List.not_mem_nil,or_false] at hx
    rcases hx with rfl | rfl
    · exact asciiCells_lt _ _
    · trivial
  refine oj_run TT rfl ?_
  (repeat (first | refine cj_seq ?_ | refine cjr TT rfl ?_ | refine oj_then ?_ | refine cj_if_t rfl ?_))
  refine oj_own 0 1 256 rfl (by exact asciiCells_lt digitB 0) rfl (by decide) fun g=>?_
  refine oj_seal 0 rfl rfl rfl fun σ' hle hS=>?_
  have hcell:∀ u:UInt8,σ'.cell ⟨g,u.toNat,none⟩=some (.bool (digitB u)):=by
    intro u
    rcases hS with ⟨h1,_⟩ | ⟨g',h1,h2⟩
    · cases h1
    · injection h1 with h1
      simp only [Addr.mk.injEq,and_true] at h1
      subst h1
      refine h2 u.toNat _ ?_
      show ((asciiCells digitB).map AT.val)[u.toNat]?=_
      rw [List.getElem?_map,asciiCells_get]
      rfl
  refine oj_callP rfl rfl rfl rfl rfl Tryd.call60 (by (repeat' (first | exact trivial | constructor))) (trimRightASCII_c σ' digitB g hcell l hl) fun v hv=>⟨.a (.v (.string (mkB (trimR digitB l)))),trivial,hv.symm,?_⟩
  refine oj_callP rfl rfl rfl rfl rfl Tryd.call59 (by (repeat' (first | exact trivial | constructor))) (trimLeftASCII_c σ' digitB g hcell (trimR digitB l)) fun v hv=>⟨.a (.v (.string (mkB ((trimR digitB l).dropWhile digitB)))),trivial,hv.symm,?_⟩
  refine oj_run TT rfl ?_
  (repeat (first | refine oj_then ?_ | refine cj_ret ?_ | refine nj_then_ret ?_))
  refine nj_ret TT rfl fun β w' _ _=>?_
  rfl
theorem dropWhile_nil (p:UInt8->Bool):∀ (l:List UInt8),l.dropWhile p=[]↔∀ u∈l,p u=true
  | []=>by simp
  | x::l=>by
    rw [List.dropWhile_cons]
    split
    · rename_i h
      rw [dropWhile_nil p l]
      simp [h]
    · rename_i h
      simp [h]
theorem trim_digits (l:List UInt8):(trimR digitB l).dropWhile digitB=[]↔∀ u∈l,digitB u=true:=by
  have hR:trimR digitB l=[]↔∀ u∈l,digitB u=true:=by
    unfold trimR
    rw [List.reverse_eq_nil_iff,dropWhile_nil]
    simp
  constructor
  · intro h
    rw [dropWhile_nil] at h
    by_cases h0:trimR digitB l=[]
    · exact hR.1 h0
    · exfalso
      have hlast:∀ u,(trimR digitB l).getLast?=some u->digitB u=false:=by
        intro u hu
        unfold trimR at hu
        rw [List.getLast?_reverse] at hu
        have:=List.head?_dropWhile_not digitB l.reverse
        rw [hu] at this
        simpa using this
      cases hg:(trimR digitB l).getLast? with
      | none=>rw [List.getLast?_eq_none_iff] at hg;exact h0 hg
      | some u =>
        have h1:=hlast u hg
        have h2:=h u (List.mem_of_getLast? hg)
        rw [h1] at h2;cases h2
  · intro h
    rw [hR.2 h]
    rfl
def decSane (d:GDec):Bool :=
  let l:=d.dg.data.toList
  if l.length=0 then !d.neg&&decide (d.ex=0)
  else decide (l.length<=40)&&l.all digitB&&decide (-800<=d.ex)&&decide (d.ex<=800)&&decide (-400<=l.length+d.ex)&&decide (l.length+d.ex<=400)&&l.head? != some 48&&l.getLast? != some 48
set_option maxRecDepth 100000 in
set_option maxHeartbeats 1000000 in
theorem height_c (σ:Snap) (d:GDec) (h1:d.dg.size<=1000) (h2:-1000<=d.ex) (h3:d.ex<=1000):PlainS Tryd.prog 48 [.agg (decCells d)] σ (fun v=>v=.int .i64 (d.dg.size+d.ex)):=by
  refine enter_p Tryd.func48 rfl rfl (by (repeat' (first | exact trivial | exact decCells_lt _ _ | constructor))) fun w=>?_
  (repeat (first | refine cj_seq ?_ | refine cjr TT rfl ?_ | refine oj_then ?_ | refine cj_ret ?_ | (refine oj_add rfl rfl rfl rfl rfl rfl (by omega) ?_;refine oj_run TT rfl ?_)))
  refine nj_ret TT rfl fun β w' _ _=>?_
  rfl
theorem und23:Tryd.prog.underlying 40=some (.struct (Tryd.prog.fieldsOf 40)):=by kernel_rfl
def fieldsAre:List Field->List (Nat×Nat)->Bool
  | [],[]=>true
  | f :: fs, (t, o) :: l => f.name != "_" && Nat.beq f.type t && Nat.beq f.offset o && fieldsAre fs l
  | _,_=>false
theorem fieldsAre_cons {l : List Field} {t o : Nat} {r : List (Nat × Nat)} (h : fieldsAre l ((t, o) :: r) = true) : ∃ f fs, l = f :: fs ∧ f.name ≠ "_" ∧ f.type = t ∧ f.offset = o ∧ fieldsAre fs r = true := by
  cases l with
  | nil=>cases h
  | cons f fs =>
    simp only [fieldsAre,Bool.and_eq_true,bne_iff_ne,ne_eq] at h
    exact ⟨f,fs,rfl,h.1.1.1,Nat.eq_of_beq_eq_true h.1.1.2,Nat.eq_of_beq_eq_true h.1.2,h.2⟩
theorem eqFields_cons {P : Program} {w : World} {d : Nat} {xs ys : Array Value} {f : Field} {fs : List Field} {a b : Value} {r : Bool} (hn : f.name ≠ "_") (ha : (part f.type xs f.offset).run P w = .ok a w) (hb : (part f.type ys f.offset).run P w = .ok b w)
    (he:(Op.equalIn d f.type a b).run P w=.ok r w):(Op.eqFields d xs ys (f::fs)).run P w=if r then (Op.eqFields d xs ys fs).run P w else .ok false w:=by
  simp only [Op.eqFields,if_pos hn,Sem.run_bind,ha,hb,he,Result.andThen_ok]
  cases r<;>simp
theorem run_part1 {P:Program} {w:World} {t:TypeId} {xs:Array Value} {o:Nat} {d:TypeDesc} {v:Value} (hu:P.underlying t=some d) (hd:aggD d=false) (hv:xs[o]?=some v):(part t xs o).run P w=.ok v w:=by
  simp only [part,Sem.run_bind,run_isAgg hu,hd,Result.andThen_ok,Bool.false_eq_true,if_false,hv,Sem.run_pure]
theorem und9:Tryd.prog.underlying 9=some .string:=by kernel_rfl
theorem und3:Tryd.prog.underlying 3=some (.int .i64):=by kernel_rfl
theorem run_eqStr {P:Program} {w:World} (d:Nat) (t:TypeId) (a b:ByteArray) (h:P.underlying t=some .string):(Op.equalIn (d+1) t (.string a) (.string b)).run P w=.ok (decide (a=b)) w:=by
  simp only [Op.equalIn,Sem.run_bind,run_underlying h,Result.andThen_ok,Sem.run_pure]
  congr 1
  rw [beq_toListBytes,ByteArray.toList_eq,ByteArray.toList_eq,Bool.eq_iff_iff]
  simp only [beq_iff_eq,decide_eq_true_eq]
  exact ⟨fun h=>ByteArray.ext (Array.ext' h),fun h=>by rw [h]⟩
theorem eqDec_ok (m:Nat) (a b:GDec) (w:World):(Op.equalIn (m+1+1) 40 (.agg #[.bool a.neg,.string a.dg,.int .i64 a.ex]) (.agg #[.bool b.neg,.string b.dg,.int .i64 b.ex])).run Tryd.prog w=.ok (decide (a=b)) w:=by
  rw [run_equalIn_agg w (m+1) 40 _ _ und23 (by kernel_rfl)]
  have h:fieldsAre (Tryd.prog.fieldsOf 40).toList [(4,0),(9,1),(3,2)]=true:=by kernel_rfl
  generalize (Tryd.prog.fieldsOf 40).toList=fl at h
  obtain ⟨f0,fl,rfl,n0,t0,o0,h⟩:=fieldsAre_cons h
  obtain ⟨f1,fl,rfl,n1,t1,o1,h⟩:=fieldsAre_cons h
  obtain ⟨f2,fl,rfl,n2,t2,o2,h⟩:=fieldsAre_cons h
  cases fl with
  | cons _ _=>cases h
  | nil =>
    rw [eqFields_cons (r:=a.neg == b.neg) n0 (run_part1 (v:=.bool a.neg) (by rw [t0];exact und4) rfl (by rw [o0];rfl)) (run_part1 (v:=.bool b.neg) (by rw [t0];exact und4) rfl (by rw [o0];rfl)) (run_equalIn_bool' w m f0.type a.neg b.neg (by rw [t0];exact und4))]
    rw [eqFields_cons (r:=decide (a.dg=b.dg)) n1 (run_part1 (v:=.string a.dg) (by rw [t1];exact und9) rfl (by rw [o1];rfl)) (run_part1 (v:=.string b.dg) (by rw [t1];exact und9) rfl (by rw [o1];rfl)) (run_eqStr m f1.type a.dg b.dg (by rw [t1];exact und9))]
    rw [eqFields_cons (r:=a.ex == b.ex) n2 (run_part1 (v:=.int .i64 a.ex) (by rw [t2];exact und3) rfl (by rw [o2];rfl)) (run_part1 (v:=.int .i64 b.ex) (by rw [t2];exact und3) rfl (by rw [o2];rfl)) (run_equalIn_int w m f2.type .i64 .i64 a.ex b.ex (by rw [t2];exact und3))]
    simp only [Op.eqFields,Sem.run_pure]
    have:(decide (a=b))=(a.neg == b.neg&&(decide (a.dg=b.dg)&&a.ex == b.ex)):=by
      rw [Bool.eq_iff_iff]
      cases a;cases b
      simp
    rw [this]
    cases (a.neg == b.neg)<;>cases decide (a.dg=b.dg)<;>cases (a.ex == b.ex)<;>rfl
theorem oj_eqDec {cf:Cf} {Q:Exit->Act->World->Prop} {σ:Snap} {env:Env} {hp:HP} {A:List AE} {nh:Nat} {it:Item} {rest:List Item} {d:Nat} {x y:Operand} {yt:TypeId} {ca cb:List AT} (a b:GDec) (hP:cf.P=Tryd.prog)
    (hop:it.o.op=.binOp .eql 40 x y yt) (hd:it.o.dst=some d) (hg:guardVal it.guard env=some true) (hN:Nat.blt d cf.N=true) (hx:evalO env x=some (.agg ca)) (hy:evalO env y=some (.agg cb)) (hca:∀ β,ca.map (AT.den β)=(decCells a).map (AT.den β)) (hcb:∀ β,cb.map (AT.den β)=(decCells b).map (AT.den β))
    (hk:OJ cf rest Q σ ((d,.a (.b (decide (a=b))))::env) hp A nh):OJ cf (it::rest) Q σ env hp A nh:=by
  refine oj_val (.a (.b (decide (a=b)))) hd hg hN trivial (fun _ ac β ha w=>?_) hk
  have h1:ac.eval x=.agg #[.bool a.neg,.string a.dg,.int .i64 a.ex]:=(evalO_eval ha hx).trans (by simp only [SV.den,hca];rfl)
  have h2:ac.eval y=.agg #[.bool b.neg,.string b.dg,.int .i64 b.ex]:=(evalO_eval ha hy).trans (by simp only [SV.den,hcb];rfl)
  rw [hP]
  have hG:(eqGuard .eql 40 x y (.agg #[.bool a.neg,.string a.dg,.int .i64 a.ex]) (.agg #[.bool b.neg,.string b.dg,.int .i64 b.ex])).run Tryd.prog w=.ok () w:=run_eqGuard_agg w _ _ _ _ _ _ (by kernel_rfl)
  have hE:(Op.equalIn 10000 40 (.agg #[.bool a.neg,.string a.dg,.int .i64 a.ex]) (.agg #[.bool b.neg,.string b.dg,.int .i64 b.ex])).run Tryd.prog w=.ok (decide (a=b)) w:=eqDec_ok 9998 a b w
  have hB:(binOp .eql 40 (.agg #[.bool a.neg,.string a.dg,.int .i64 a.ex]) (.agg #[.bool b.neg,.string b.dg,.int .i64 b.ex])).run Tryd.prog w=.ok (.bool (decide (a=b))) w:=by
    rw [run_eql_struct,hE]
    rfl
  simp only [execOp,hop,h1,h2,Sem.run_bind,hG,hB,Result.andThen_ok,Sem.run_pure]
  rfl
theorem decSane_mk (ng:Bool) (l:List UInt8) (ex:Int) (h0:l.length≠0):decSane ⟨ng,mkB l,ex⟩=(decide (l.length<=40)&&l.all digitB&&decide (-800<=ex)&&decide (ex<=800)&&decide (-400<=l.length+ex)&&decide (l.length+ex<=400)&&l.head? != some 48&&l.getLast? != some 48):=by
  unfold decSane
  exact if_neg h0
def dec0:GDec:=⟨false,⟨#[]⟩,0⟩
set_option maxRecDepth 100000 in
set_option maxHeartbeats 1000000 in
theorem decSane_c (σ:Snap) (d:GDec) (hd:d.dg.size<=mostLen):PlainS Tryd.prog 34 [.agg (decCells d)] σ (fun v=>v=.bool (decSane d)):=by
  obtain ⟨ng,dg,ex⟩:=d
  obtain ⟨l,rfl⟩:=mkB_ex dg
  have hsz:=mkB_size l
  simp only at hd
  rw [hsz] at hd
  have hd':=hd
  simp only [mostLen] at hd'
  refine enter_p Tryd.func34 rfl rfl (by (repeat' (first | exact trivial | exact decCells_lt _ _ | constructor))) fun w=>?_
  (repeat (first | refine cj_seq ?_ | refine cjr TT rfl ?_ | refine oj_then ?_ | refine cj_block ?_))
  refine cj_if rfl (fun h=>?_) (fun h=>?_)
  · have h0:l=[]:=by simpa using h
    subst h0
    (repeat (first | refine cj_seq ?_ | refine cjr TT rfl ?_))
    refine oj_eqDec ⟨ng,mkB [],ex⟩ dec0 rfl rfl rfl rfl rfl rfl rfl (fun _=>rfl) (fun _=>rfl) (oj_run TT rfl ?_)
    (repeat (first | refine oj_then ?_ | refine cj_ret ?_ | refine nj_then_ret ?_ | refine nj_block_ret ?_))
    refine nj_ret TT rfl fun β w' _ _=>?_
    show Value.bool _=_
    congr 1
    simp only [decSane,mkB_list,List.length_nil,if_true,dec0,GDec.mk.injEq]
    rw [Bool.eq_iff_iff]
    cases ng<;>simp [mkB]
  · have h0:l≠[]:=by simpa using h
    have hl0:l.length≠0:=by simpa using h0
    have hlb:(mkB l).size=l.length:=hsz
    (repeat (first | refine cj_seq ?_ | refine cjr TT rfl ?_))
    refine oj_split 17 rfl (fun h=>?_) (fun h=>?_)
    · have h40:40<l.length:=by simp at h;omega
      refine oj_run TT rfl ?_
      (repeat (first | refine cj_seq ?_ | refine cjr TT rfl ?_ | refine oj_then ?_ | refine cj_if_t rfl ?_ | refine cj_ret ?_ | refine nj_then_ret ?_ | refine nj_block_ret ?_))
      refine nj_ret TT rfl fun β w' _ _=>?_
      show Value.bool false=_
      congr 1
      rw [decSane_mk _ _ _ hl0,show decide (l.length<=40)=false by simp;omega]
      simp
    have h40:l.length<=40:=by simp at h;omega
    refine oj_run TT rfl ?_
    refine oj_callP rfl rfl rfl rfl rfl Tryd.call47 (by (repeat' (first | exact trivial | constructor))) (Trim_c σ l hd) fun v hv=>⟨.a (.v (.string (mkB ((trimR digitB l).dropWhile digitB)))),trivial,hv.symm,?_⟩
    refine oj_run TT rfl ?_
    (repeat refine oj_then ?_)
    have htr:(decide (mkB ((trimR digitB l).dropWhile digitB)=⟨#[]⟩))=l.all digitB:=by
      rw [Bool.eq_iff_iff,decide_eq_true_eq,List.all_eq_true,<-trim_digits]
      exact ⟨fun h=>mkB_inj h,fun h=>by rw [h];rfl⟩
    refine cj_if rfl (fun h=>?_) (fun h=>?_)
    · rw [htr] at h
      (repeat (first | refine cj_seq ?_ | refine cjr TT rfl ?_ | refine oj_then ?_ | refine cj_ret ?_ | refine nj_then_ret ?_ | refine nj_block_ret ?_))
      refine nj_ret TT rfl fun β w' _ _=>?_
      show Value.bool false=_
      congr 1
      rw [decSane_mk _ _ _ hl0,show l.all digitB=false by simpa using h]
      simp
    rw [htr] at h
    have hall:l.all digitB=true:=by simpa using h
    (repeat (first | refine cj_seq ?_ | refine cjr TT rfl ?_))
    refine oj_split 27 rfl (fun h=>?_) (fun h=>?_)
    · refine oj_run TT rfl ?_
      (repeat (first | refine cj_seq ?_ | refine cjr TT rfl ?_ | refine oj_then ?_ | refine cj_if_t rfl ?_ | refine cj_ret ?_ | refine nj_then_ret ?_ | refine nj_block_ret ?_))
      refine nj_ret TT rfl fun β w' _ _=>?_
      show Value.bool false=_
      congr 1
      have:ex < -800:=by simpa using h
      rw [decSane_mk _ _ _ hl0,show decide (-800<=ex)=false by simp;omega]
      simp
    have hex1:-800<=ex:=by simpa using h
    refine oj_run TT rfl ?_
    (repeat refine oj_then ?_)
    refine cj_if rfl (fun h=>?_) (fun h=>?_)
    · (repeat (first | refine cj_seq ?_ | refine cjr TT rfl ?_ | refine oj_then ?_ | refine cj_ret ?_ | refine nj_then_ret ?_ | refine nj_block_ret ?_))
      refine nj_ret TT rfl fun β w' _ _=>?_
      show Value.bool false=_
      congr 1
      have:800<ex:=by simpa using h
      rw [decSane_mk _ _ _ hl0,show decide (ex<=800)=false by simp;omega]
      simp
    have hex2:ex<=800:=by simpa using h
    (repeat (first | refine cj_seq ?_ | refine cjr TT rfl ?_ | refine cj_skip ?_ | refine nj_then ?_ | refine nj_block ?_))
    refine oj_callP rfl rfl rfl rfl rfl Tryd.call48 (by (repeat' (first | exact trivial | exact decCells_lt _ _ | constructor))) (height_c σ ⟨ng,mkB l,ex⟩ (by show (mkB l).size<=1000;omega) (by show -1000<=ex;omega) (by show ex<=1000;omega)) fun v hv=>⟨.a (.v (.int .i64 ((mkB l).size+ex))),trivial,hv.symm,?_⟩
    refine oj_run TT rfl ?_
    (repeat (first | refine cj_seq ?_ | refine cjr TT rfl ?_ | refine oj_then ?_))
    have hfin:decSane ⟨ng,mkB l,ex⟩=(decide (-400<=l.length+ex)&&decide (l.length+ex<=400)&&l.head? != some 48&&l.getLast? != some 48):=by
      rw [decSane_mk _ _ _ hl0,hall,show decide (l.length<=40)=true by simp;omega,show decide (-800<=ex)=true by simp;omega,show decide (ex<=800)=true by simp;omega]
      simp
    have hx:(((mkB l).size:Nat):Int)=l.length:=by rw [hsz]
    refine oj_split 36 rfl (fun h=>?_) (fun h=>?_)
    rotate_left
    · refine oj_run TT rfl ?_
      (repeat (first | refine oj_then ?_ | refine cj_ret ?_))
      refine nj_ret TT rfl fun β w' _ _=>?_
      show Value.bool false=_
      congr 1
      rw [hfin,show decide (-400<=(l.length:Int)+ex)=false by rw [<-hx];exact h]
      simp
    have e1:decide (-400<=(l.length:Int)+ex)=true:=by rw [<-hx];exact h
    refine oj_run TT rfl ?_
    refine oj_split 40 rfl (fun h=>?_) (fun h=>?_)
    rotate_left
    · refine oj_run TT rfl ?_
      (repeat (first | refine oj_then ?_ | refine cj_ret ?_))
      refine nj_ret TT rfl fun β w' _ _=>?_
      show Value.bool false=_
      congr 1
      rw [hfin,show decide ((l.length:Int)+ex<=400)=false by rw [<-hx];exact h]
      simp
    have e2:decide ((l.length:Int)+ex<=400)=true:=by rw [<-hx];exact h
    refine oj_run TT rfl ?_
    have hlt:0<l.length:=by omega
    refine oj_index_str (u:=l[0]) TT rfl rfl rfl rfl rfl rfl rfl rfl (by omega) (by simp [hlt]) (oj_run TT rfl ?_)
    have e3:(l.head? != some 48)=!decide ((l[0].toNat:Int)=48):=by
      rw [List.head?_eq_getElem?,List.getElem?_eq_getElem hlt,Bool.eq_iff_iff]
      simp [<-UInt8.toNat_inj]
      omega
    refine oj_split 46 rfl (fun h=>?_) (fun h=>?_)
    rotate_left
    · refine oj_run TT rfl ?_
      (repeat (first | refine oj_then ?_ | refine cj_ret ?_))
      refine nj_ret TT rfl fun β w' _ _=>?_
      show Value.bool false=_
      congr 1
      rw [hfin,e3,h]
      simp
    refine oj_run TT rfl ?_
    refine oj_minus rfl rfl rfl rfl rfl rfl (by show -9223372036854775808<=((mkB l).size:Int) - 1/\((mkB l).size:Int) - 1<=9223372036854775807;omega) (oj_run TT rfl ?_)
    refine oj_index_str (u:=l[l.length - 1]) TT rfl rfl rfl rfl rfl rfl rfl rfl (by show 0<=((mkB l).size:Int) - 1;omega) (by
      show l[(((mkB l).size:Int) - 1).toNat]?=_
      rw [show (((mkB l).size:Int) - 1).toNat=l.length - 1 by omega,List.getElem?_eq_getElem (by omega)]) (oj_run TT rfl ?_)
    have e4:(l.getLast? != some 48)=!decide ((l[l.length - 1].toNat:Int)=48):=by
      rw [List.getLast?_eq_getElem?,List.getElem?_eq_getElem (by omega),Bool.eq_iff_iff]
      simp [<-UInt8.toNat_inj]
      omega
    (repeat (first | refine oj_then ?_ | refine cj_ret ?_))
    refine nj_ret TT rfl fun β w' _ _=>?_
    show Value.bool _=_
    congr 1
    rw [hfin,e1,e2,e3,e4,h]
    simp
end Go.Sy
/- Plain law: parts as bytes, and bytes as parts. No program in sight. -/
namespace Go.Sy
structure GPart where
  kd:Int
  b:Bool
  n:GDec
  s:ByteArray
  i:Int
deriving DecidableEq
def emptyB:ByteArray:=⟨#[]⟩
def part0:GPart:=⟨0,false,dec0,emptyB,0⟩
def rightG (p:GPart):Bool :=
  if p.kd=0 then decide (p=part0)
  else if p.kd=1 then decide ((⟨0,false,p.n,p.s,p.i⟩:GPart)=part0)
  else if p.kd=2 then decide ((⟨0,p.b,dec0,p.s,p.i⟩:GPart)=part0)&&decSane p.n
  else if p.kd=3 then decide ((⟨0,p.b,p.n,emptyB,p.i⟩:GPart)=part0)
  else if p.kd=9 then decide ((⟨0,p.b,p.n,p.s,0⟩:GPart)=part0)&&decide (0<=p.i)&&decide (p.i<=4294967295)
  else false
inductive Rt:GPart->Prop
  | null:Rt part0
  | bool (b:Bool):Rt ⟨1,b,dec0,emptyB,0⟩
  | num (n:GDec) (h:decSane n=true):Rt ⟨2,false,n,emptyB,0⟩
  | str (s:ByteArray):Rt ⟨3,false,dec0,s,0⟩
  | whole (i:Int) (h1:0<=i) (h2:i<=4294967295):Rt ⟨9,false,dec0,emptyB,i⟩
theorem right_iff (p:GPart):rightG p=true↔Rt p:=by
  obtain ⟨kd,b,n,s,i⟩:=p
  constructor
  · intro h
    unfold rightG at h
    dsimp only at h
    split at h
    · rename_i h0
      rw [decide_eq_true_eq] at h
      rw [h]
      exact Rt.null
    split at h
    · rename_i h0 h1
      simp only [decide_eq_true_eq,part0,GPart.mk.injEq,true_and] at h
      obtain ⟨rfl,rfl,rfl⟩:=h
      subst h1
      exact Rt.bool b
    split at h
    · rename_i h0 h1 h2
      simp only [Bool.and_eq_true,decide_eq_true_eq,part0,GPart.mk.injEq,true_and] at h
      obtain ⟨⟨rfl,rfl,rfl⟩,hs⟩:=h
      subst h2
      exact Rt.num n hs
    split at h
    · rename_i h0 h1 h2 h3
      simp only [decide_eq_true_eq,part0,GPart.mk.injEq,true_and] at h
      obtain ⟨rfl,rfl,rfl⟩:=h
      subst h3
      exact Rt.str s
    split at h
    · rename_i h0 h1 h2 h3 h9
      simp only [Bool.and_eq_true,decide_eq_true_eq,part0,GPart.mk.injEq,true_and,and_true] at h
      obtain ⟨⟨⟨rfl,rfl,rfl⟩,ha⟩,hb⟩:=h
      subst h9
      exact Rt.whole i ha hb
    · cases h
  · intro h
    cases h with
    | null=>rfl
    | bool b=>simp [rightG,part0]
    | num n h=>simp [rightG,part0,h]
    | str s=>simp [rightG,part0]
    | whole i h1 h2=>simp [rightG,part0,h1,h2]
def byteOf (x:Int):UInt8:=UInt8.ofNat (x % 256).toNat
theorem byteOf_nat (x:Int):((byteOf x).toNat:Int)=x % 256:=by
  unfold byteOf
  rw [UInt8.toNat_ofNat']
  omega
theorem all8 {p:UInt8->Prop} (h:∀ n:Fin 256,p (UInt8.ofNat n.val)) (c:UInt8):p c:=by
  have:=h ⟨c.toNat,c.toNat_lt⟩
  simpa using this
theorem turn_turn:∀ c:UInt8,255 - (255 - c)=c:=all8 (by decide +kernel)
theorem fig_back:∀ c:UInt8,48+(c - 48+1) - 1=c:=all8 (by decide +kernel)
theorem fig_iff':∀ c:UInt8,digitB c=true->c - 48+1≠0/\c - 48+1<=10:=all8 (by decide +kernel)
def sizeG (d:GDec):List UInt8 :=
  byteOf ((d.dg.size+d.ex+1000) / 256)::byteOf (d.dg.size+d.ex+1000)::(d.dg.data.toList.map (fun c=>c - 48+1)++[0])
def turnG (l:List UInt8):List UInt8:=l.map fun c=>255 - c
theorem turnG_turn (l:List UInt8):turnG (turnG l)=l:=by
  unfold turnG
  rw [List.map_map]
  conv=>rhs;rw [<-List.map_id l]
  exact List.map_congr_left fun c _=>turn_turn c
def escG:List UInt8->List UInt8
  | []=>[]
  | c::l=>if c=0 then 0::255::escG l else c::escG l
def putG (p:GPart):List UInt8 :=
  if p.kd=0 then [16]
  else if p.kd=1 then [if p.b then 33 else 32]
  else if p.kd=2 then (if p.n.dg.size=0 then [49] else if p.n.neg then 48::turnG (sizeG p.n) else 50::sizeG p.n)
  else if p.kd=3 then 64::(escG p.s.data.toList++[0,0])
  else [80,byteOf (p.i / 16777216),byteOf (p.i / 65536),byteOf (p.i / 256),byteOf p.i]
def encG (l:List GPart):List UInt8×Int :=
  if 16<l.length then ([],4) else if l.all rightG then (l.flatMap putG,0) else ([],1)
def zsplit:List UInt8->Option (List UInt8×List UInt8)
  | []=>none
  | c::l=>if c=0 then some ([],l) else (zsplit l).map fun p=>(c::p.1,p.2)
theorem zsplit_of:∀ (a r:List UInt8),(∀ c∈a,c≠0)->zsplit (a++0::r)=some (a,r)
  | [],r,_=>by simp [zsplit]
  | c::a,r,h=>by
    rw [List.cons_append,zsplit,if_neg (h c List.mem_cons_self),zsplit_of a r fun x hx=>h x (List.mem_cons_of_mem c hx)]
    rfl
def decOf (neg:Bool) (x y:UInt8) (ds:List UInt8):GDec:=⟨neg,mkB (ds.map fun c=>48+c - 1),x.toNat*256+y.toNat - 1000 - ds.length⟩
def numberG (b:List UInt8) (neg:Bool):Option (GDec×List UInt8) :=
  match (if neg then turnG b else b) with
  | x::y::s =>
    match zsplit s with
    | some (ds,_)=>if ds=[]\/(ds.any fun c=>decide (10<c))=true\/decSane (decOf neg x y ds)=false then none else some (decOf neg x y ds,b.drop (3+ds.length))
    | none=>none
  | _=>none
def textG:List UInt8->Option (List UInt8×List UInt8)
  | []=>none
  | [_]=>none
  | c::d::r =>
    if c≠0 then (textG (d::r)).map fun p=>(c::p.1,p.2)
    else if d=0 then some ([],r) else if d=255 then (textG r).map fun p=>(0::p.1,p.2) else none
def firstG (b:List UInt8):Option (GPart×List UInt8) :=
  match b with
  | []=>none
  | t::r =>
    if t=16 then some (part0,r)
    else if t=32\/t=33 then some (⟨1,decide (t=33),dec0,emptyB,0⟩,r)
    else if t=49 then some (⟨2,false,dec0,emptyB,0⟩,r)
    else if t=48\/t=50 then (numberG r (decide (t=48))).map fun p=>(⟨2,false,p.1,emptyB,0⟩,p.2)
    else if t=64 then (textG r).map fun p=>(⟨3,false,dec0,mkB p.1,0⟩,p.2)
    else if t=80 then
      match r with
      | a::b::c::d::r=>some (⟨9,false,dec0,emptyB,(a.toNat:Int)*16777216+b.toNat*65536+c.toNat*256+d.toNat⟩,r)
      | _=>none
    else none
theorem esc_text:∀ (s u:List UInt8),textG (escG s++0::0::u)=some (s,u)
  | [],u=>by simp [escG,textG]
  | c::s,u=>by
    have ih:=esc_text s u
    unfold escG
    split
    · rename_i h0
      subst h0
      rw [List.cons_append,List.cons_append,textG,ih]
      simp
    · rename_i h0
      have:∃ d r,escG s++0::0::u=d::r:=by
        cases h:escG s++0::0::u with
        | nil=>simp at h
        | cons d r=>exact ⟨d,r,rfl⟩
      obtain ⟨d,r,e⟩:=this
      rw [List.cons_append,e,textG,if_pos h0,<-e,ih]
      rfl
theorem sane_size {d:GDec} (h:decSane d=true) (h0:d.dg.size≠0):(∀ c∈d.dg.data.toList,digitB c=true) /\ -400<=d.dg.size+d.ex/\d.dg.size+d.ex<=400:=by
  obtain ⟨ng,dg,ex⟩:=d
  obtain ⟨l,rfl⟩:=mkB_ex dg
  simp only [mkB_size] at h0 ⊢
  rw [decSane_mk _ _ _ h0] at h
  simp only [Bool.and_eq_true,decide_eq_true_eq,List.all_eq_true] at h
  obtain ⟨⟨⟨⟨⟨⟨⟨-,h1⟩,-⟩,-⟩,h2⟩,h3⟩,-⟩,-⟩:=h
  exact ⟨h1,h2,h3⟩
theorem sane_zero {d:GDec} (h:decSane d=true) (h0:d.dg.size=0):d=dec0:=by
  obtain ⟨ng,dg,ex⟩:=d
  obtain ⟨l,rfl⟩:=mkB_ex dg
  have h0:l.length=0:=by simpa using h0
  have hl:l=[]:=List.eq_nil_of_length_eq_zero h0
  subst hl
  simp only [decSane,mkB_list,List.length_nil,if_true,Bool.and_eq_true,Bool.not_eq_true',decide_eq_true_eq] at h
  obtain ⟨rfl,rfl⟩:=h
  rfl
theorem any_false_of {l:List UInt8} (h:∀ c∈l,c<=10):(l.any fun c=>decide (10<c))=false:=by
  rw [List.any_eq_false]
  intro c hc
  have:=h c hc
  rw [decide_eq_true_eq,UInt8.not_lt]
  exact this
theorem dec_of_size {d:GDec} (h:decSane d=true) (h0:d.dg.size≠0):decOf d.neg (byteOf ((d.dg.size+d.ex+1000) / 256)) (byteOf (d.dg.size+d.ex+1000)) (d.dg.data.toList.map fun c=>c - 48+1)=d:=by
  obtain ⟨-,h1,h2⟩:=sane_size h h0
  obtain ⟨ng,dg,ex⟩:=d
  obtain ⟨l,rfl⟩:=mkB_ex dg
  simp only [mkB_size] at h1 h2 ⊢
  unfold decOf
  rw [mkB_list,List.map_map,List.length_map,byteOf_nat,byteOf_nat]
  congr 1
  · congr 1
    conv=>rhs;rw [<-List.map_id l]
    exact List.map_congr_left fun c _=>fig_back c
  · omega
theorem size_len (d:GDec):(sizeG d).length=3+d.dg.size:=by
  unfold sizeG
  rw [List.length_cons,List.length_cons,List.length_append,List.length_map,List.length_singleton,Array.length_toList]
  show d.dg.data.size+1+1+1=3+d.dg.data.size
  omega
theorem size_number {d:GDec} (h:decSane d=true) (h0:d.dg.size≠0) (u:List UInt8):numberG ((if d.neg then turnG (sizeG d) else sizeG d)++u) d.neg=some (d,u):=by
  obtain ⟨hd,-,-⟩:=sane_size h h0
  have hs:(if d.neg then turnG ((if d.neg then turnG (sizeG d) else sizeG d)++u) else ((if d.neg then turnG (sizeG d) else sizeG d)++u))=sizeG d++(if d.neg then turnG u else u):=by
    cases d.neg
    · rfl
    · show turnG (turnG (sizeG d)++u)=sizeG d++turnG u
      have:turnG (turnG (sizeG d)++u)=turnG (turnG (sizeG d))++turnG u:=List.map_append
      rw [this,turnG_turn]
  unfold numberG
  rw [hs]
  unfold sizeG
  rw [List.cons_append,List.cons_append,List.append_assoc]
  dsimp only
  rw [show ([0]++(if d.neg then turnG u else u))=0::(if d.neg then turnG u else u) from rfl,zsplit_of _ _ (fun c hc=>by
    obtain ⟨x,hx,rfl⟩:=List.mem_map.1 hc
    exact (fig_iff' x (hd x hx)).1)]
  dsimp only
  rw [dec_of_size h h0,if_neg,List.length_map]
  · congr 2
    have hl:(if d.neg then turnG (sizeG d) else sizeG d).length=3+d.dg.data.toList.length:=by
      have:=size_len d
      split
      · unfold turnG;rw [List.length_map,this];rfl
      · rw [this];rfl
    show List.drop (3+d.dg.data.toList.length) _=u
    rw [<-hl]
    exact List.drop_left
  · rintro (h1 | h1 | h1)
    · rw [List.map_eq_nil_iff] at h1
      exact h0 (by show d.dg.data.size=0;rw [<-Array.length_toList,h1];rfl)
    · rw [any_false_of fun c hc=>by
        obtain ⟨x,hx,rfl⟩:=List.mem_map.1 hc
        exact (fig_iff' x (hd x hx)).2] at h1
      cases h1
    · rw [h] at h1;cases h1
theorem first_put {p:GPart} (h:Rt p) (u:List UInt8):firstG (putG p++u)=some (p,u):=by
  cases h with
  | null=>rfl
  | bool b=>cases b<;>rfl
  | num n h =>
    unfold putG
    dsimp only
    rw [if_neg (by decide),if_neg (by decide),if_pos rfl]
    by_cases h0:n.dg.size=0
    · rw [if_pos h0,sane_zero h h0]
      rfl
    rw [if_neg h0]
    have hn:=size_number h h0 u
    cases hneg:n.neg with
    | true =>
      rw [hneg] at hn
      simp only [if_true] at hn ⊢
      rw [List.cons_append]
      unfold firstG
      dsimp only
      rw [if_neg (by decide),if_neg (by decide),if_neg (by decide),if_pos (.inl rfl),decide_eq_true rfl,hn]
      rfl
    | false =>
      rw [hneg] at hn
      simp only [Bool.false_eq_true,if_false] at hn ⊢
      rw [List.cons_append]
      unfold firstG
      dsimp only
      rw [if_neg (by decide),if_neg (by decide),if_neg (by decide),if_pos (.inr rfl),show decide ((50:UInt8)=48)=false from rfl,hn]
      rfl
  | str s =>
    unfold putG
    dsimp only
    rw [if_neg (by decide),if_neg (by decide),if_neg (by decide),if_pos rfl,List.cons_append,List.append_assoc]
    unfold firstG
    dsimp only
    rw [if_neg (by decide),if_neg (by decide),if_neg (by decide),if_neg (by decide),if_pos rfl,show [0,0]++u=0::0::u from rfl,esc_text]
    rfl
  | whole i h1 h2 =>
    show firstG (80::byteOf (i / 16777216)::byteOf (i / 65536)::byteOf (i / 256)::byteOf i::u)=_
    unfold firstG
    dsimp only
    rw [if_neg (by decide),if_neg (by decide),if_neg (by decide),if_neg (by decide),if_neg (by decide),if_pos rfl]
    rw [byteOf_nat,byteOf_nat,byteOf_nat,byteOf_nat]
    congr 3
    omega
theorem put_ne {p:GPart} (h:Rt p):putG p≠[]:=by
  intro e
  have h1:=first_put h []
  rw [e] at h1
  cases h1
theorem put_inj {p q:GPart} (hp:Rt p) (hq:Rt q) {u v:List UInt8} (h:putG p++u=putG q++v):p=q/\u=v:=by
  have h1:=first_put hp u
  rw [h,first_put hq v] at h1
  injection h1 with h1
  injection h1 with h1 h2
  exact ⟨h1.symm,h2.symm⟩
theorem all_rt {l:List GPart}:l.all rightG=true↔∀ p∈l,Rt p:=by
  rw [List.all_eq_true]
  exact ⟨fun h p hp=>(right_iff p).1 (h p hp),fun h p hp=>(right_iff p).2 (h p hp)⟩
theorem flat_prefix:∀ {a b:List GPart},(∀ p∈a,Rt p)->(∀ p∈b,Rt p)->((a.flatMap putG <+: b.flatMap putG)↔a <+: b)
  | [],b,_,_=>by simp
  | p::a,[],ha,_=>by
    constructor
    · rintro ⟨t,h⟩
      rw [List.flatMap_cons,List.flatMap_nil,List.append_assoc] at h
      exact absurd (List.append_eq_nil_iff.1 h).1 (put_ne (ha p List.mem_cons_self))
    · rintro ⟨t,h⟩
      simp at h
  | p::a,q::b,ha,hb=>by
    have ih:=flat_prefix (a:=a) (b:=b) (fun x hx=>ha x (List.mem_cons_of_mem p hx)) (fun x hx=>hb x (List.mem_cons_of_mem q hx))
    rw [List.cons_prefix_cons,<-ih]
    constructor
    · rintro ⟨t,h⟩
      rw [List.flatMap_cons,List.flatMap_cons,List.append_assoc] at h
      obtain ⟨h1,h2⟩:=put_inj (ha p List.mem_cons_self) (hb q List.mem_cons_self) h
      exact ⟨h1,t,h2⟩
    · rintro ⟨rfl,t,h⟩
      exact ⟨t,by rw [List.flatMap_cons,List.flatMap_cons,List.append_assoc,h]⟩
def stripF:List UInt8->List UInt8
  | []=>[]
  | c::l=>if c=255 then stripF l else c::l
def afterG (b:List UInt8):List UInt8 :=
  match stripF b.reverse with
  | []=>[]
  | c::l=>(l.reverse)++[c+1]
def cmpU:List UInt8->List UInt8->Int
  | [],[]=>0
  | [],_::_ => -1
  | _::_,[]=>1
  | a::l,b::m=>if a<b then -1 else if b<a then 1 else cmpU l m
theorem cmp_front:∀ (p a b:List UInt8),cmpU (p++a) (p++b)=cmpU a b
  | [],a,b=>rfl
  | x::p,a,b=>by
    rw [List.cons_append,List.cons_append,cmpU,if_neg (UInt8.lt_irrefl x),if_neg (UInt8.lt_irrefl x),cmp_front p a b]
end Go.Sy
/- Arrays that are made; the less of two numbers. No program in sight. -/
namespace Go.Sy
section
variable {cf:Cf} {σ:Snap} {hp:HP} {A:List AE} {β:Nat->Addr} {w:World}
theorem StW.undrew {o:Obj} (h:StW cf σ hp A β (w.drew.alloc o)):StW cf σ hp A β (w.alloc o) :=
  ⟨h.os,h.tape,h.output,h.size,h.fr,h.sealed,h.le,h.grow,h.loc,h.ro,h.inj,h.arr,h.arrd,h.arrh⟩
end
section
variable {cf:Cf} {Q:Exit->Act->World->Prop} {σ:Snap} {env:Env} {hp:HP} {A:List AE} {nh:Nat} {it:Item} {rest:List Item}
def mmOf:Op->Option (Bool×Operand×Operand)
  | .call c =>
    match c.callee,c.args.toList with
    | .builtin .min,[x,y]=>some (true,x,y)
    | .builtin .max,[x,y]=>some (false,x,y)
    | _,_=>none
  | _=>none
theorem mmOf_run {o:Oper} {b:Bool} {x y:Operand} (h:mmOf o.op=some (b,x,y)) {P:Program} {a:Act} {w:World} {k:IntKind} {m n:Int} (hx:a.eval x=.int k m) (hy:a.eval y=.int k n) :
    (execOp a.eval o).run P w=.ok (.value (.int k (if b then (if n<m then n else m) else (if n > m then n else m)))) w:=by
  unfold mmOf at h
  split at h
  · rename_i c hop
    have e1:∀ l,c.args.toList=l->c.args=l.toArray:=fun l hl=>by
      cases hq:c.args with
      | mk l'=>rw [hq] at hl;simp only at hl;rw [hl]
    split at h
    · rename_i x' y' hcal hargs
      injection h with h
      simp only [Prod.mk.injEq] at h
      obtain ⟨rfl,rfl,rfl⟩:=h
      simp only [execOp,hop,resolve,hcal,e1 _ hargs,invoke,builtin,Sem.run_bind,Sem.run_pure,Result.andThen_ok,List.map_toArray,List.map_cons,List.map_nil,Builtin.min_,hx,hy,List.foldlM_cons,List.foldlM_nil,Builtin.min2]
      rfl
    · rename_i x' y' hcal hargs
      injection h with h
      simp only [Prod.mk.injEq] at h
      obtain ⟨rfl,rfl,rfl⟩:=h
      simp only [execOp,hop,resolve,hcal,e1 _ hargs,invoke,builtin,Sem.run_bind,Sem.run_pure,Result.andThen_ok,List.map_toArray,List.map_cons,List.map_nil,Builtin.max_,hx,hy,List.foldlM_cons,List.foldlM_nil,Builtin.max2]
      rfl
    · cases h
  · cases h
theorem oj_mm {d:Nat} {b:Bool} {x y:Operand} {m n:Int} (hop:mmOf it.o.op=some (b,x,y)) (hd:it.o.dst=some d) (hg:guardVal it.guard env=some true) (hN:Nat.blt d cf.N=true) (htag:(match it.tag with | .pure=>false | _=>true)=true)
    (hx:evalO env x=some (.a (.v (.int .i64 m)))) (hy:evalO env y=some (.a (.v (.int .i64 n))))
    (k:OJ cf rest Q σ ((d,.a (.v (.int .i64 (if b then (if n<m then n else m) else (if n > m then n else m)))))::env) hp A nh):OJ cf (it::rest) Q σ env hp A nh :=
  oj_valW (.a (.v (.int .i64 (if b then (if n<m then n else m) else (if n > m then n else m))))) hd hg hN trivial htag
    (fun _ _ β ha _ _=>mmOf_run hop (evalO_eval (β:=β) ha hx) (evalO_eval (β:=β) ha hy)) k
end
end Go.Sy
/- Arrays that are made, of elements of several cells. No program in sight. -/
namespace Go.Sy
theorem madeCells_rep (z:List Value) (k:Nat):(madeCells z.toArray (k*z.length)).toList=(List.replicate k z).flatten:=by
  have hall:∀ r∈List.replicate k z,r.length=z.length:=fun r hr=>by rw [List.eq_of_mem_replicate hr]
  have hl:(List.replicate k z).flatten.length=k*z.length:=by rw [flat_len hall,List.length_replicate]
  have hl2:(madeCells z.toArray (k*z.length)).toList.length=k*z.length:=by rw [Array.length_toList,size_madeCells]
  apply List.ext_getElem?
  intro i
  by_cases hi:i<k*z.length
  · have hz:0<z.length:=by
      rcases Nat.eq_zero_or_pos z.length with h | h
      · rw [h,Nat.mul_zero] at hi;omega
      · exact h
    have hm:i / z.length<k:=Nat.div_lt_of_lt_mul (by rw [Nat.mul_comm];exact hi)
    have hj:i % z.length<z.length:=Nat.mod_lt _ hz
    have:=flat_get hall (m:=i / z.length) (j:=i % z.length) (r:=z) (c:=z[i % z.length]) (by rw [List.getElem?_replicate,if_pos hm]) (List.getElem?_eq_getElem hj)
    rw [Nat.mul_comm,Nat.div_add_mod] at this
    rw [this]
    unfold madeCells
    rw [Array.getElem?_toList,Array.getElem?_map,Array.getElem?_range,if_pos hi]
    simp [hj]
  · rw [List.getElem?_eq_none (by omega),List.getElem?_eq_none (by omega)]
section
variable {cf:Cf} {Q:Exit->Act->World->Prop} {σ:Snap} {env:Env} {hp:HP} {A:List AE} {nh:Nat} {it:Item} {rest:List Item}
theorem oj_makeSliceN {d:Nat} {t e n:Nat} {x y:Operand} {T:List (Nat×TI)} (hT:TTok cf.P T) {ti te:TI} (xs:List Value) (hop:it.o.op=.makeSlice t x y) (hd:it.o.dst=some d) (hg:guardVal it.guard env=some true) (hN:Nat.blt d cf.N=true)
    (htg:canSink it.tag=true) (hx:evalO env x=some (.a (.v (.int .i64 n)))) (hy:evalO env y=some (.a (.v (.int .i64 n)))) (ht:tget T t=some ti) (hkt:ti.kind=.slice e) (hte:tget T e=some te)
    (hby:n*te.bytes<=281474976710656) (hmax:n<=1000000000) (hxs:(madeCells (te.zero.map AT.val).toArray (n*te.size)).toList=xs)
    (hk:∀ g,OJ cf rest Q σ ((d,.a (.v (.slice (some ⟨g,0,none⟩) n n)))::env) hp (A++[⟨some ⟨g,0,none⟩,n,n,e,te.size,xs⟩]) nh):OJ cf (it::rest) Q σ env hp A nh:=by
  refine oj_step hd hg hN htg fun hb a β ha w hw=>?_
  obtain ⟨i1,d1,z1,hs1⟩:=tiOf_spec (hT _ _ ht)
  obtain ⟨i3,d3,z3,hs3⟩:=tiOf_spec (hT _ _ hte)
  have hut:cf.P.underlying t=some (.slice e):=by
    have h1:=hs1.kind
    rw [hkt] at h1
    have h2:=hs1.und
    cases d1<;>first
      | (simp only [kindD,TK.slice.injEq] at h1;subst h1;exact h2)
      | (simp only [kindD] at h1;cases h1)
  have hz3:z3.cells=(te.zero.map AT.val).toArray:=(zero_den hs3 β0).symm
  have hxl:xs.length=n*te.size:=by rw [<-hxs,Array.length_toList,size_madeCells]
  have hxe:a.eval x=.int .i64 n:=evalO_eval ha hx
  have hye:a.eval y=.int .i64 n:=evalO_eval ha hy
  have hrun:=run_make (P:=cf.P) w t e i3 z3 hut hs3.info hs3.zero .i64 .i64 n n (by omega) (Int.le_refl _) (by rw [hs3.bytes];rw [<-Int.natCast_mul,Nat.mul_comm];omega) (by omega)
  rw [hs3.size,Int.toNat_natCast,hz3] at hrun
  have hm:=((StW.nilArr e te.size).1 hw).moveArr (i:=A.length) (E:=⟨none,0,0,e,te.size,[]⟩) (E':=⟨some ⟨w.heap.size,0,none⟩,n,n,e,te.size,xs⟩) (cur':=madeCells (te.zero.map AT.val).toArray (n*te.size)) (by simp) rfl (Nat.le_refl _) (by simp only [maxLen];omega) (by dsimp only;exact hxl) (by rw [size_madeCells]) (by dsimp only;rw [hxs,<-hxl,List.take_length])
  have hset:(A++[(⟨none,0,0,e,te.size,[]⟩:AE)]).set A.length ⟨some ⟨w.heap.size,0,none⟩,n,n,e,te.size,xs⟩=A++[⟨some ⟨w.heap.size,0,none⟩,n,n,e,te.size,xs⟩]:=by
    rw [List.set_append_right _ _ (Nat.le_refl _),Nat.sub_self]
    rfl
  rw [hset] at hm
  refine ⟨.a (.v (.slice (some ⟨w.heap.size,0,none⟩) n n)),σ,hp,_,nh,_,β,?_,ha,hb.put (x:=.a (.v (.slice (some ⟨w.heap.size,0,none⟩) n n))) trivial d,hm.undrew,hk w.heap.size⟩
  simp only [execOp,hop,hxe,hye,Sem.run_bind,hrun,Result.andThen_ok,Sem.run_pure]
  rfl
end
section
variable {cf:Cf} {σ:Snap} {hp:HP} {A:List AE} {β:Nat->Addr} {w:World}
end
section
variable {cf:Cf} {Q:Exit->Act->World->Prop} {σ:Snap} {env:Env} {hp:HP} {A:List AE} {nh:Nat}
end
end Go.Sy
/- More rules: room made by 'append(nil, make(..)..)'; values read in a wider class. No program in sight. -/
namespace Go.Sy
section
variable {cf:Cf} {Q:Exit->Act->World->Prop} {σ:Snap} {env:Env} {hp:HP} {A:List AE} {nh:Nat} {it:Item} {rest:List Item}
theorem sealed_cell {σ:Snap} {w:World} (h:Sealed σ w) {a:Addr} {v:Value} (hv:σ.cell a=some v):w.cell? a=some v:=by
  unfold Snap.cell at hv
  unfold World.cell?
  split at hv
  · rename_i c e f hc
    rw [h _ _ hc]
    exact hv
  · cases hv
variable {W:(Nat->Addr)->World->Prop}
theorem StW.dropA {β:Nat->Addr} {w:World} (h:StW cf σ hp A β w):StW cf σ hp [] β w :=
  { h with arr:=fun i E hi=>(by simp at hi),arrd:=fun i j E F hi=>(by simp at hi),arrh:=fun i j E e cs hi=>(by simp at hi) }
end
end Go.Sy
/- Regions whose allocations and calls come in several orders, calls that are handed arrays among them. No program in sight. -/
namespace Go.Sy
section
variable {cf:Cf} {σ σb:Snap} {hp hpb:HP} {A:List AE} {β:Nat->Addr} {w0 x:World}
theorem StW.base (h0:StW cf σb hpb [] β w0) (hle:σb.le σ) (hs:subH hpb hp) (h:StW cf σ hp A β x):StW cf σb hpb [] β x:=by
  refine ⟨h.os,h.tape,h.output,h.size,h.fr,fun b o hb=>h.sealed b o (hle b o hb),h0.le,h0.grow,fun i e cs hi=>?_,h0.ro,fun i j e1 e2 l1 l2 hi hj heq=>h.inj i j e1 e2 l1 l2 (hs _ _ hi) (hs _ _ hj) heq,
    fun i E hi=>(by simp at hi),fun i j E F hi=>(by simp at hi),fun i j E e cs hi=>(by simp at hi)⟩
  obtain ⟨q1,q2,q3,q4⟩:=h.loc i e cs (hs _ _ hi)
  exact ⟨q1,q2,Snap.none_of_le hle q3,q4⟩
theorem StW.reβ {β':Nat->Addr} {nb:Nat} (hb:Bd [] hpb nb) (hβ:∀ i,i<nb->β' i=β i) (h:StW cf σb hpb [] β x):StW cf σb hpb [] β' x:=by
  refine ⟨h.os,h.tape,h.output,h.size,h.fr,h.sealed,h.le,h.grow,fun i e cs hi=>?_,fun i cs hi j c hc=>?_,fun i j e1 e2 l1 l2 hi hj heq=>?_,fun i E hi=>(by simp at hi),fun i j E F hi=>(by simp at hi),fun i j E e cs hi=>(by simp at hi)⟩
  · obtain ⟨hlt,hl⟩:=hb.hp i _ cs hi
    have:=h.loc i e cs hi
    rw [hβ i hlt,AT.denL_congr hβ hl]
    exact this
  · obtain ⟨hlt,hl⟩:=hb.hp i _ cs hi
    have:=h.ro i cs hi j c hc
    rw [hβ i hlt,AT.den_congr hβ (hl c (List.mem_of_getElem? hc))]
    exact this
  · have h1:=(hb.hp i _ l1 hi).1
    have h2:=(hb.hp j _ l2 hj).1
    exact h.inj i j e1 e2 l1 l2 hi hj (by rw [<-hβ i h1,<-hβ j h2];exact heq)
end
structure GB (cf:Cf) (ops:Array Oper) (U bef:List Nat) (σb:Snap) (hpb:HP) (nb n:Nat) (listed:Array Bool) (Q:Exit->Act->World->Prop) (σ:Snap) (env:Env) (hp:HP) (A:List AE) (nh:Nat):Prop where
  run:Region.noSelect ops=true->Bd env hp nh->Bd [] hpb nb->nb<=nh->σb.le σ->subH hpb hp->∀ a β,StA cf env β a->(∃ w,StW cf σ hp A β w)->(∃ w,StW cf σb hpb [] β w)->Closed ops listed ->
    wpAnyC cf.P ops U Q n listed a (fun w=>StW cf σb hpb [] β w) (fun w=>StW cf σ hp A β w)
structure GBK (cf:Cf) (ops:Array Oper) (U bef:List Nat) (σb:Snap) (hpb:HP) (nb n:Nat) (listed:Array Bool) (j:Nat) (Q:Exit->Act->World->Prop) (σ:Snap) (env:Env) (hp:HP) (A:List AE) (nh:Nat):Prop where
  run:Region.noSelect ops=true->Bd env hp nh->Bd [] hpb nb->nb<=nh->σb.le σ->subH hpb hp->∀ a β,StA cf env β a->(∃ w,StW cf σ hp A β w)->(∃ w,StW cf σb hpb [] β w)->Closed ops listed->j∈Region.ready .any ops listed ->
    stepC cf.P ops U Q j (wpAnyC cf.P ops U Q n (listed.setIfInBounds j true)) a (fun w=>StW cf σb hpb [] β w) (fun w=>StW cf σ hp A β w)
section
variable {cf:Cf} {Q:Exit->Act->World->Prop} {σ σb:Snap} {env:Env} {hp hpb:HP} {A:List AE} {nh nb:Nat} {ops:Array Oper} {U bef:List Nat} {n:Nat} {listed:Array Bool}
theorem cj_drawB {id:Nat} (m:Nat) (U:List Nat) (hpb:HP) (hm:cf.P.follows .mixedOrders=true) (hs:Region.noSelect ops=true) (hn:ops.size=m) (hsub:subH hpb hp)
    (h:GB cf ops U [] σ hpb nh m (Array.replicate m false) Q σ env hp A nh) (hd:okRd cf.rd ops=true:=by rfl):CJ cf (.region id ops true) Q σ env hp A nh:=by
  subst hn
  refine ⟨fun hb a β w ha hw=>wpIn_region_any hm ?_⟩
  have hc:Closed ops (Array.replicate ops.size false):=⟨by simp,fun j oj _ hl=>by
    exfalso
    rcases Nat.lt_or_ge j ops.size with h | h
    · simp [h] at hl
    · simp [h] at hl⟩
  have hbb:Bd [] hpb nh:=⟨fun i x h=>(by cases h),fun i k cs hi=>hb.hp i k cs (hsub _ _ hi)⟩
  have hb0:StW cf σ hpb [] β w:=by
    have:=hw.dropA
    exact this.sub hsub
  exact wpAnyIn_of_C (okRd_mem hd) _ _ _ _ _ _ hw.drew (h.run hs hb hbb (Nat.le_refl _) (Snap.le_refl _) hsub a β ha ⟨_,hw⟩ ⟨_,hb0⟩ hc)
theorem gb_val {i d:Nat} {o:Oper} {T:List (Nat×TI)} (hT:TTok cf.P T) {x:SV} (hi:ops[i]?=some o) (hr:(Region.ready .any ops listed).contains i=true) (hf:Region.free .any ops listed i=true)
    (hk:(U.contains i&&isLoad o.op)=false) (hd:o.dst=some d) (hg:guardVal (slotOf ops o) env=some true) (hN:Nat.blt d cf.N=true) (h:stepOp T o.op env hpb nh=some (.val x))
    (k:GB cf ops U (bef++[i]) σb hpb nb n (listed.setIfInBounds i true) Q σ ((d,x)::env) hp A nh):GB cf ops U bef σb hpb nb (n+1) listed Q σ env hp A nh:=by
  refine ⟨fun hs hb hbb hnb hle hsub a β ha hex hex0 hc=>?_⟩
  obtain ⟨w0,hw0⟩:=id hex0
  have hN':d<cf.N:=by simpa [Nat.blt_eq] using hN
  have hb':Bd env hpb nh:=hb.sub (fun i x h=>h) hsub
  have hx:x.lt nh:=(step_ok (o:=o) hT ha hb' h).1
  have hr':i∈Region.ready .any ops listed:=by simpa using hr
  have hw:Region.wanted o (yielded ops a.tmps)=true:=by rw [<-wantedS_slotOf];exact guardVal_ok ha hg
  have hrest:=k.run hs (hb.put hx d) hbb hnb hle hsub _ β (ha.put hN' x) hex hex0 (hc.set hr')
  refine wpAnyC_first hi (Region.noSelect_spec hs) n listed a _ _ hc (fun y hy=>hw0.base hle hsub hy) (Region.free_spec hi hf) hr' ⟨.inl ⟨hw,fun w hE0=>.inl ?_⟩,fun hu=>.inl ⟨hw,fun w _=>.inl ?_⟩⟩ (by rw [hd];exact hrest)
  · exact (step_ok (o:=o) hT ha hb' h).2 w fun _=>⟨σb,[],hE0⟩
  · refine (step_ok (o:=o) hT ha hb' h).2 w fun hl=>?_
    rw [hl,Bool.and_true] at hk
    rw [List.contains_iff_mem.2 hu] at hk
    cases hk
theorem gb_fork (js:List Nat) (hr:(Region.ready .any ops listed == js)=true) (hne:js.isEmpty=false) (k:∀ j,j∈js->GBK cf ops U bef σb hpb nb n listed j Q σ env hp A nh):GB cf ops U bef σb hpb nb (n+1) listed Q σ env hp A nh:=by
  refine ⟨fun hs hb hbb hnb hle hsub a β ha hex hex0 hc=>?_⟩
  have hr':=eq_of_beq hr
  refine ⟨fun h0=>?_,fun j hj=>(k j (by rw [<-hr'];exact hj)).run hs hb hbb hnb hle hsub a β ha hex hex0 hc hj⟩
  rw [hr'] at h0
  subst h0
  cases hne
theorem gb_one {i:Nat} (hr:(Region.ready .any ops listed == [i])=true) (k:GBK cf ops U bef σb hpb nb n listed i Q σ env hp A nh):GB cf ops U bef σb hpb nb (n+1) listed Q σ env hp A nh :=
  gb_fork [i] hr rfl fun j hj=>by rw [List.mem_singleton] at hj;subst hj;exact k
theorem gb_new {j d:Nat} {o:Oper} {T:List (Nat×TI)} (hT:TTok cf.P T) {e:TypeId} {cs:List AT} {x:AT} (hj:ops[j]?=some o) (h:stepOp T o.op env hp nh=some (.new e cs x)) (hd:o.dst=some d) (hg:guardVal (slotOf ops o) env=some true)
    (hN:Nat.blt d cf.N=true) (k:GB cf ops U (bef++[j]) σb hpb nb n (listed.setIfInBounds j true) Q σ ((d,.a x)::env) ((nh,.loc e,cs)::hp) A (nh+1)):GBK cf ops U bef σb hpb nb n listed j Q σ env hp A nh:=by
  refine ⟨fun hs hb hbb hnb hle hsub a β ha hex hex0 hcl hr=>?_⟩
  obtain ⟨w0,hw0⟩:=id hex0
  have hN':d<cf.N:=by simpa [Nat.blt_eq] using hN
  have hwant:Region.wanted o (yielded ops a.tmps)=true:=by rw [<-wantedS_slotOf];exact guardVal_ok ha hg
  obtain ⟨hcs,hx,hrun⟩:=step_ok (o:=o) hT ha hb h
  have hxl:(SV.a x).lt (nh+1):=by
    rcases hx with rfl | ⟨n,rfl⟩<;>exact Nat.lt_succ_self nh
  unfold stepC
  simp only [hj]
  rw [if_pos hwant]
  intro w hw
  unfold Oper.wq
  rw [hrun w]
  have hw':=hw.alloc (e:=e) hb hcs
  have hβ:=upd_old β nh w
  have hβb:∀ i,i<nb->upd β nh w i=β i:=fun i hi=>hβ i (by omega)
  have hβb':∀ i,i<nb->β i=upd β nh w i:=fun i hi=>(hβb i hi).symm
  have hsub':subH hpb ((nh,HK.loc e,cs)::hp):=by
    intro i y hy
    have hlt:=(hb.hp i y.1 y.2 (hsub i y hy)).1
    rw [HP.get_cons,if_neg (by omega)]
    exact hsub i y hy
  have hw0':=hw0.reβ hbb hβb
  refine ⟨_,_,hw',fun x hx=>hw0'.base hle hsub' hx,.inl fun _ h=>h.reβ hbb hβb',?_⟩
  rw [hd]
  exact k.run hs ((hb.mono (Nat.le_succ nh)).row (Nat.lt_succ_self nh) (fun c hc=>AT.lt_mono (Nat.le_succ nh) (hcs c hc)) |>.put hxl d) hbb (by omega) hle hsub' _ (upd β nh w) ((ha.congr hb hβ).put hN' (.a x)) ⟨_,hw'⟩ ⟨_,hw0'⟩ (hcl.set hr)
theorem gb_order (l:List (Nat×Tag)) (hl:(l.all fun p=>decide (p.1<ops.size))=true) (hq:noQuiet (itemsOf ops l)=true) (ho:orderFrom ops U bef l listed=true) (h:OJ cf (itemsOf ops l) Q σ env hp A nh) :
    GB cf ops U bef σb hpb nb l.length listed Q σ env hp A nh:=by
  refine ⟨fun hs hb hbb hnb hle hsub a β ha hex hex0 hc=>?_⟩
  obtain ⟨w0,hw0⟩:=hex0
  have:=run_wider (fun x hx=>hw0.base hle hsub hx) _ _ a hq (h.run hb a β ha hex)
  exact run_order hs l bef listed a _ _ hc (fun x hx=>hw0.base hle hsub hx) (fun p hp=>by simpa using List.all_eq_true.1 hl p hp) ho this
end
end Go.Sy
/- Bytes as a text, and a text's bytes appended. No program in sight. -/
namespace Go.Sy
theorem tk_slice {P:Program} {t e:TypeId} {ti:TI} (h:tiOf P t=some ti) (hk:ti.kind=.slice e):P.underlying t=some (.slice e):=by
  obtain ⟨i1,d1,z1,hs1⟩:=tiOf_spec h
  have h1:=hs1.kind
  rw [hk] at h1
  have h2:=hs1.und
  cases d1<;>first
    | (simp only [kindD,TK.slice.injEq] at h1;subst h1;exact h2)
    | (simp only [kindD] at h1;cases h1)
theorem tk_u8 {P:Program} {t:TypeId} {ti:TI} (h:tiOf P t=some ti) (hk:ti.kind=.int .u8):P.underlying t=some (.int .u8):=by
  obtain ⟨i1,d1,z1,hs1⟩:=tiOf_spec h
  have h1:=hs1.kind
  rw [hk] at h1
  have h2:=hs1.und
  cases d1<;>first
    | (simp only [kindD,TK.int.injEq] at h1;subst h1;exact h2)
    | (simp only [kindD] at h1;cases h1)
theorem tk_str {P:Program} {t:TypeId} {ti:TI} (h:tiOf P t=some ti) (hk:ti.kind=.str):P.underlying t=some .string:=by
  obtain ⟨i1,d1,z1,hs1⟩:=tiOf_spec h
  have h1:=hs1.kind
  rw [hk] at h1
  have h2:=hs1.und
  cases d1<;>first
    | exact h2
    | (simp only [kindD] at h1;cases h1)
def u8Rows (l:List UInt8):List (List AT):=l.map fun u=>[.v (.int .u8 u.toNat)]
def u8Xs (l:List UInt8):List Value:=l.map fun u=>.int .u8 u.toNat
def u8E (ao:Option Addr) (cap:Nat) (l:List UInt8):AE:=⟨ao,l.length,cap,5,1,u8Xs l⟩
theorem byteRows_u8 (s:ByteArray):byteRows s=u8Rows s.data.toList:=rfl
theorem u8Rows_len (l:List UInt8):(u8Rows l).length=l.length:=by simp [u8Rows]
theorem u8Xs_rows (l:List UInt8):u8Xs l=(u8Rows l).flatten.map AT.val:=by
  induction l with
  | nil=>rfl
  | cons u l ih =>
    show _::u8Xs l=_
    rw [ih]
    rfl
theorem u8Xs_append (a b:List UInt8):u8Xs (a++b)=u8Xs a++u8Xs b:=by simp [u8Xs]
theorem u8Rows_all (l:List UInt8):∀ r∈u8Rows l,r.length=1/\(∀ c∈r,c.lt 0)/\r.all AT.one=true:=by
  intro r hr
  obtain ⟨u,_,rfl⟩:=List.mem_map.1 hr
  exact ⟨rfl,fun c hc=>by rw [List.mem_singleton] at hc;subst hc;trivial,rfl⟩
theorem u8Rows_get {l:List UInt8} {i:Nat} {u:UInt8} (h:l[i]?=some u):(u8Rows l)[i]?=some [.v (.int .u8 u.toNat)]:=by unfold u8Rows;rw [List.getElem?_map,h];rfl
theorem u8Xs_get {l:List UInt8} {i:Nat} {u:UInt8} (h:l[i]?=some u):(u8Xs l)[i]?=some (.int .u8 u.toNat):=by unfold u8Xs;rw [List.getElem?_map,h];rfl
theorem u8_sealed {σ:Snap} {ao:Option Addr} {cap:Nat} {l:List UInt8} (hS:ArrSealed σ (u8E ao cap l)) (hc:l.length<=cap):SlAt σ ao l.length cap 1 (u8Rows l) :=
  hS.sl (u8Xs_rows l) (fun r hr=>⟨(u8Rows_all l r hr).1,(u8Rows_all l r hr).2.1⟩) (u8Rows_len l) rfl hc
section
variable {cf:Cf} {Q:Exit->Act->World->Prop} {σ:Snap} {env:Env} {hp:HP} {A:List AE} {nh:Nat} {it:Item} {rest:List Item}
theorem oj_strOf {d n cap:Nat} {x:Operand} {s t e:TypeId} {T:List (Nat×TI)} (hT:TTok cf.P T) {ts ti te:TI} {ao:Option Addr} {l:List UInt8} (hop:it.o.op=.convert s t x) (hd:it.o.dst=some d) (hg:guardVal it.guard env=some true)
    (hN:Nat.blt d cf.N=true) (htag:(match it.tag with | .pure=>false | _=>true)=true) (hx:evalO env x=some (.a (.v (.slice ao n cap)))) (hs:tget T s=some ts) (hks:ts.kind=.slice e) (hte:tget T e=some te) (hke:te.kind=.int .u8) (ht:tget T t=some ti) (hkt:ti.kind=.str)
    (H:SlAt σ ao n cap 1 (u8Rows l)) (k:OJ cf rest Q σ ((d,.a (.v (.string ⟨l.toArray⟩)))::env) hp A nh):OJ cf (it::rest) Q σ env hp A nh:=by
  refine oj_valW (.a (.v (.string ⟨l.toArray⟩))) hd hg hN trivial htag (fun _ a β ha w hw=>?_) k
  have us:=tk_slice (hT _ _ hs) hks
  have ue:=tk_u8 (hT _ _ hte) hke
  have ut:=tk_str (hT _ _ ht) hkt
  have hx':a.eval x=.slice ao n cap:=evalO_eval ha hx
  have hn:l.length=n:=by rw [<-H.len,u8Rows_len]
  have hrun:(convert s t (.slice ao n cap)).run cf.P w=.ok (.string ⟨l.toArray⟩) w:=by
    subst hn
    cases ao with
    | none =>
      have h0:l.length=0:=by
        rcases H.at_ with h | ⟨ad,h,_⟩
        · exact h
        · cases h
      have:l=[]:=List.eq_nil_of_length_eq_zero h0
      subst this
      exact Lib.run_convert_nil_bytes w s t e cap us ue ut
    | some ad =>
      refine run_convert_bytes_back w s t e ad cap l us ue ut fun j hj=>?_
      rcases H.at_ with h | ⟨ad',h,h2⟩
      · omega
      · injection h with h
        subst h
        have h3:=Snap.cell_sealed hw (h2 j _ 0 _ (u8Rows_get (List.getElem?_eq_getElem hj)) rfl)
        rw [Nat.mul_one,Nat.add_zero] at h3
        exact h3
  simp only [execOp,hop,hx',hrun,Sem.run_bind,Result.andThen_ok,Sem.run_pure]
  rfl
theorem oj_append_str {d:Nat} {s x:Operand} {t u e:Nat} {T:List (Nat×TI)} (hT:TTok cf.P T) {ti tu te:TI} (i:Nat) {E:AE} {ao:Option Addr} {n cap:Nat} {y:ByteArray}
    (hop:appendOf it.o.op=some (s,x,t,u)) (hd:it.o.dst=some d) (hg:guardVal it.guard env=some true) (hN:Nat.blt d cf.N=true) (htg:canSink it.tag=true)
    (hs:evalO env s=some (.a (.v (.slice ao n cap)))) (hx:evalO env x=some (.a (.v (.string y)))) (hA:A[i]?=some E) (hE:(E.ao,E.n,E.cap,E.e)=(ao,n,cap,e))
    (ht:tget T t=some ti) (hkt:ti.kind=.slice e) (hu:tget T u=some tu) (hku:slOrStr tu.kind=true) (hte:tget T e=some te) (hsz:E.sz=te.size) (hs1:te.size=1) (hzl:te.zero.length=te.size)
    (hmax:n+y.size<=9223372036854775807) (hby:(n+y.size)*te.bytes<=140737488355328)
    (hk:∀ ao' cap',n+y.size<=cap'->OJ cf rest Q σ ((d,.a (.v (.slice ao' (n+y.size) cap')))::env) hp (A.set i ⟨ao',n+y.size,cap',E.e,E.sz,E.xs++u8Xs y.data.toList⟩) nh):OJ cf (it::rest) Q σ env hp A nh:=by
  simp only [Prod.mk.injEq] at hE
  obtain ⟨rfl,rfl,rfl,rfl⟩:=hE
  refine oj_step hd hg hN htg fun hb a β ha w hw=>?_
  have hut:=tk_slice (hT _ _ ht) hkt
  obtain ⟨i2,d2,z2,hs2⟩:=tiOf_spec (hT _ _ hu)
  obtain ⟨i3,d3,z3,hs3⟩:=tiOf_spec (hT _ _ hte)
  have hz3:z3.cells.size=E.sz:=by
    have:=zero_den hs3 β
    rw [<-this,hsz]
    simp [hzl]
  have hxe:a.eval x=.string y:=evalO_eval ha hx
  have hse:a.eval s=.slice E.ao E.n E.cap:=evalO_eval ha hs
  have hnl:(u8Xs y.data.toList).length=y.size*E.sz:=by
    rw [hsz,hs1,Nat.mul_one]
    simp only [u8Xs,List.length_map,Array.length_toList]
    rfl
  obtain ⟨ao',cap',w',hrun,hw',hc'⟩:=hw.append hA (t:=t) (u:=u) (ty:=it.o.type) (x:=.string y) (m:=y.size) (news:=u8Xs y.data.toList) hut hs2.und (slOrStr_ok (by rw [hs2.kind];exact hku)) hs3.info hs3.zero
    (by rw [hs3.size,hsz]) hz3 (fun _=>rfl) (fun w'' _=>by
      have e1:(y.extract 0 y.size)=y:=ByteArray.extract_zero_size
      simp only [Builtin.firstCells,Sem.run_pure,e1]
      congr 1
      apply Array.ext'
      simp [u8Xs]) hnl
    (fun v hv=>by obtain ⟨c,_,rfl⟩:=List.mem_map.1 hv;rfl) (by simp only [maxLen];exact hmax) (by rw [hs3.bytes];exact hby)
  refine ⟨.a (.v (.slice ao' (E.n+y.size) cap')),σ,hp,_,nh,w',β,?_,ha,hb.put (x:=.a (.v (.slice ao' (E.n+y.size) cap'))) trivial d,hw',hk ao' cap' hc'⟩
  exact appendOf_run hop (by rw [hse,hxe];exact hrun)
end
theorem run_compl8 (c:UInt8) (w:World) (P:Program):(Op.unary .xor (.int .u8 (c.toNat:Int))).run P w=.ok (.int .u8 ((255 - c).toNat:Int)) w:=by
  have h:∀ n:Fin 256,IntKind.u8.wrap ((BitVec.ofInt 8 255 ^^^ BitVec.ofInt 8 (n.val:Int)).toNat:Int)=((255 - UInt8.ofNat n.val).toNat:Int):=by decide +kernel
  have h2:=h ⟨c.toNat,c.toNat_lt⟩
  have e:UInt8.ofNat c.toNat=c:=by simp
  rw [e] at h2
  show (Op.intBits .xor .u8 255 (c.toNat:Int)).run P w=_
  have h3:(Op.intBits .xor .u8 255 (c.toNat:Int)).run P w=.ok (.int .u8 (IntKind.u8.wrap ((BitVec.ofInt 8 255 ^^^ BitVec.ofInt 8 (c.toNat:Int)).toNat:Int))) w:=rfl
  rw [h3,h2]
section
variable {cf:Cf} {Q:Exit->Act->World->Prop} {σ:Snap} {env:Env} {hp:HP} {A:List AE} {nh:Nat} {it:Item} {rest:List Item}
theorem oj_compl8 {d:Nat} {x:Operand} {t:TypeId} {c:UInt8} (hop:it.o.op=.unOp .xor t x) (hd:it.o.dst=some d) (hg:guardVal it.guard env=some true) (hN:Nat.blt d cf.N=true)
    (hx:evalO env x=some (.a (.v (.int .u8 (c.toNat:Int))))) (hk:OJ cf rest Q σ ((d,.a (.v (.int .u8 ((255 - c).toNat:Int))))::env) hp A nh):OJ cf (it::rest) Q σ env hp A nh:=by
  refine oj_val (.a (.v (.int .u8 ((255 - c).toNat:Int)))) hd hg hN trivial (fun _ a β ha w=>?_) hk
  have h1:a.eval x=.int .u8 (c.toNat:Int):=evalO_eval ha hx
  simp only [execOp,hop,h1,run_compl8,Sem.run_bind,Sem.run_pure,Result.andThen_ok]
  rfl
end
section
variable {cf:Cf} {Q:Exit->Act->World->Prop} {σ σb:Snap} {env:Env} {hp hpb:HP} {A:List AE} {nh nb cnt:Nat} {ops:Array Oper} {U bef:List Nat} {listed:Array Bool}
theorem gb_step {j d:Nat} {o:Oper} (hj:ops[j]?=some o) (hd:o.dst=some d) (hg:guardVal (slotOf ops o) env=some true) (hN:Nat.blt d cf.N=true)
    (h:Bd env hp nh->∀ a β,StA cf env β a->∀ w,StW cf σ hp A β w->∃ (y:SV) (A':List AE) (w':World),(execOp a.eval o).run cf.P w=.ok (.value (y.den β)) w'/\y.lt 0/\StW cf σ hp A' β w'/\GB cf ops U (bef++[j]) σb hpb nb cnt (listed.setIfInBounds j true) Q σ ((d,y)::env) hp A' nh) :
    GBK cf ops U bef σb hpb nb cnt listed j Q σ env hp A nh:=by
  refine ⟨fun hs hb hbb hnb hle hsub a β ha hex hex0 hcl hr=>?_⟩
  obtain ⟨w0,hw0⟩:=id hex0
  have hN':d<cf.N:=by simpa [Nat.blt_eq] using hN
  have hwant:Region.wanted o (yielded ops a.tmps)=true:=by rw [<-wantedS_slotOf];exact guardVal_ok ha hg
  unfold stepC
  simp only [hj]
  rw [if_pos hwant]
  intro w hw
  obtain ⟨y,A',w',hrun,hy,hw',hk⟩:=h hb a β ha w hw
  unfold Oper.wq
  rw [hrun]
  refine ⟨_,_,hw',fun x hx=>hw0.base hle hsub hx,.inl fun _ h=>h,?_⟩
  rw [hd]
  exact hk.run hs (hb.put (SV.lt_mono (Nat.zero_le _) hy) d) hbb hnb hle hsub (a.put (some d) (y.den β)) β (ha.put hN' y) ⟨_,hw'⟩ ⟨w0,hw0⟩ (hcl.set hr)
theorem gb_append_lit {q d:Nat} {o:Oper} {s x:Operand} {t u e:Nat} {T:List (Nat×TI)} (hT:TTok cf.P T) {ti tu te:TI} (i:Nat) {E:AE} {ao:Option Addr} {n cap j m:Nat} {k:HK} {cs:List AT}
    (hj:ops[q]?=some o) (hop:appendOf o.op=some (s,x,t,u)) (hd:o.dst=some d) (hg:guardVal (slotOf ops o) env=some true) (hN:Nat.blt d cf.N=true)
    (hs:evalO env s=some (.a (.v (.slice ao n cap)))) (hx:evalO env x=some (.a (.sl j m))) (hrow:hp.get j=some (k,cs)) (hA:A[i]?=some E) (hE:(E.ao,E.n,E.cap,E.e)=(ao,n,cap,e))
    (ht:tget T t=some ti) (hkt:ti.kind=.slice e) (hu:tget T u=some tu) (hku:slOrStr tu.kind=true) (hte:tget T e=some te) (hsz:E.sz=te.size) (hzl:te.zero.length=te.size) (hcs:cs.length=m*te.size)
    (hclo:∀ c∈cs,c.lt 0) (hone:cs.all AT.one=true) (hmax:n+m<=9223372036854775807) (hby:(n+m)*te.bytes<=140737488355328)
    (hk:∀ ao' cap',n+m<=cap'->GB cf ops U (bef++[q]) σb hpb nb cnt (listed.setIfInBounds q true) Q σ ((d,.a (.v (.slice ao' (n+m) cap')))::env) hp (A.set i ⟨ao',n+m,cap',E.e,E.sz,E.xs++cs.map AT.val⟩) nh):GBK cf ops U bef σb hpb nb cnt listed q Q σ env hp A nh:=by
  simp only [Prod.mk.injEq] at hE
  obtain ⟨rfl,rfl,rfl,rfl⟩:=hE
  refine gb_step hj hd hg hN fun hb a β ha w hw=>?_
  obtain ⟨i1,d1,z1,hs1⟩:=tiOf_spec (hT _ _ ht)
  obtain ⟨i2,d2,z2,hs2⟩:=tiOf_spec (hT _ _ hu)
  obtain ⟨i3,d3,z3,hs3⟩:=tiOf_spec (hT _ _ hte)
  have hut:cf.P.underlying t=some (.slice E.e):=by
    have h1:=hs1.kind
    rw [hkt] at h1
    have h2:=hs1.und
    cases d1<;>first
      | (simp only [kindD,TK.slice.injEq] at h1;subst h1;exact h2)
      | (simp only [kindD] at h1;cases h1)
  have hz3:z3.cells.size=E.sz:=by
    have:=zero_den hs3 β
    rw [<-this,hsz]
    simp [hzl]
  have hcells:∀ j' v,(cs.map AT.val)[j']?=some v->w.cell? ((β j).add j')=some v:=by
    intro j' v hv
    rw [List.getElem?_map] at hv
    obtain ⟨c,hc,rfl⟩:=map_some hv
    rw [<-AT.den_val (hclo c (List.mem_of_getElem? hc)) β]
    exact hw.cell hrow hc
  have hnl:(cs.map AT.val).length=m*E.sz:=by rw [List.length_map,hcs,hsz]
  have hxe:a.eval x=.slice (some (β j)) m m:=evalO_eval ha hx
  have hse:a.eval s=.slice E.ao E.n E.cap:=evalO_eval ha hs
  obtain ⟨ao',cap',w',hrun,hw',hc'⟩:=hw.append hA (t:=t) (u:=u) (ty:=o.type) (x:=.slice (some (β j)) m m) (m:=m) (news:=cs.map AT.val) hut hs2.und (slOrStr_ok (by rw [hs2.kind];exact hku)) hs3.info hs3.zero
    (by rw [hs3.size,hsz]) hz3 (fun _=>rfl) (fun w'' hh=>run_firstCells_some (P:=cf.P) w'' E.sz m (β j) m m _ hnl fun j' v hv=>by
      have:=hcells j' v hv
      rw [World.cell?,hh];exact this) hnl
    (fun v hv=>by obtain ⟨c,hc,rfl⟩:=List.mem_map.1 hv;exact AT.one_den β0 (List.all_eq_true.1 hone c hc)) (by simp only [maxLen];exact hmax) (by rw [hs3.bytes];exact hby)
  refine ⟨.a (.v (.slice ao' (E.n+m) cap')),_,w',?_,trivial,hw',hk ao' cap' hc'⟩
  exact appendOf_run hop (by rw [hse,hxe];exact hrun)
end
end Go.Sy
namespace Go.Sy
open Go.Proofs
def paCells (p:GPart):List AT:=[.v (.int .i64 p.kd),.b p.b,.b p.n.neg,.v (.string p.n.dg),.v (.int .i64 p.n.ex),.v (.string p.s),.v (.int .i64 p.i)]
theorem paCells_lt (n:Nat) (p:GPart):∀ c∈paCells p,c.lt n:=by simp [paCells,AT.lt]
def paRows (l:List GPart):List (List AT):=l.map paCells
theorem paRows_get {l:List GPart} {i:Nat} {x:GPart} (h:l[i]?=some x):(paRows l)[i]?=some (paCells x):=by unfold paRows;rw [List.getElem?_map,h];rfl
theorem paRows_all (l:List GPart):∀ r∈paRows l,r.length=7/\(∀ c∈r,c.lt 0)/\r.all AT.one=true:=by
  intro r hr
  obtain ⟨x,_,rfl⟩:=List.mem_map.1 hr
  exact ⟨rfl,paCells_lt 0 x,rfl⟩
def paXs (l:List GPart):List Value:=(paRows l).flatten.map AT.val
theorem paXs_append (a b:List GPart):paXs (a++b)=paXs a++paXs b:=by simp [paXs,paRows]
def paVals (p:GPart):Array Value:=#[.int .i64 p.kd,.bool p.b,.bool p.n.neg,.string p.n.dg,.int .i64 p.n.ex,.string p.s,.int .i64 p.i]
theorem run_partB {P:Program} {w:World} {t:TypeId} {xs:Array Value} {o n:Nat} {d:TypeDesc} (hu:P.underlying t=some d) (hd:aggD d=true) (hn:P.cellsOf t=n):(part t xs o).run P w=.ok (.agg (xs.extract o (o+n))) w:=by
  simp only [part,Sem.run_bind,run_isAgg hu,hd,Result.andThen_ok,if_true,run_sizeB hn hu,Sem.run_pure]
structure PartT (t:Nat):Prop where
  und:Tryd.prog.underlying t=some (.struct (Tryd.prog.fieldsOf t))
  held:Tryd.prog.stoodInHeld t=false
  grd:Tryd.prog.eqGuardType Tryd.prog.depth t=false
  fs:fieldsAre (Tryd.prog.fieldsOf t).toList [(3,0),(4,1),(40,2),(9,5),(3,6)]=true
theorem und23c:Tryd.prog.cellsOf 40=3:=by kernel_rfl
theorem eqPart_ok {t:Nat} (ht:PartT t) (m:Nat) (a b:GPart) (w:World):(Op.equalIn (m+1+1+1) t (.agg (paVals a)) (.agg (paVals b))).run Tryd.prog w=.ok (decide (a=b)) w:=by
  rw [run_equalIn_agg w (m+1+1) t _ _ ht.und ht.held]
  have h:=ht.fs
  generalize (Tryd.prog.fieldsOf t).toList=fl at h
  obtain ⟨f0,fl,rfl,n0,t0,o0,h⟩:=fieldsAre_cons h
  obtain ⟨f1,fl,rfl,n1,t1,o1,h⟩:=fieldsAre_cons h
  obtain ⟨f2,fl,rfl,n2,t2,o2,h⟩:=fieldsAre_cons h
  obtain ⟨f3,fl,rfl,n3,t3,o3,h⟩:=fieldsAre_cons h
  obtain ⟨f4,fl,rfl,n4,t4,o4,h⟩:=fieldsAre_cons h
  cases fl with
  | cons _ _=>cases h
  | nil =>
    have ii:∀ (f:Field) (o:Nat) (r:GPart) (x:Int),f.type=3->f.offset=o->(paVals r)[o]?=some (.int .i64 x)->(part f.type (paVals r) f.offset).run Tryd.prog w=.ok (.int .i64 x) w:=fun f o r x ht ho hx=>run_part1 (by rw [ht];exact und3) rfl (by rw [ho];exact hx)
    have bb:∀ (f:Field) (o:Nat) (r:GPart) (x:Bool),f.type=4->f.offset=o->(paVals r)[o]?=some (.bool x)->(part f.type (paVals r) f.offset).run Tryd.prog w=.ok (.bool x) w:=fun f o r x ht ho hx=>run_part1 (by rw [ht];exact und4) rfl (by rw [ho];exact hx)
    have ss:∀ (f:Field) (o:Nat) (r:GPart) (x:ByteArray),f.type=9->f.offset=o->(paVals r)[o]?=some (.string x)->(part f.type (paVals r) f.offset).run Tryd.prog w=.ok (.string x) w:=fun f o r x ht ho hx=>run_part1 (by rw [ht];exact und9) rfl (by rw [ho];exact hx)
    have dd:∀ (r:GPart),(part f2.type (paVals r) f2.offset).run Tryd.prog w=.ok (.agg #[.bool r.n.neg,.string r.n.dg,.int .i64 r.n.ex]) w:=fun r=>by
      rw [run_partB (n:=3) (by rw [t2];exact und23) rfl (by rw [t2];exact und23c),o2]
      rfl
    rw [eqFields_cons (r:=a.kd == b.kd) n0 (ii f0 0 a _ t0 o0 rfl) (ii f0 0 b _ t0 o0 rfl) (run_equalIn_int w (m+1) f0.type .i64 .i64 a.kd b.kd (by rw [t0];exact und3))]
    rw [eqFields_cons (r:=a.b == b.b) n1 (bb f1 1 a _ t1 o1 rfl) (bb f1 1 b _ t1 o1 rfl) (run_equalIn_bool' w (m+1) f1.type a.b b.b (by rw [t1];exact und4))]
    rw [eqFields_cons (r:=decide (a.n=b.n)) n2 (dd a) (dd b) (by rw [t2];exact eqDec_ok m a.n b.n w)]
    rw [eqFields_cons (r:=decide (a.s=b.s)) n3 (ss f3 5 a _ t3 o3 rfl) (ss f3 5 b _ t3 o3 rfl) (run_eqStr (m+1) f3.type a.s b.s (by rw [t3];exact und9))]
    rw [eqFields_cons (r:=a.i == b.i) n4 (ii f4 6 a _ t4 o4 rfl) (ii f4 6 b _ t4 o4 rfl) (run_equalIn_int w (m+1) f4.type .i64 .i64 a.i b.i (by rw [t4];exact und3))]
    simp only [Op.eqFields,Sem.run_pure]
    have:(decide (a=b))=(a.kd == b.kd&&(a.b == b.b&&(decide (a.n=b.n)&&(decide (a.s=b.s)&&a.i == b.i)))):=by
      rw [Bool.eq_iff_iff]
      cases a;cases b
      simp
    rw [this]
    cases (a.kd == b.kd)<;>cases (a.b == b.b)<;>cases decide (a.n=b.n)<;>cases decide (a.s=b.s)<;>cases (a.i == b.i)<;>rfl
section
variable {cf:Cf} {Q:Exit->Act->World->Prop} {σ:Snap} {env:Env} {hp:HP} {A:List AE} {nh:Nat} {it:Item} {rest:List Item}
theorem oj_eqPart {t:Nat} (ht:PartT t) {d:Nat} {x y:Operand} {yt:TypeId} {ca cb:List AT} (a b:GPart) (hP:cf.P=Tryd.prog)
    (hop:it.o.op=.binOp .eql t x y yt) (hd:it.o.dst=some d) (hg:guardVal it.guard env=some true) (hN:Nat.blt d cf.N=true) (hx:evalO env x=some (.agg ca)) (hy:evalO env y=some (.agg cb))
    (hca:∀ β,ca.map (AT.den β)=(paCells a).map (AT.den β)) (hcb:∀ β,cb.map (AT.den β)=(paCells b).map (AT.den β))
    (hk:OJ cf rest Q σ ((d,.a (.b (decide (a=b))))::env) hp A nh):OJ cf (it::rest) Q σ env hp A nh:=by
  refine oj_val (.a (.b (decide (a=b)))) hd hg hN trivial (fun _ ac β ha w=>?_) hk
  have h1:ac.eval x=.agg (paVals a):=(evalO_eval ha hx).trans (by simp only [SV.den,hca];rfl)
  have h2:ac.eval y=.agg (paVals b):=(evalO_eval ha hy).trans (by simp only [SV.den,hcb];rfl)
  rw [hP]
  have hG:(eqGuard .eql t x y (.agg (paVals a)) (.agg (paVals b))).run Tryd.prog w=.ok () w:=run_eqGuard_agg w _ _ _ _ _ _ ht.grd
  have hE:(Op.equalIn 10000 t (.agg (paVals a)) (.agg (paVals b))).run Tryd.prog w=.ok (decide (a=b)) w:=eqPart_ok ht 9997 a b w
  have hB:(binOp .eql t (.agg (paVals a)) (.agg (paVals b))).run Tryd.prog w=.ok (.bool (decide (a=b))) w:=by
    rw [run_eql_struct,hE]
    rfl
  simp only [execOp,hop,h1,h2,Sem.run_bind,hG,hB,Result.andThen_ok,Sem.run_pure]
  rfl
theorem oj_nePart {t:Nat} (ht:PartT t) {d:Nat} {x y:Operand} {yt:TypeId} {ca cb:List AT} (a b:GPart) (hP:cf.P=Tryd.prog)
    (hop:it.o.op=.binOp .neq t x y yt) (hd:it.o.dst=some d) (hg:guardVal it.guard env=some true) (hN:Nat.blt d cf.N=true) (hx:evalO env x=some (.agg ca)) (hy:evalO env y=some (.agg cb))
    (hca:∀ β,ca.map (AT.den β)=(paCells a).map (AT.den β)) (hcb:∀ β,cb.map (AT.den β)=(paCells b).map (AT.den β))
    (hk:OJ cf rest Q σ ((d,.a (.b (!decide (a=b))))::env) hp A nh):OJ cf (it::rest) Q σ env hp A nh:=by
  refine oj_val (.a (.b (!decide (a=b)))) hd hg hN trivial (fun _ ac β ha w=>?_) hk
  have h1:ac.eval x=.agg (paVals a):=(evalO_eval ha hx).trans (by simp only [SV.den,hca];rfl)
  have h2:ac.eval y=.agg (paVals b):=(evalO_eval ha hy).trans (by simp only [SV.den,hcb];rfl)
  rw [hP]
  have hG:(eqGuard .neq t x y (.agg (paVals a)) (.agg (paVals b))).run Tryd.prog w=.ok () w:=run_eqGuard_agg w _ _ _ _ _ _ ht.grd
  have hE:(Op.equalIn 10000 t (.agg (paVals a)) (.agg (paVals b))).run Tryd.prog w=.ok (decide (a=b)) w:=eqPart_ok ht 9997 a b w
  have hB:(binOp .neq t (.agg (paVals a)) (.agg (paVals b))).run Tryd.prog w=.ok (.bool (!decide (a=b))) w:=by
    rw [run_neq_struct,hE]
    rfl
  simp only [execOp,hop,h1,h2,Sem.run_bind,hG,hB,Result.andThen_ok,Sem.run_pure]
  rfl
end
theorem partT49:PartT 49:=⟨by kernel_rfl,by kernel_rfl,by kernel_rfl,by kernel_rfl⟩
set_option maxRecDepth 100000 in
set_option maxHeartbeats 2000000 in
theorem right_c (σ:Snap) (p:GPart) (hd:p.n.dg.size<=mostLen):PlainS Tryd.prog 25 [.agg (paCells p)] σ (fun v=>v=.bool (rightG p)):=by
  obtain ⟨kd,b,n,s,i⟩:=p
  refine enter_p Tryd.func25 rfl rfl ⟨paCells_lt 0 _,trivial⟩ fun w=>?_
  (repeat (first | refine cj_seq ?_ | refine cjr TT rfl ?_ | refine oj_then ?_ | refine cj_block ?_))
  refine cj_if rfl (fun h=>?_) (fun h0=>?_)
  · have h:=of_decide_eq_true (show decide (kd=0)=true from h)
    (repeat (first | refine cj_seq ?_ | refine cjr TT rfl ?_ | refine cj_skip ?_ | refine nj_then ?_ | refine nj_block ?_))
    refine oj_eqPart partT49 ⟨0,b,n,s,i⟩ part0 rfl rfl rfl rfl rfl rfl rfl (fun _=>rfl) (fun _=>rfl) (oj_run TT rfl ?_)
    (repeat (first | refine oj_then ?_ | refine cj_ret ?_))
    refine nj_ret TT rfl fun β w' _ _=>?_
    subst h
    rfl
  have h0:=of_decide_eq_false (show decide (kd=0)=false from h0)
  (repeat (first | refine cj_seq ?_ | refine cjr TT rfl ?_ | refine oj_then ?_))
  refine cj_if rfl (fun h=>?_) (fun h1=>?_)
  · have h:=of_decide_eq_true (show decide (kd=1)=true from h)
    (repeat (first | refine cj_seq ?_ | refine cjr TT rfl ?_ | refine oj_nil ?_ | refine nj_then ?_ | refine nj_block ?_))
    refine oj_eqPart partT49 ⟨0,false,n,s,i⟩ part0 rfl rfl rfl rfl rfl rfl rfl (fun _=>rfl) (fun _=>rfl) (oj_run TT rfl ?_)
    (repeat (first | refine oj_then ?_ | refine cj_ret ?_))
    refine nj_ret TT rfl fun β w' _ _=>?_
    subst h
    rfl
  have h1:=of_decide_eq_false (show decide (kd=1)=false from h1)
  (repeat (first | refine cj_seq ?_ | refine cjr TT rfl ?_ | refine oj_then ?_))
  refine cj_if rfl (fun h=>?_) (fun h2=>?_)
  · have h:=of_decide_eq_true (show decide (kd=2)=true from h)
    (repeat (first | refine cj_seq ?_ | refine cjr TT rfl ?_ | refine oj_then ?_))
    refine oj_eqPart partT49 ⟨0,b,dec0,s,i⟩ part0 rfl rfl rfl rfl rfl rfl rfl (fun _=>rfl) (fun _=>rfl) (oj_run TT rfl ?_)
    refine oj_split 20 rfl (fun hq=>?_) (fun hq=>?_)
    · have hq:decide ((⟨0,b,dec0,s,i⟩:GPart)=part0)=true:=hq
      refine oj_run TT rfl ?_
      refine oj_callP rfl rfl rfl rfl rfl Tryd.call34 (by (repeat' (first | exact trivial | exact decCells_lt _ _ | constructor))) (decSane_c σ n hd) fun v hv=>⟨.a (.b (decSane n)),trivial,hv.symm,?_⟩
      refine oj_run TT rfl ?_
      (repeat (first | refine oj_then ?_ | refine cj_ret ?_ | refine nj_then_ret ?_ | refine nj_block_ret ?_))
      refine nj_ret TT rfl fun β w' _ _=>?_
      subst h
      show Value.bool (decSane n)=.bool (decide ((⟨0,b,dec0,s,i⟩:GPart)=part0)&&decSane n)
      rw [hq,Bool.true_and]
    · have hq:decide ((⟨0,b,dec0,s,i⟩:GPart)=part0)=false:=hq
      refine oj_run TT rfl ?_
      (repeat (first | refine oj_then ?_ | refine cj_ret ?_ | refine nj_then_ret ?_ | refine nj_block_ret ?_))
      refine nj_ret TT rfl fun β w' _ _=>?_
      subst h
      show Value.bool false=.bool (decide ((⟨0,b,dec0,s,i⟩:GPart)=part0)&&decSane n)
      rw [hq,Bool.false_and]
  have h2:=of_decide_eq_false (show decide (kd=2)=false from h2)
  (repeat (first | refine cj_seq ?_ | refine cjr TT rfl ?_ | refine oj_then ?_))
  refine cj_if rfl (fun h=>?_) (fun h3=>?_)
  · have h:=of_decide_eq_true (show decide (kd=3)=true from h)
    (repeat (first | refine cj_seq ?_ | refine cjr TT rfl ?_ | refine oj_nil ?_ | refine nj_then ?_ | refine nj_block ?_))
    refine oj_eqPart partT49 ⟨0,b,n,emptyB,i⟩ part0 rfl rfl rfl rfl rfl rfl rfl (fun _=>rfl) (fun _=>rfl) (oj_run TT rfl ?_)
    (repeat (first | refine oj_then ?_ | refine cj_ret ?_))
    refine nj_ret TT rfl fun β w' _ _=>?_
    subst h
    rfl
  have h3:=of_decide_eq_false (show decide (kd=3)=false from h3)
  (repeat (first | refine cj_seq ?_ | refine cjr TT rfl ?_ | refine oj_then ?_))
  refine cj_if rfl (fun h=>?_) (fun h9=>?_)
  · have h:=of_decide_eq_true (show decide (kd=9)=true from h)
    (repeat (first | refine cj_seq ?_ | refine cjr TT rfl ?_ | refine oj_then ?_))
    refine oj_eqPart partT49 ⟨0,b,n,s,0⟩ part0 rfl rfl rfl rfl rfl rfl rfl (fun _=>rfl) (fun _=>rfl) (oj_run TT rfl ?_)
    refine oj_split 34 rfl (fun hq=>?_) (fun hq=>?_)
    · have hq:decide ((⟨0,b,n,s,0⟩:GPart)=part0)=true:=hq
      refine oj_run TT rfl ?_
      refine oj_split 39 rfl (fun hi=>?_) (fun hi=>?_)
      · have hi:decide (0<=i)=true:=hi
        refine oj_run TT rfl ?_
        (repeat (first | refine oj_then ?_ | refine cj_ret ?_ | refine nj_then_ret ?_ | refine nj_block_ret ?_))
        refine nj_ret TT rfl fun β w' _ _=>?_
        subst h
        show Value.bool (decide (i<=4294967295))=.bool (decide ((⟨0,b,n,s,0⟩:GPart)=part0)&&decide (0<=i)&&decide (i<=4294967295))
        rw [hq,hi,Bool.true_and,Bool.true_and]
      · have hi:decide (0<=i)=false:=hi
        refine oj_run TT rfl ?_
        (repeat (first | refine oj_then ?_ | refine cj_ret ?_ | refine nj_then_ret ?_ | refine nj_block_ret ?_))
        refine nj_ret TT rfl fun β w' _ _=>?_
        subst h
        show Value.bool false=.bool (decide ((⟨0,b,n,s,0⟩:GPart)=part0)&&decide (0<=i)&&decide (i<=4294967295))
        rw [hi,Bool.and_false,Bool.false_and]
    · have hq:decide ((⟨0,b,n,s,0⟩:GPart)=part0)=false:=hq
      refine oj_run TT rfl ?_
      (repeat (first | refine oj_then ?_ | refine cj_ret ?_ | refine nj_then_ret ?_ | refine nj_block_ret ?_))
      refine nj_ret TT rfl fun β w' _ _=>?_
      subst h
      show Value.bool false=.bool (decide ((⟨0,b,n,s,0⟩:GPart)=part0)&&decide (0<=i)&&decide (i<=4294967295))
      rw [hq,Bool.false_and,Bool.false_and]
  have h9:=of_decide_eq_false (show decide (kd=9)=false from h9)
  (repeat (first | refine cj_seq ?_ | refine cjr TT rfl ?_ | refine oj_then ?_ | refine cj_ret ?_ | refine nj_then_ret ?_ | refine nj_block_ret ?_))
  refine nj_ret TT rfl fun β w' _ _=>?_
  unfold rightG
  dsimp only
  rw [if_neg h0,if_neg h1,if_neg h2,if_neg h3,if_neg h9]
  rfl
end Go.Sy
namespace Go.Sy
open Go.Proofs
def fillK (l:List UInt8) (k:Nat):List UInt8:=l.take k++List.replicate (l.length - k) 0
theorem fillK_all (l:List UInt8):fillK l l.length=l:=by unfold fillK;simp
theorem fillK_set {l:List UInt8} {k:Nat} {x:UInt8} (h:l[k]?=some x):(fillK l k).set k x=fillK l (k+1):=by
  obtain ⟨hk,he⟩:=List.getElem?_eq_some_iff.1 h
  unfold fillK
  have hl:(l.take k).length=k:=by rw [List.length_take];omega
  rw [List.take_succ_eq_append_getElem hk,he,show l.length - k=(l.length - (k+1))+1 by omega,List.replicate_succ,List.set_append_right _ _ (by omega),hl,Nat.sub_self,List.set_cons_zero,List.append_assoc]
  rfl
theorem u8Xs_set (l:List UInt8) (k:Nat) (x:UInt8):(u8Xs l).set k (.int .u8 (x.toNat:Int))=u8Xs (l.set k x):=by
  unfold u8Xs
  rw [List.map_set]
theorem u8Xs_zeros (n:Nat):(List.replicate n ([.int .u8 0]:List Value)).flatten=u8Xs (List.replicate n 0):=by
  induction n with
  | zero=>rfl
  | succ n ih =>
    rw [List.replicate_succ,List.replicate_succ,List.flatten_cons,ih]
    rfl
theorem turnG_get {l:List UInt8} {k:Nat} {x:UInt8} (h:l[k]?=some x):(turnG l)[k]?=some (255 - x):=by unfold turnG;rw [List.getElem?_map,h];rfl
theorem turnG_len (l:List UInt8):(turnG l).length=l.length:=by simp [turnG]
set_option maxRecDepth 100000 in
set_option maxHeartbeats 2000000 in
theorem turned_c (σ:Snap) (l:List UInt8) (hl:l.length<=1000000) (ao:Option Addr) (cap:Nat) (H:SlAt σ ao l.length cap 1 (u8Rows l)) :
    PureS Tryd.prog 35 [.a (.v (.slice ao l.length cap))] σ (fun v σ'=>∃ bo bc,v=.slice bo l.length bc/\SlAt σ' bo l.length bc 1 (u8Rows (turnG l))):=by
  refine enter_s Tryd.func35 rfl rfl (by (repeat' (first | exact trivial | constructor))) fun w=>?_
  (repeat (first | refine cj_seq ?_ | refine cjr TT rfl ?_ | refine oj_then ?_))
  refine oj_makeSliceN (n:=l.length) TT _ rfl rfl rfl rfl rfl rfl rfl rfl rfl rfl (by show l.length*1<=_;omega) (by omega) (madeCells_rep [.int .u8 0] l.length) fun g=>?_
  rw [u8Xs_zeros]
  refine oj_run TT rfl ?_
  (repeat (first | refine cj_seq ?_ | refine cjr TT rfl ?_ | refine oj_then ?_ | refine cj_block ?_))
  refine cj_loop (fun (_:Nat)=>σ) (fun k=>[(3,.a (.v (.slice (some ⟨g,0,none⟩) l.length l.length))),(9,.a (.v (.slice ao l.length cap))),(10,.a (.v (.int .i64 l.length))),(11,.a (.v (.int .i64 (k:Nat))))]) (fun _=>[]) (fun k=>[⟨some ⟨g,0,none⟩,l.length,l.length,5,1,u8Xs (fillK (turnG l) k)⟩]) 0
    (fun k=>k<=l.length) (fun k=>l.length - k) 0 (Nat.zero_le _) rfl (by (repeat first | exact trivial | refine ⟨rfl,?_⟩)) (by (repeat first | exact trivial | refine ⟨rfl,?_⟩)) (by unfold fillK;rw [turnG_len];rfl) (by (repeat' (first | exact trivial | constructor))) (by (repeat' exact trivial)) fun k hk=>?_
  (repeat (first | refine cj_seq ?_ | refine cjr TT rfl ?_ | refine oj_then ?_))
  refine cj_if rfl (fun h=>?_) (fun h=>?_)
  rotate_left
  · have hk0:k=l.length:=by have:=of_decide_eq_false h;omega
    have e:fillK (turnG l) k=turnG l:=by rw [hk0,<-turnG_len l,fillK_all]
    rw [e]
    (repeat (first | refine cj_seq ?_ | refine cjr TT rfl ?_ | refine oj_then ?_ | refine cj_exit ?_ | refine cj_ret ?_ | refine nj_then ?_ | refine nj_then_exit ?_ | refine nj_block_out ?_))
    refine nj_seal 0 rfl rfl fun s1 hle1 hS=>?_
    refine nj_ret TT rfl fun β w' _ _=>?_
    have hS:ArrSealed s1 (u8E (some ⟨g,0,none⟩) l.length (turnG l)):=by unfold u8E;rw [turnG_len];exact hS
    have:=u8_sealed hS (by rw [turnG_len];exact Nat.le_refl _)
    rw [turnG_len] at this
    exact ⟨_,_,rfl,this⟩
  have hkl:k<l.length:=by have:=of_decide_eq_true h;omega
  have hx:=List.getElem?_eq_getElem hkl
  have hrow:=u8Rows_get hx
  have hset:=fillK_set (turnG_get hx)
  generalize l[k]=x at *
  (repeat (first | refine cj_seq ?_ | refine cjr TT rfl ?_ | refine cj_skip ?_ | refine cj_block ?_ | refine nj_then ?_))
  refine oj_idx TT rfl rfl rfl rfl rfl rfl rfl rfl rfl H (by omega) hrow (oj_run TT rfl ?_)
  (repeat (first | refine cjr TT rfl ?_ | refine oj_then ?_))
  refine oj_compl8 rfl rfl rfl rfl rfl (oj_run TT rfl ?_)
  refine oj_indexAddr TT rfl rfl rfl rfl rfl rfl rfl rfl rfl ⟨by omega,by omega⟩ (oj_run TT rfl ?_)
  refine oj_stA 0 (off:=k) (A':=[⟨some ⟨g,0,none⟩,l.length,l.length,5,1,u8Xs (fillK (turnG l) (k+1))⟩]) (c:=.v (.int .u8 ((255 - x).toNat:Int))) TT rfl rfl rfl rfl (by rw [add0];show some (SV.a (AT.v (.pointer (some ⟨g,((k:Nat):Int).toNat*1,none⟩))))=_;rw [Nat.mul_one];rfl) rfl rfl rfl rfl rfl (by show k<l.length*1;omega) trivial rfl (by rw [<-hset,<-u8Xs_set];rfl) (oj_run TT rfl ?_)
  (repeat (first | refine cjr TT rfl ?_ | refine oj_nil ?_ | refine nj_then ?_ | refine nj_block ?_ | (refine oj_add rfl rfl rfl rfl rfl rfl (by omega) ?_;refine oj_run TT rfl ?_)))
  refine nj_again (k+1) hkl (by omega) rfl (by (repeat first | exact trivial | refine ⟨rfl,?_⟩)) (by (repeat first | exact trivial | refine ⟨rfl,?_⟩)) rfl (by (repeat' (first | exact trivial | constructor))) (by (repeat' exact trivial))
theorem wrap8 (x:Int):IntKind.u8.wrap x=((byteOf x).toNat:Int):=by
  rw [byteOf_nat]
  rfl
theorem shr8 (h:Int):bShr .i64 h 8=h / 256:=by
  show h.fdiv 256=_
  rw [Int.fdiv_eq_ediv_of_nonneg _ (by decide)]
theorem wrap8_sub:∀ c:UInt8,IntKind.u8.wrap ((c.toNat:Int) - 48)=((c - 48).toNat:Int):=all8 (by decide +kernel)
theorem wrap8_inc:∀ c:UInt8,IntKind.u8.wrap ((c.toNat:Int)+1)=((c+1).toNat:Int):=all8 (by decide +kernel)
def szK (h:Int) (l:List UInt8) (k:Nat):List UInt8:=byteOf (h / 256)::byteOf h::(l.take k).map (fun c=>c - 48+1)
theorem szK_len (h:Int) (l:List UInt8) (k:Nat):(szK h l k).length<=2+l.length:=by
  unfold szK
  rw [List.length_cons,List.length_cons,List.length_map,List.length_take]
  omega
theorem szK_succ {h:Int} {l:List UInt8} {k:Nat} {c:UInt8} (hc:l[k]?=some c):szK h l (k+1)=szK h l k++[c - 48+1]:=by
  obtain ⟨hk,he⟩:=List.getElem?_eq_some_iff.1 hc
  unfold szK
  rw [List.take_succ_eq_append_getElem hk,he,List.map_append]
  rfl
structure SzS where
  k:Nat
  oo:Option Addr
  oc:Nat
set_option maxRecDepth 100000 in
set_option maxHeartbeats 2000000 in
theorem size_c (σ:Snap) (d:GDec) (hs:decSane d=true) (h0:d.dg.size≠0):PureS Tryd.prog 36 [.agg (decCells d)] σ (fun v σ'=>∃ ao cap,v=.slice ao (sizeG d).length cap/\SlAt σ' ao (sizeG d).length cap 1 (u8Rows (sizeG d))):=by
  obtain ⟨hdig,h1,h2⟩:=sane_size hs h0
  obtain ⟨ng,dg,ex⟩:=d
  obtain ⟨l,rfl⟩:=mkB_ex dg
  have hsz:=mkB_size l
  dsimp only at h0 h1 h2
  rw [hsz] at h0
  have hl40:l.length<=40:=by
    rw [decSane_mk _ _ _ h0] at hs
    simp only [Bool.and_eq_true,decide_eq_true_eq] at hs
    exact hs.1.1.1.1.1.1.1
  refine enter_s Tryd.func36 rfl rfl (by (repeat' (first | exact trivial | exact decCells_lt _ _ | constructor))) fun w=>?_
  (repeat (first | refine cj_seq ?_ | refine cjr TT rfl ?_ | refine oj_then ?_))
  refine oj_add rfl rfl rfl rfl rfl rfl (by dsimp only;omega) (oj_run TT rfl ?_)
  refine oj_add rfl rfl rfl rfl rfl rfl (by dsimp only;omega) (oj_run TT rfl ?_)
  dsimp only
  have hH1:0<=((mkB l).size:Int)+ex+1000:=by omega
  have hH2:((mkB l).size:Int)+ex+1000<=1400:=by omega
  have hsz0:sizeG ⟨ng,mkB l,ex⟩=byteOf ((((mkB l).size:Int)+ex+1000) / 256)::byteOf (((mkB l).size:Int)+ex+1000)::(l.map (fun c=>c - 48+1)++[0]):=by
    unfold sizeG
    dsimp only
    rw [mkB_list]
  generalize ((mkB l).size:Int)+ex+1000=h at *
  (repeat (first | refine cj_seq ?_ | refine cjr TT rfl ?_ | refine oj_then ?_ | (refine oj_conv TT _ rfl rfl rfl rfl rfl rfl rfl rfl rfl ?_;refine oj_run TT rfl ?_) | (refine oj_bshr rfl rfl rfl rfl rfl rfl (by decide) ?_;refine oj_run TT rfl ?_)))
  have e1:IntKind.u8.wrap (bShr .i64 h 8)=((byteOf (h / 256)).toNat:Int):=by rw [wrap8,shr8]
  have e2:IntKind.u8.wrap h=((byteOf h).toNat:Int):=wrap8 h
  rw [e1,e2]
  refine oj_own 1 2 1 rfl (by (repeat' (first | exact trivial | refine AllLt.of ?_ | constructor))) rfl (by decide) fun g=>?_
  refine oj_bytes (y:=mkB l) TT rfl rfl rfl rfl rfl rfl rfl rfl rfl rfl rfl fun ao cap s1 hle1 HB=>?_
  rw [byteRows_u8,mkB_list,hsz] at HB
  refine oj_set 22 (.a (.v (.slice ao l.length cap))) rfl trivial (fun β=>by rw [hsz]) (oj_run TT rfl ?_)
  (repeat (first | refine oj_then ?_ | refine cj_block ?_))
  refine cj_loop (fun (_:SzS)=>s1) (fun t=>[(4,.a (.v (.slice t.oo (szK h l t.k).length t.oc))),(22,.a (.v (.slice ao l.length cap))),(23,.a (.v (.int .i64 l.length))),(24,.a (.v (.int .i64 (t.k:Nat))))]) (fun _=>[]) (fun t=>[u8E t.oo t.oc (szK h l t.k)]) 0
    (fun t=>t.k<=l.length/\(szK h l t.k).length<=t.oc) (fun t=>l.length - t.k) ⟨0,some ⟨g,0,none⟩,2⟩ ⟨Nat.zero_le _,Nat.le_refl _⟩ rfl (by (repeat first | exact trivial | refine ⟨rfl,?_⟩)) (by (repeat first | exact trivial | refine ⟨rfl,?_⟩)) rfl (by (repeat' (first | exact trivial | constructor))) (by (repeat' exact trivial)) fun ⟨k,oo,oc⟩ ⟨hk,hoc⟩=>?_
  dsimp only at hk hoc ⊢
  have hlen:=szK_len h l k
  (repeat (first | refine cj_seq ?_ | refine cjr TT rfl ?_ | refine oj_then ?_))
  refine cj_if rfl (fun hc=>?_) (fun hc=>?_)
  rotate_left
  · have hk0:k=l.length:=by have:=of_decide_eq_false hc;omega
    have e:szK h l k++[0]=sizeG ⟨ng,mkB l,ex⟩:=by
      rw [hsz0,hk0]
      unfold szK
      rw [List.take_length]
      rfl
    (repeat (first | refine cj_seq ?_ | refine cjr TT rfl ?_ | refine cj_exit ?_ | refine nj_then ?_ | refine nj_then_exit ?_ | refine nj_block_out ?_))
    refine oj_append_lit TT 0 rfl rfl rfl rfl rfl rfl rfl rfl rfl rfl rfl rfl rfl rfl rfl rfl rfl rfl (by (repeat' (first | exact trivial | refine AllLt.of ?_ | constructor))) rfl (by omega) (by show ((szK h l k).length+1)*1<=_;omega) fun oo' oc' hoc'=>oj_run TT rfl ?_
    (repeat (first | refine oj_then ?_ | refine cj_ret ?_))
    refine nj_seal 0 rfl rfl fun s2 hle2 hS=>?_
    refine nj_ret TT rfl fun β w' _ _=>?_
    have hl1:(szK h l k++[0]).length=(szK h l k).length+1:=by simp
    have hS:ArrSealed s2 (u8E oo' oc' (szK h l k++[0])):=by unfold u8E;rw [hl1,u8Xs_append];exact hS
    have:=u8_sealed hS (by rw [hl1];exact hoc')
    rw [<-e]
    exact ⟨oo',oc',by rw [hl1];rfl,this⟩
  have hkl:k<l.length:=by have:=of_decide_eq_true hc;omega
  have hx:=List.getElem?_eq_getElem hkl
  have hrow:=u8Rows_get hx
  have hs1:=szK_succ (h:=h) hx
  generalize l[k]=c at *
  (repeat (first | refine cj_seq ?_ | refine cjr TT rfl ?_ | refine cj_skip ?_ | refine cj_block ?_ | refine nj_then ?_))
  refine oj_idx TT rfl rfl rfl rfl rfl rfl rfl rfl rfl HB (by omega) hrow (oj_run TT rfl ?_)
  (repeat (first | refine cjr TT rfl ?_ | refine oj_then ?_))
  refine oj_arith ((c - 48).toNat:Int) rfl rfl rfl rfl rfl rfl (run_sub (wrap8_sub c)) (oj_run TT rfl ?_)
  refine oj_arith ((c - 48+1).toNat:Int) rfl rfl rfl rfl rfl rfl (run_add (wrap8_inc (c - 48))) (oj_run TT rfl ?_)
  refine oj_append_lit TT 0 rfl rfl rfl rfl rfl rfl rfl rfl rfl rfl rfl rfl rfl rfl rfl rfl rfl rfl (by (repeat' (first | exact trivial | refine AllLt.of ?_ | constructor))) rfl (by omega) (by show ((szK h l k).length+1)*1<=_;omega) fun oo' oc' hoc'=>oj_run TT rfl ?_
  (repeat (first | refine cjr TT rfl ?_ | refine oj_nil ?_ | refine nj_then ?_ | refine nj_block ?_ | (refine oj_add rfl rfl rfl rfl rfl rfl (by omega) ?_;refine oj_run TT rfl ?_)))
  have hl1:(szK h l (k+1)).length=(szK h l k).length+1:=by rw [hs1];simp
  refine nj_again (⟨k+1,oo',oc'⟩:SzS) ⟨hkl,by dsimp only;omega⟩ (by dsimp only;omega) rfl ?_ (by (repeat first | exact trivial | refine ⟨rfl,?_⟩)) ?_ (by (repeat' (first | exact trivial | constructor))) (by (repeat' exact trivial))
  · dsimp only
    rw [hl1]
    (repeat first | exact trivial | refine ⟨rfl,?_⟩)
  · show [_]=[_]
    dsimp only
    unfold u8E
    rw [hl1,hs1,u8Xs_append]
    rfl
end Go.Sy
/- The library's strings.ReplaceAll at this program: the shelf's contract, laid by its program. -/
namespace Go.Proofs
open Go.Shelf
def Tryd.lays155_ren:Go.Shelf.Ren:=⟨fun | 155=>37 | 154=>49 | 138=>63 | 165=>64 | 143=>65 | 166=>66 | 197=>67 | 169=>68 | 195=>75 | 218=>76 | 240=>77 | 241=>78 | 219=>79 | 260=>80 | 276=>84 | 277=>85 | 217=>86 | 225=>87 | 224=>88 | 267=>89 | 266=>92 | 314=>93 | n=>n,fun | 9=>9 | 3=>3 | 4=>4 | 72=>97 | 0=>0 | 76=>101 | 105=>103 | 21=>21 | 5=>5 | 70=>95 | 20=>20 | 37=>22 | 75=>100 | 127=>111 | 164=>113 | 46=>73 | 119=>117 | 139=>120 | 138=>119 | 146=>123 | 51=>122 | 80=>105 | n=>n,fun | 1=>0 | 3=>1 | 4=>2 | n=>n⟩
theorem Tryd.lays155:Go.Proofs.Lays.n155 Tryd.prog Tryd.lays155_ren:={
  mixed:=by kernel_rfl
  f138:=Tryd.func63.trans (congrArg some (by kernel_rfl))
  f143:=Tryd.func65.trans (congrArg some (by kernel_rfl))
  f154:=Tryd.func49.trans (congrArg some (by kernel_rfl))
  f155:=Tryd.func37.trans (congrArg some (by kernel_rfl))
  f165:=Tryd.func64.trans (congrArg some (by kernel_rfl))
  f166:=Tryd.func66.trans (congrArg some (by kernel_rfl))
  f169:=Tryd.func68.trans (congrArg some (by kernel_rfl))
  f195:=Tryd.func75.trans (congrArg some (by kernel_rfl))
  f197:=Tryd.func67.trans (congrArg some (by kernel_rfl))
  f217:=Tryd.func86.trans (congrArg some (by kernel_rfl))
  f218:=Tryd.func76.trans (congrArg some (by kernel_rfl))
  f219:=Tryd.func79.trans (congrArg some (by kernel_rfl))
  f224:=Tryd.func88.trans (congrArg some (by kernel_rfl))
  f225:=Tryd.func87.trans (congrArg some (by kernel_rfl))
  f240:=Tryd.func77.trans (congrArg some (by kernel_rfl))
  f241:=Tryd.func78.trans (congrArg some (by kernel_rfl))
  f260:=Tryd.func80.trans (congrArg some (by kernel_rfl))
  f266:=Tryd.func92.trans (congrArg some (by kernel_rfl))
  f267:=Tryd.func89.trans (congrArg some (by kernel_rfl))
  f276:=Tryd.func84.trans (congrArg some (by kernel_rfl))
  f277:=Tryd.func85.trans (congrArg some (by kernel_rfl))
  f314:=Tryd.func93.trans (congrArg some (by kernel_rfl))
  t0:=Tryd.underlying0
  a0:=Tryd.isAgg0
  z0:=Tryd.sizeOf0
  v0:=Tryd.zeroValue0
  t3:=Tryd.underlying3
  a3:=Tryd.isAgg3
  z3:=Tryd.sizeOf3
  v3:=Tryd.zeroValue3
  t4:=Tryd.underlying4
  a4:=Tryd.isAgg4
  z4:=Tryd.sizeOf4
  v4:=Tryd.zeroValue4
  t5:=Tryd.underlying5
  a5:=Tryd.isAgg5
  z5:=Tryd.sizeOf5
  v5:=Tryd.zeroValue5
  t9:=Tryd.underlying9
  a9:=Tryd.isAgg9
  z9:=Tryd.sizeOf9
  v9:=Tryd.zeroValue9
  t20:=Tryd.underlying20
  a20:=Tryd.isAgg20
  z20:=Tryd.sizeOf20
  v20:=Tryd.zeroValue20
  t21:=Tryd.underlying21
  a21:=Tryd.isAgg21
  z21:=Tryd.sizeOf21
  v21:=Tryd.zeroValue21
  t37:=Tryd.underlying22
  a37:=Tryd.isAgg22
  z37:=Tryd.sizeOf22
  v37:=Tryd.zeroValue22
  t46:=Tryd.underlying73
  a46:=Tryd.isAgg73
  z46:=Tryd.sizeOf73
  v46:=Tryd.zeroValue73
  t51:=Tryd.underlying122
  a51:=Tryd.isAgg122
  z51:=Tryd.sizeOf122
  v51:=Tryd.zeroValue122
  t70:=Tryd.underlying95
  a70:=Tryd.isAgg95
  z70:=Tryd.sizeOf95
  v70:=Tryd.zeroValue95
  t72:=Tryd.underlying97
  a72:=Tryd.isAgg97
  z72:=Tryd.sizeOf97
  v72:=Tryd.zeroValue97
  t75:=Tryd.underlying100
  a75:=Tryd.isAgg100
  z75:=Tryd.sizeOf100
  v75:=Tryd.zeroValue100
  t76:=Tryd.underlying101
  a76:=Tryd.isAgg101
  z76:=Tryd.sizeOf101
  v76:=Tryd.zeroValue101
  t105:=Tryd.underlying103
  a105:=Tryd.isAgg103
  z105:=Tryd.sizeOf103
  v105:=Tryd.zeroValue103
  t119:=Tryd.underlying117
  a119:=Tryd.isAgg117
  z119:=Tryd.sizeOf117
  t127:=Tryd.underlying111
  a127:=Tryd.isAgg111
  z127:=Tryd.sizeOf111
  v127:=Tryd.zeroValue111
  t138:=Tryd.underlying119
  a138:=Tryd.isAgg119
  z138:=Tryd.sizeOf119
  v138:=Tryd.zeroValue119
  t139:=Tryd.underlying120
  a139:=Tryd.isAgg120
  z139:=Tryd.sizeOf120
  v139:=Tryd.zeroValue120
  t146:=Tryd.underlying123
  a146:=Tryd.isAgg123
  z146:=Tryd.sizeOf123
  v146:=Tryd.zeroValue123
  t164:=Tryd.underlying113
  a164:=Tryd.isAgg113
  z164:=Tryd.sizeOf113
  v164:=Tryd.zeroValue113
  g1:=by kernel_rfl
  g3:=by kernel_rfl
  g4:=by kernel_rfl }
theorem Tryd.Builder_Extra_155:Builder.Extra Tryd.prog Tryd.lays155_ren:={
  sizeBuilder:=by kernel_rfl
  liesBuilder:=by kernel_rfl
  t5:=Tryd.underlying5
  a5:=Tryd.isAgg5
  z5:=Tryd.sizeOf5
  v5:=Tryd.zeroValue5
  infoByte:=by kernel_rfl
  cellsByte:=by kernel_rfl
  sizeByte:=by kernel_rfl
  neB5:=by decide }
open Go.RowKit Go.Lib in
theorem Tryd.strings_ReplaceAll (s old new:ByteArray) (m:Int) (w:World) (hs:s.size<4294967281) (hm:w.cell? ⟨0,0,none⟩=some (.int .i64 m)) (h1:1<=old.size) (hlen:s.size+Lib.countB s old*new.size<=140737488355328) :
    Calls Tryd.prog 37 #[.string s,.string old,.string new] w fun e w' =>
      e=.returned (.string ⟨(Lib.replaceAll s.data.toList old.data.toList new.data.toList).toArray⟩)/\Below w.heap.size w w':=Any.strings_ReplaceAll Tryd.lays155 Tryd.Builder_Extra_155 s old new m w hs hm h1 hlen
end Go.Proofs
namespace Go.Sy
open Go.Proofs
theorem esc_none:∀ {s:List UInt8},(∀ c∈s,c≠0)->escG s=s
  | [],_=>rfl
  | c::s,h=>by
    rw [escG,if_neg (h c List.mem_cons_self),esc_none fun x hx=>h x (List.mem_cons_of_mem c hx)]
theorem esc_hit:∀ (a r:List UInt8),(∀ c∈a,c≠0)->escG (a++0::r)=a++[0,255]++escG r
  | [],r,_=>by rw [List.nil_append,escG,if_pos rfl];rfl
  | c::a,r,h=>by
    rw [List.cons_append,escG,if_neg (h c List.mem_cons_self),esc_hit a r fun x hx=>h x (List.mem_cons_of_mem c hx)]
    rfl
theorem idx_split (s:List UInt8):(Lib.index s [0] = -1/\∀ c∈s,c≠0)\/∃ a r,s=a++0::r/\(∀ c∈a,c≠0)/\Lib.index s [0]=(a.length:Nat):=by
  rw [Lib.index_one]
  have hge:=Lib.indexByte_ge s 0
  by_cases h:Lib.indexByte s 0 = -1
  · refine .inl ⟨h,fun c hc h0=>?_⟩
    obtain ⟨k,hk,rfl⟩:=List.mem_iff_getElem.1 hc
    exact Lib.indexByte_none h k (by rw [List.getElem?_eq_getElem hk,h0])
  · obtain ⟨o,ho⟩:∃ o:Nat,Lib.indexByte s 0=o:=⟨(Lib.indexByte s 0).toNat,by omega⟩
    obtain ⟨h1,h2⟩:=Lib.indexByte_some ho
    obtain ⟨hl,he⟩:=List.getElem?_eq_some_iff.1 h1
    refine .inr ⟨s.take o,s.drop (o+1),?_,fun c hc h0=>?_,by rw [ho,List.length_take,Nat.min_eq_left (by omega)]⟩
    · rw [<-he,<-List.drop_eq_getElem_cons hl,List.take_append_drop]
    · obtain ⟨k,hk,hk3⟩:=List.mem_iff_getElem.1 hc
      have hk2:=List.getElem?_eq_getElem hk
      rw [hk3] at hk2
      rw [List.length_take] at hk
      rw [List.getElem?_take,if_pos (by omega),h0] at hk2
      exact h2 k (by omega) hk2
theorem replaceK_esc:∀ (fuel:Nat) (s:List UInt8),s.length<fuel->Lib.replaceK [0] [0,255] (Lib.countFrom [0] fuel s) s=escG s
  | 0,s,h=>by omega
  | fuel+1,s,h=>by
    rcases idx_split s with ⟨h1,h2⟩ | ⟨a,r,rfl,h2,h3⟩
    · rw [Lib.countFrom,h1]
      exact (esc_none h2).symm
    · have hne:¬ (Lib.index (a++0::r) [0] == -1)=true:=by rw [h3];intro e;have:=beq_iff_eq.1 e;omega
      have hd:(a++0::r).drop (a.length+1)=r:=by
        rw [List.drop_append,List.drop_of_length_le (by omega)]
        simp
      have ih:=replaceK_esc fuel r (by simp at h;omega)
      rw [Lib.countFrom,if_neg hne,Nat.add_comm,Lib.replaceK_hit _ _ _ _ _ h3,h3]
      show (a++0::r).take a.length++[0,255]++Lib.replaceK [0] [0,255] (Lib.countFrom [0] fuel ((a++0::r).drop (a.length+1))) ((a++0::r).drop (a.length+1))=_
      rw [hd,ih,esc_hit a r h2,List.take_left]
theorem replaceAll_esc (s:List UInt8):Lib.replaceAll s [0] [0,255]=escG s:=replaceK_esc (s.length+1) s (Nat.lt_succ_self _)
theorem plain_of_below {P:Program} {f:FuncId} {svs:List SV} {σ:Snap} {Φ:Value->Prop} (h:∀ w,Sealed σ w->Calls P f (svs.map (SV.den β0)).toArray w fun e w'=>∃ v,e=.returned v/\Φ v/\Go.RowKit.Below w.heap.size w w'):PlainS P f svs σ Φ:=by
  intro w hw
  refine Calls.mono (h w hw) fun e w' ⟨v,he,hv,hb⟩=>⟨v,σ,he,⟨hb.os,hb.tape,hb.output,hb.size,fun b hb' _=>hb.block b hb'⟩,⟨Snap.le_refl _,fun b hb'=>.inl hb'⟩,fun b o ho=>?_,hv⟩
  have h1:=hw b o ho
  rw [hb.block b (Array.getElem?_eq_some_iff.1 h1).1]
  exact h1
theorem ReplaceAll_c (σ:Snap) (m:Int) (hm:σ.cell ⟨0,0,none⟩=some (.int .i64 m)) (s:ByteArray) (hs:s.size<=1000000) :
    PlainS Tryd.prog 37 [.a (.v (.string s)),.a (.v (.string ⟨#[0]⟩)),.a (.v (.string ⟨#[0,255]⟩))] σ (fun v=>v=.string (mkB (escG s.data.toList))):=by
  refine plain_of_below fun w hw=>?_
  have hc:=Lib.countB_mul_le ⟨#[0]⟩ (by decide) s.size s (Nat.le_refl _)
  have hz:(⟨#[0]⟩:ByteArray).size=1:=rfl
  have hz2:(⟨#[0,255]⟩:ByteArray).size=2:=rfl
  rw [hz,Nat.mul_one] at hc
  refine Calls.mono (Tryd.strings_ReplaceAll s ⟨#[0]⟩ ⟨#[0,255]⟩ m w (by omega) (sealed_cell hw hm) (by decide) (by rw [hz2];omega)) fun e w' ⟨he,hb⟩=>⟨_,he,?_,hb⟩
  show Value.string ⟨(Lib.replaceAll s.data.toList [0] [0,255]).toArray⟩=_
  rw [replaceAll_esc]
  rfl
end Go.Sy
