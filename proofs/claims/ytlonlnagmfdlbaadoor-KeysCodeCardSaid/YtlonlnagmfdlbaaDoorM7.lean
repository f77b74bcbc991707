/- Parts of the proof of CKeysCode: K12, F14, K13, K14, F69, K16, K17, F70, K18. No conditions. -/
import Derived.Test.YtlonlnagmfdlbaaDoorM6
namespace Go.Sy
open Go.Proofs
theorem shl64_24:∀ c:UInt8,bShl .i64 (c.toNat:Int) 24=(c.toNat:Int)*16777216:=all8 (by decide +kernel)
theorem shl64_16:∀ c:UInt8,bShl .i64 (c.toNat:Int) 16=(c.toNat:Int)*65536:=all8 (by decide +kernel)
theorem or64 (x y:Nat) (k:Nat) (hk:x % 2 ^ k=0) (hy:y<2 ^ k) (hx:x<4294967296) (hk2:k<=32):bOr .i64 (x:Int) (y:Int)=((x+y:Nat):Int):=by
  have e1:bOr .i64 (x:Int) (y:Int)=IntKind.i64.wrap (((BitVec.ofInt 64 (x:Int)) ||| (BitVec.ofInt 64 (y:Int))).toNat:Int):=rfl
  have hy2:y<4294967296:=Nat.lt_of_lt_of_le hy (Nat.le_trans (Nat.pow_le_pow_right (by decide) hk2) (by decide))
  have e2:((BitVec.ofInt 64 (x:Int)) ||| (BitVec.ofInt 64 (y:Int))).toNat=x ||| y:=by
    rw [BitVec.toNat_or,BitVec.toNat_ofInt,BitVec.toNat_ofInt]
    congr 1<;>omega
  have e3:x ||| y=x+y:=by
    obtain ⟨q,rfl⟩:∃ q,x=2 ^ k*q:=⟨x / 2 ^ k,by have:=Nat.div_add_mod x (2 ^ k);omega⟩
    rw [Nat.two_pow_add_eq_or_of_lt hy]
  rw [e1,e2,e3]
  have h:x+y<9223372036854775808:=by omega
  unfold IntKind.wrap
  show (if (true&&decide (((x+y:Nat):Int) % 18446744073709551616≥9223372036854775808))=true then _ else ((x+y:Nat):Int) % 18446744073709551616)=_
  have e:((x+y:Nat):Int) % 18446744073709551616=(x+y:Nat):=by omega
  rw [e,if_neg (by simp;omega)]
theorem zeroP_lt (n:Nat):∀ c∈zeroP,c.lt n:=by simp [zeroP,AT.lt]
theorem or_ab (a b:UInt8):bOr .i64 ((a.toNat:Int)*16777216) ((b.toNat:Int)*65536)=(a.toNat:Int)*16777216+(b.toNat:Int)*65536:=by
  have ha:=a.toNat_lt
  have hb:=b.toNat_lt
  have:=or64 (a.toNat*16777216) (b.toNat*65536) 24 (by omega) (by omega) (by omega) (by decide)
  simpa using this
theorem or_abc (a b c:UInt8):bOr .i64 ((a.toNat:Int)*16777216+(b.toNat:Int)*65536) ((c.toNat:Int)*256)=(a.toNat:Int)*16777216+(b.toNat:Int)*65536+(c.toNat:Int)*256:=by
  have ha:=a.toNat_lt
  have hb:=b.toNat_lt
  have hc:=c.toNat_lt
  have:=or64 (a.toNat*16777216+b.toNat*65536) (c.toNat*256) 16 (by omega) (by omega) (by omega) (by decide)
  simpa using this
theorem or_abcd (a b c d:UInt8):bOr .i64 ((a.toNat:Int)*16777216+(b.toNat:Int)*65536+(c.toNat:Int)*256) (d.toNat:Int)=(a.toNat:Int)*16777216+(b.toNat:Int)*65536+(c.toNat:Int)*256+d.toNat:=by
  have ha:=a.toNat_lt
  have hb:=b.toNat_lt
  have hc:=c.toNat_lt
  have hd:=d.toNat_lt
  have:=or64 (a.toNat*16777216+b.toNat*65536+c.toNat*256) d.toNat 8 (by omega) (by omega) (by omega) (by decide)
  simpa using this
theorem first80_short {r:List UInt8} (h:r.length<4):firstG (80::r)=none:=by
  match r,h with
  | [],_=>rfl
  | [_],_=>rfl
  | [_,_],_=>rfl
  | [_,_,_],_=>rfl
  | _::_::_::_::r,h=>simp at h;omega
set_option maxRecDepth 100000 in
set_option maxHeartbeats 4000000 in
theorem first_c (σ:Snap) (t:UInt8) (r:List UInt8) (hb:r.length<=999999) (ao:Option Addr) (cap:Nat) (H:SlAt σ ao (r.length+1) cap 1 (u8Rows (t::r))) :
    PureS Tryd.prog 39 [.a (.v (.slice ao (r.length+1) cap))] σ (fun v σ'=>FirstOk σ' (firstG (t::r)) v):=by
  obtain ⟨ad,rfl⟩:=H.at0 (by omega)
  have HR:=u8_drop H (k:=1) (by omega)
  rw [show (t::r).drop 1=r from rfl,show r.length+1 - 1=r.length by omega] at HR
  have hrow:(u8Rows (t::r))[(0:Int).toNat]?=some [.v (.int .u8 t.toNat)]:=rfl
  have hu:∀ (k:UInt8) (b:Bool),decide ((t.toNat:Int)=k.toNat)=b->decide (t=k)=b:=fun k b h=>by
    rw [<-h,Bool.eq_iff_iff,decide_eq_true_eq,decide_eq_true_eq]
    exact ⟨fun e=>by rw [e],fun e=>UInt8.toNat_inj.1 (by omega)⟩
  refine enter_s Tryd.func39 rfl rfl (by (repeat' (first | exact trivial | constructor))) fun w=>?_
  (repeat (first | refine cj_seq ?_ | refine cjr TT rfl ?_ | refine oj_then ?_))
  refine oj_from TT 1 rfl rfl rfl rfl rfl rfl rfl rfl rfl rfl rfl (by omega) H.ncap ?_
  rw [show r.length+1 - 1=r.length by omega]
  refine oj_run TT rfl ?_
  (repeat (first | refine cj_seq ?_ | refine cjr TT rfl ?_ | refine oj_then ?_))
  refine oj_idx TT rfl rfl rfl rfl rfl rfl rfl rfl rfl H (by omega) (r:=[.v (.int .u8 t.toNat)]) hrow (oj_run TT rfl ?_)
  (repeat (first | refine cj_seq ?_ | refine cjr TT rfl ?_ | refine oj_then ?_ | refine cj_block ?_))
  refine cj_if rfl (fun h=>?_) (fun h=>?_)
  · have h:=of_decide_eq_true (hu 16 true h)
    subst h
    (repeat (first | refine cj_seq ?_ | refine cjr TT rfl ?_ | refine oj_then ?_ | refine cj_ret ?_ | refine nj_then_ret ?_ | refine nj_block_ret ?_))
    refine nj_ret TT rfl fun β w' _ _=>?_
    exact FirstOk.of (p:=part0) HR
  have h16:=of_decide_eq_false (hu 16 false h)
  (repeat (first | refine cj_seq ?_ | refine cjr TT rfl ?_ | refine oj_then ?_))
  refine cj_cutN (fun (_:Unit)=>σ) (fun _=>[(0,.a (.v (.slice (some ad) (r.length+1) cap))),(2,.a (.p 0 0)),(3,.a (.v (.slice none 0 0))),(4,.a (.v (.slice (some (dropA ad cap 1)) r.length (cap - 1)))),(9,.a (.v (.int .u8 t.toNat))),(14,.a (.b (decide (t=32\/t=33))))]) (fun _=>[(0,.loc 49,zeroP)]) (fun _=>[]) 1 (fun _=>True) ?_ (fun _ _=>?_)
  · refine cj_if rfl (fun h=>?_) (fun h=>?_)
    · have h:=of_decide_eq_true (hu 32 true h)
      (repeat refine cj_skip ?_)
      refine nj_set 14 (.a (.b (decide (t=32\/t=33)))) rfl trivial (fun _=>by subst h;rfl) ?_
      refine nj_again () trivial Nat.zero_lt_one rfl (by (repeat first | exact trivial | refine ⟨rfl,?_⟩)) (by (repeat first | exact trivial | refine ⟨rfl,?_⟩)) rfl (by (repeat' (first | exact trivial | exact Nat.le_of_ble_eq_true rfl | constructor))) (by (repeat' (first | exact trivial | exact Nat.le_of_ble_eq_true rfl | refine AllLt.of ?_ | constructor)))
    · have h:=of_decide_eq_false (hu 32 false h)
      (repeat (first | refine cjr TT rfl ?_ | refine oj_nil ?_))
      refine nj_set 14 (.a (.b (decide (t=32\/t=33)))) rfl trivial (fun _=>by
        show Value.bool (decide ((t.toNat:Int)=33))=.bool _
        congr 1
        have e33:decide (t=33)=decide ((t.toNat:Int)=33):=hu 33 _ rfl
        rw [<-e33,Bool.eq_iff_iff,decide_eq_true_eq,decide_eq_true_eq]
        exact ⟨.inr,fun q=>q.resolve_left h⟩) ?_
      refine nj_again () trivial Nat.zero_lt_one rfl (by (repeat first | exact trivial | refine ⟨rfl,?_⟩)) (by (repeat first | exact trivial | refine ⟨rfl,?_⟩)) rfl (by (repeat' (first | exact trivial | exact Nat.le_of_ble_eq_true rfl | constructor))) (by (repeat' (first | exact trivial | exact Nat.le_of_ble_eq_true rfl | refine AllLt.of ?_ | constructor)))
  refine cj_if rfl (fun h=>?_) (fun h=>?_)
  · have h:=of_decide_eq_true (show decide (t=32\/t=33)=true from h)
    have e:firstG (t::r)=some (⟨1,decide (t=33),dec0,emptyB,0⟩,r):=by unfold firstG;dsimp only;rw [if_neg h16,if_pos h]
    rw [e,hu 33 _ rfl]
    (repeat (first | refine cj_seq ?_ | refine cjr TT rfl ?_))
    refine oj_idx TT rfl rfl rfl rfl rfl rfl rfl rfl rfl H (by omega) (r:=[.v (.int .u8 t.toNat)]) hrow (oj_run TT rfl ?_)
    (repeat (first | refine oj_then ?_ | refine cj_ret ?_ | refine nj_then_ret ?_ | refine nj_block_ret ?_))
    refine nj_ret TT rfl fun β w' _ _=>?_
    exact FirstOk.of (p:=⟨1,decide ((t.toNat:Int)=33),dec0,emptyB,0⟩) HR
  have h32:=of_decide_eq_false (show decide (t=32\/t=33)=false from h)
  (repeat (first | refine cj_seq ?_ | refine cjr TT rfl ?_ | refine oj_then ?_))
  refine cj_if rfl (fun h=>?_) (fun h=>?_)
  · have h:=of_decide_eq_true (hu 49 true h)
    have e:firstG (t::r)=some (⟨2,false,dec0,emptyB,0⟩,r):=by unfold firstG;dsimp only;rw [if_neg h16,if_neg h32,if_pos h]
    rw [e]
    (repeat (first | refine cj_seq ?_ | refine cjr TT rfl ?_ | refine oj_then ?_ | refine cj_ret ?_ | refine nj_then_ret ?_ | refine nj_block_ret ?_))
    refine nj_ret TT rfl fun β w' _ _=>?_
    exact FirstOk.of (p:=⟨2,false,dec0,emptyB,0⟩) HR
  have h49:=of_decide_eq_false (hu 49 false h)
  (repeat (first | refine cj_seq ?_ | refine cjr TT rfl ?_ | refine oj_then ?_))
  refine cj_cutN (fun (_:Unit)=>σ) (fun _=>[(0,.a (.v (.slice (some ad) (r.length+1) cap))),(2,.a (.p 0 0)),(3,.a (.v (.slice none 0 0))),(4,.a (.v (.slice (some (dropA ad cap 1)) r.length (cap - 1)))),(9,.a (.v (.int .u8 t.toNat))),(27,.a (.b (decide (t=48\/t=50))))]) (fun _=>[(0,.loc 49,zeroP)]) (fun _=>[]) 1 (fun _=>True) ?_ (fun _ _=>?_)
  · refine cj_if rfl (fun h=>?_) (fun h=>?_)
    · have h:=of_decide_eq_true (hu 48 true h)
      (repeat refine cj_skip ?_)
      refine nj_set 27 (.a (.b (decide (t=48\/t=50)))) rfl trivial (fun _=>by subst h;rfl) ?_
      refine nj_again () trivial Nat.zero_lt_one rfl (by (repeat first | exact trivial | refine ⟨rfl,?_⟩)) (by (repeat first | exact trivial | refine ⟨rfl,?_⟩)) rfl (by (repeat' (first | exact trivial | exact Nat.le_of_ble_eq_true rfl | constructor))) (by (repeat' (first | exact trivial | exact Nat.le_of_ble_eq_true rfl | refine AllLt.of ?_ | constructor)))
    · have h:=of_decide_eq_false (hu 48 false h)
      (repeat (first | refine cjr TT rfl ?_ | refine oj_nil ?_))
      refine nj_set 27 (.a (.b (decide (t=48\/t=50)))) rfl trivial (fun _=>by
        show Value.bool (decide ((t.toNat:Int)=50))=.bool _
        congr 1
        have e50:decide (t=50)=decide ((t.toNat:Int)=50):=hu 50 _ rfl
        rw [<-e50,Bool.eq_iff_iff,decide_eq_true_eq,decide_eq_true_eq]
        exact ⟨.inr,fun q=>q.resolve_left h⟩) ?_
      refine nj_again () trivial Nat.zero_lt_one rfl (by (repeat first | exact trivial | refine ⟨rfl,?_⟩)) (by (repeat first | exact trivial | refine ⟨rfl,?_⟩)) rfl (by (repeat' (first | exact trivial | exact Nat.le_of_ble_eq_true rfl | constructor))) (by (repeat' (first | exact trivial | exact Nat.le_of_ble_eq_true rfl | refine AllLt.of ?_ | constructor)))
  refine cj_if rfl (fun h=>?_) (fun h=>?_)
  · have h:=of_decide_eq_true (show decide (t=48\/t=50)=true from h)
    have e:firstG (t::r)=(numberG r (decide (t=48))).map numP:=by unfold firstG;dsimp only;rw [if_neg h16,if_neg h32,if_neg h49,if_pos h];rfl
    have e48:decide (t=48)=decide ((t.toNat:Int)=48):=hu 48 _ rfl
    rw [e,e48]
    (repeat (first | refine cj_seq ?_ | refine cjr TT rfl ?_))
    refine oj_idx TT rfl rfl rfl rfl rfl rfl rfl rfl rfl H (by omega) (r:=[.v (.int .u8 t.toNat)]) hrow (oj_run TT rfl ?_)
    refine oj_callS rfl rfl rfl rfl rfl Tryd.call50 ⟨trivial,trivial,trivial⟩ (number_c σ r (by omega) _ _ HR (decide ((t.toNat:Int)=48))) fun v s1 hle1 hv=>?_
    cases hn:numberG r (decide ((t.toNat:Int)=48)) with
    | none =>
      rw [hn] at hv
      refine ⟨.tup [.agg zeroP,.a (.v (.slice none 0 0))],(by intro x hx;simp only [List.mem_cons,List.not_mem_nil,or_false] at hx;rcases hx with rfl | rfl;exact zeroP_lt 0;trivial),hv.symm,?_⟩
      refine oj_run TT rfl ?_
      (repeat (first | refine oj_then ?_ | refine cj_ret ?_ | refine nj_then_ret ?_ | refine nj_block_ret ?_))
      refine nj_ret TT rfl fun β w' _ _=>?_
      rfl
    | some p =>
      rw [hn] at hv
      obtain ⟨ad2,rc,hv,HR2⟩:=hv
      refine ⟨.tup [.agg (paCells (numP p).1),.a (.v (.slice (some ad2) (numP p).2.length rc))],(by intro x hx;simp only [List.mem_cons,List.not_mem_nil,or_false] at hx;rcases hx with rfl | rfl;exact paCells_lt 0 _;trivial),hv.symm,?_⟩
      refine oj_run TT rfl ?_
      (repeat (first | refine oj_then ?_ | refine cj_ret ?_ | refine nj_then_ret ?_ | refine nj_block_ret ?_))
      refine nj_ret TT rfl fun β w' _ _=>?_
      exact ⟨ad2,rc,rfl,HR2⟩
  have h48:=of_decide_eq_false (show decide (t=48\/t=50)=false from h)
  (repeat (first | refine cj_seq ?_ | refine cjr TT rfl ?_ | refine oj_then ?_))
  refine cj_if rfl (fun h=>?_) (fun h=>?_)
  · have h:=of_decide_eq_true (hu 64 true h)
    have e:firstG (t::r)=(textG r).map txtP:=by unfold firstG;dsimp only;rw [if_neg h16,if_neg h32,if_neg h49,if_neg h48,if_pos h];rfl
    rw [e]
    (repeat (first | refine cj_seq ?_ | refine cjr TT rfl ?_))
    refine oj_callS rfl rfl rfl rfl rfl Tryd.call51 ⟨trivial,trivial⟩ (text_c σ r (by omega) _ _ HR) fun v s1 hle1 hv=>?_
    cases hn:textG r with
    | none =>
      rw [hn] at hv
      refine ⟨.tup [.agg zeroP,.a (.v (.slice none 0 0))],(by intro x hx;simp only [List.mem_cons,List.not_mem_nil,or_false] at hx;rcases hx with rfl | rfl;exact zeroP_lt 0;trivial),hv.symm,?_⟩
      refine oj_run TT rfl ?_
      (repeat (first | refine oj_then ?_ | refine cj_ret ?_ | refine nj_then_ret ?_ | refine nj_block_ret ?_))
      refine nj_ret TT rfl fun β w' _ _=>?_
      rfl
    | some p =>
      rw [hn] at hv
      obtain ⟨ad2,rc,hv,HR2⟩:=hv
      refine ⟨.tup [.agg (paCells (txtP p).1),.a (.v (.slice (some ad2) (txtP p).2.length rc))],(by intro x hx;simp only [List.mem_cons,List.not_mem_nil,or_false] at hx;rcases hx with rfl | rfl;exact paCells_lt 0 _;trivial),hv.symm,?_⟩
      refine oj_run TT rfl ?_
      (repeat (first | refine oj_then ?_ | refine cj_ret ?_ | refine nj_then_ret ?_ | refine nj_block_ret ?_))
      refine nj_ret TT rfl fun β w' _ _=>?_
      exact ⟨ad2,rc,rfl,HR2⟩
  have h64:=of_decide_eq_false (hu 64 false h)
  (repeat (first | refine cj_seq ?_ | refine cjr TT rfl ?_ | refine oj_then ?_))
  refine cj_if rfl (fun h=>?_) (fun h=>?_)
  · have h:=of_decide_eq_true (hu 80 true h)
    (repeat (first | refine cj_seq ?_ | refine cjr TT rfl ?_ | refine oj_then ?_))
    refine cj_if rfl (fun h4=>?_) (fun h4=>?_)
    · have h4:=of_decide_eq_true (show decide ((4:Int)<=r.length)=true from h4)
      match r,hb,H,HR,hrow,h4 with
      | [],_,_,_,_,h4=>exact absurd h4 (by show ¬ (4:Int)<=0;decide)
      | [_],_,_,_,_,h4=>exact absurd h4 (by show ¬ (4:Int)<=1;decide)
      | [_,_],_,_,_,_,h4=>exact absurd h4 (by show ¬ (4:Int)<=2;decide)
      | [_,_,_],_,_,_,_,h4=>exact absurd h4 (by show ¬ (4:Int)<=3;decide)
      | a::b::c::d::r,hb,H,HR,hrow,h4 =>
        subst h
        have hl4:(a::b::c::d::r).length=r.length+4:=rfl
        have HR4:=u8_drop HR (k:=4) (by omega)
        rw [show (a::b::c::d::r).drop 4=r from rfl,hl4,show r.length+4 - 4=r.length by omega] at HR4
        have e:firstG (80::a::b::c::d::r)=some (⟨9,false,dec0,emptyB,(a.toNat:Int)*16777216+(b.toNat:Int)*65536+(c.toNat:Int)*256+d.toNat⟩,r):=rfl
        rw [e]
        (repeat refine cj_seq ?_)
        refine cj_draw [(0,.pure),(1,.pure),(2,.quiet),(3,.pure),(4,.pure),(5,.pure),(6,.pure),(7,.quiet),(8,.pure),(9,.pure),(10,.pure),(11,.pure),(12,.pure),(13,.quiet),(14,.pure),(15,.pure),(16,.pure),(17,.pure),(18,.pure),(19,.quiet),(20,.pure),(21,.pure),(22,.pure),(23,.pure),(24,.pure),(25,.sink),(26,.pure)] mixed (by kernel_rfl) (oj_run TT rfl ?_)
        refine oj_idx TT rfl rfl rfl rfl rfl rfl rfl rfl rfl HR (by omega) (r:=[.v (.int .u8 a.toNat)]) rfl (oj_run TT rfl ?_)
        refine oj_conv TT (a.toNat:Int) rfl rfl rfl rfl rfl rfl rfl rfl (wrap64 a) (oj_run TT rfl ?_)
        refine oj_bshl rfl rfl rfl rfl rfl rfl (by decide) ?_
        rw [shl64_24 a]
        refine oj_run TT rfl ?_
        refine oj_idx TT rfl rfl rfl rfl rfl rfl rfl rfl rfl HR (by omega) (r:=[.v (.int .u8 b.toNat)]) rfl (oj_run TT rfl ?_)
        refine oj_conv TT (b.toNat:Int) rfl rfl rfl rfl rfl rfl rfl rfl (wrap64 b) (oj_run TT rfl ?_)
        refine oj_bshl rfl rfl rfl rfl rfl rfl (by decide) ?_
        rw [shl64_16 b]
        refine oj_run TT rfl ?_
        refine oj_bor rfl rfl rfl rfl rfl rfl ?_
        rw [or_ab]
        refine oj_run TT rfl ?_
        refine oj_idx TT rfl rfl rfl rfl rfl rfl rfl rfl rfl HR (by omega) (r:=[.v (.int .u8 c.toNat)]) rfl (oj_run TT rfl ?_)
        refine oj_conv TT (c.toNat:Int) rfl rfl rfl rfl rfl rfl rfl rfl (wrap64 c) (oj_run TT rfl ?_)
        refine oj_bshl rfl rfl rfl rfl rfl rfl (by decide) ?_
        rw [shl64 c]
        refine oj_run TT rfl ?_
        refine oj_bor rfl rfl rfl rfl rfl rfl ?_
        rw [or_abc]
        refine oj_run TT rfl ?_
        refine oj_idx TT rfl rfl rfl rfl rfl rfl rfl rfl rfl HR (by omega) (r:=[.v (.int .u8 d.toNat)]) rfl (oj_run TT rfl ?_)
        refine oj_conv TT (d.toNat:Int) rfl rfl rfl rfl rfl rfl rfl rfl (wrap64 d) (oj_run TT rfl ?_)
        refine oj_bor rfl rfl rfl rfl rfl rfl ?_
        rw [or_abcd]
        refine oj_run TT rfl ?_
        refine oj_from TT 4 rfl rfl rfl rfl rfl rfl rfl rfl rfl rfl rfl (by omega) HR.ncap ?_
        rw [hl4,show r.length+4 - 4=r.length by omega]
        refine oj_run TT rfl ?_
        (repeat (first | refine oj_then ?_ | refine cj_ret ?_ | refine nj_then_ret ?_ | refine nj_block_ret ?_))
        refine nj_ret TT rfl fun β w' _ _=>?_
        exact FirstOk.of (p:=⟨9,false,dec0,emptyB,(a.toNat:Int)*16777216+(b.toNat:Int)*65536+(c.toNat:Int)*256+d.toNat⟩) HR4
    · have h4:=of_decide_eq_false (show decide ((4:Int)<=r.length)=false from h4)
      subst h
      rw [first80_short (by omega)]
      (repeat (first | refine cj_seq ?_ | refine cjr TT rfl ?_ | refine oj_then ?_ | refine cj_skip ?_ | refine cj_ret ?_ | refine nj_then ?_ | refine nj_block ?_))
      refine nj_ret TT rfl fun β w' _ _=>?_
      rfl
  have h80:=of_decide_eq_false (hu 80 false h)
  have e:firstG (t::r)=none:=by unfold firstG;dsimp only;rw [if_neg h16,if_neg h32,if_neg h49,if_neg h48,if_neg h64,if_neg h80]
  rw [e]
  (repeat (first | refine cj_seq ?_ | refine cjr TT rfl ?_ | refine oj_then ?_ | refine cj_skip ?_ | refine cj_ret ?_ | refine nj_then ?_ | refine nj_block ?_))
  refine nj_ret TT rfl fun β w' _ _=>?_
  rfl
end Go.Sy
namespace Go.Sy
open Go.Proofs
theorem cell_DL {σ:Snap} {D l:Nat} {r:Loop} (hDl:D≠l) (hD:σ D=none) (hl:σ l=none) (a:Addr):((σ.set D (some (.deferred (some [])))).set l (some (.loop r))).cell a=σ.cell a:=by
  rw [Snap.cell_set (fun o e=>by rw [Snap.set_ne (Ne.symm hDl),hl] at e;cases e) (fun o e=>by injection e with e;subst e;rfl),Snap.cell_set (fun o e=>by rw [hD] at e;cases e) (fun o e=>by injection e with e;subst e;rfl)]
theorem okRd_of {rd:Option Nat} {ops:Array Oper} (h:ops.toList.all noDefer=true):okRd rd ops=true:=by
  cases rd with
  | none=>rfl
  | some l=>simp only [okRd];rw [<-Array.all_toList];exact h
theorem IterC.mono {P:Program} {f:FuncId} {args:Array Value} {l:Nat} {σ:Snap} {A:List AE} {Φ Ψ:Value->Snap->List AE->Prop} (h:IterC P f args l σ A Φ) (hi:∀ v s A',Φ v s A'->Ψ v s A'):IterC P f args l σ A Ψ :=
  fun w hw=>Calls.mono (h w hw) fun _ _ ⟨v,σ',A',h1,h2,h3⟩=>⟨v,σ',A',h1,h2,hi _ _ _ h3⟩
def boxE (g e:Nat) (v:Value):AE:=⟨some ⟨g,0,none⟩,1,1,e,1,[v]⟩
end Go.Sy
namespace Go.Sy
open Go.Proofs
def decR (ps:List GPart) (l:List UInt8):List GPart×Int :=
  match decF l.length ps.length l with
  | .ok q=>(ps++q,0)
  | .error e=>([],e)
theorem first_less {c:UInt8} {b r:List UInt8} {p:GPart} (h:firstG (c::b)=some (p,r)):r.length<=b.length:=by
  obtain ⟨hp,e⟩:=put_first h
  have hl:0<(putG p).length:=List.length_pos_iff.2 (put_ne hp)
  have:=congrArg List.length e
  rw [List.length_append,List.length_cons] at this
  omega
theorem decF_fuel:∀ (n m k:Nat) (l:List UInt8),l.length<=n->l.length<=m->decF n k l=decF m k l
  | 0,m,k,[],_,_=>by cases m<;>rfl
  | n+1,m,k,[],_,_=>by cases m<;>rfl
  | n+1,0,k,c::b,_,h=>by simp at h
  | n+1,m+1,k,c::b,hn,hm=>by
    rw [decF,decF]
    cases hf:firstG (c::b) with
    | none=>rfl
    | some q =>
      obtain ⟨p,r⟩:=q
      have hl:=first_less hf
      simp only [List.length_cons] at hn hm
      dsimp only
      rw [decF_fuel n m (k+1) r (by omega) (by omega)]
theorem decR_nil (ps:List GPart):decR ps []=(ps,0):=by
  show (ps++[],(0:Int))=_
  rw [List.append_nil]
theorem decR_none {ps:List GPart} {c:UInt8} {b:List UInt8} (h:firstG (c::b)=none):decR ps (c::b)=([],2):=by
  unfold decR
  rw [List.length_cons,decF,h]
theorem decR_full {ps:List GPart} {c:UInt8} {b r:List UInt8} {p:GPart} (h:firstG (c::b)=some (p,r)) (h16:ps.length=16):decR ps (c::b)=([],4):=by
  unfold decR
  rw [List.length_cons,decF,h]
  dsimp only
  rw [if_pos h16]
theorem decR_some {ps:List GPart} {c:UInt8} {b r:List UInt8} {p:GPart} (h:firstG (c::b)=some (p,r)) (h16:ps.length≠16):decR ps (c::b)=decR (ps++[p]) r:=by
  unfold decR
  rw [List.length_cons,decF,h]
  dsimp only
  rw [if_neg h16,decF_fuel b.length r.length (ps.length+1) r (first_less h) (Nat.le_refl _),List.length_append]
  show (match (match decF r.length (ps.length+1) r with | .ok l=>Except.ok (p::l) | .error e=>Except.error e) with | .ok q=>(ps++q,(0:Int)) | .error e=>([],e))=(match decF r.length (ps.length+1) r with | .ok q=>(ps++[p]++q,(0:Int)) | .error e=>([],e))
  cases decF r.length (ps.length+1) r with
  | ok l=>simp
  | error e=>rfl
theorem decG_R (b:List UInt8):decG b=decR [] b:=by
  unfold decG decR
  rw [List.length_nil]
  cases decF b.length 0 b with
  | ok l=>rfl
  | error e=>rfl
section
variable {cf:Cf} {Q:Exit->Act->World->Prop} {σ:Snap} {env:Env} {hp:HP} {A:List AE} {nh:Nat} {it:Item} {rest:List Item}
theorem oj_slnn {d:Nat} {x y:Operand} {t yt e:TypeId} {T:List (Nat×TI)} (hT:TTok cf.P T) {ti:TI} {ao:Option Addr} {n c n' c':Nat} (hop:it.o.op=.binOp .neq t x y yt) (hd:it.o.dst=some d)
    (hg:guardVal it.guard env=some true) (hN:Nat.blt d cf.N=true) (hx:evalO env x=some (.a (.v (.slice ao n c)))) (hy:evalO env y=some (.a (.v (.slice none n' c')))) (ht:tget T t=some ti) (hkd:ti.kind=.slice e)
    (hk:OJ cf rest Q σ ((d,.a (.b (!ao.isNone)))::env) hp A nh):OJ cf (it::rest) Q σ env hp A nh:=by
  refine oj_val (.a (.b (!ao.isNone))) hd hg hN trivial (fun _ a β ha w=>?_) hk
  have hun:=tk_slice (hT _ _ ht) hkd
  have h1:a.eval x=.slice ao n c:=evalO_eval ha hx
  have h2:a.eval y=.slice none n' c':=evalO_eval ha hy
  have hE:(Op.equal t (.slice ao n c) (.slice none n' c')).run cf.P w=.ok ao.isNone w:=run_eqNil hun 9999 ao n c n' c' w
  have hG:(eqGuard .neq t x y (.slice ao n c) (.slice none n' c')).run cf.P w=.ok () w:=rfl
  have hB:(binOp .neq t (.slice ao n c) (.slice none n' c')).run cf.P w=.ok (.bool (!ao.isNone)) w:=by
    simp only [binOp,Sem.run_bind,hE,Result.andThen_ok,Sem.run_pure]
  simp only [execOp,hop,h1,h2,Sem.run_bind,hG,hB,Result.andThen_ok,Sem.run_pure]
  rfl
end
set_option maxRecDepth 100000 in
set_option maxHeartbeats 1000000 in
theorem parts_c (σ:Snap) (ao:Option Addr) (n cap:Nat) :
    FnS Tryd.prog 27 [.a (.v (.slice ao n cap))] σ [] (fun v _ A'=>∃ g,v=.func (.func 38) #[] #[.pointer (some ⟨g,0,none⟩)]/\A'=[boxE g 22 (.slice ao n cap)]):=by
  refine enter_f Tryd.func27 rfl rfl (by (repeat' (first | exact trivial | constructor))) fun w=>?_
  (repeat (first | refine cj_seq ?_ | refine cjr TT rfl ?_ | refine oj_then ?_ | refine cj_ret ?_))
  refine nj_own 0 1 1 rfl (by (repeat' (first | exact trivial | refine AllLt.of ?_ | constructor))) rfl (by decide) fun g=>?_
  refine nj_fret TT rfl fun β w' _ _=>?_
  exact ⟨g,rfl,rfl⟩
structure PtS where
  s:Snap
  b:List UInt8
  ao:Option Addr
  cap:Nat
  F1:AE
  F2:AE
  F3:AE
  F4:AE
set_option maxRecDepth 100000 in
set_option maxHeartbeats 4000000 in
theorem partsIt_c (σ:Snap) (l:Nat) (r:Loop) (g:Nat) (b:List UInt8) (hb:b.length<=1000000) (ao:Option Addr) (cap:Nat) (E1 E2 E3 E4:AE) (Inv:List UInt8->AE->AE->AE->AE->Prop) (Stop:Snap->AE->AE->AE->AE->Prop)
    (hl:σ l=some (.loop r)) (hp:Nat.beq 2 r.params.size=true) (H:SlAt σ ao b.length cap 1 (u8Rows b)) (h0:Inv b E1 E2 E3 E4)
    (hnone:∀ (c:UInt8) (q:List UInt8) (s:Snap) (F1 F2 F3 F4:AE),s l=some (.loop r)->σ.leB l s->Inv (c::q) F1 F2 F3 F4->firstG (c::q)=none ->
      RoundC Tryd.prog l r (([.agg zeroP,.a .ff]:List SV).map (SV.den β0)).toArray s [F1,F2,F3,F4] (fun v s' A'=>∃ G1 G2 G3 G4,A'=[G1,G2,G3,G4]/\v=.bool false/\Stop s' G1 G2 G3 G4))
    (hsome:∀ (c:UInt8) (q:List UInt8) (p:GPart) (t:List UInt8) (s:Snap) (F1 F2 F3 F4:AE),s l=some (.loop r)->σ.leB l s->Inv (c::q) F1 F2 F3 F4->firstG (c::q)=some (p,t) ->
      RoundC Tryd.prog l r (([.agg (paCells p),.a .tt]:List SV).map (SV.den β0)).toArray s [F1,F2,F3,F4] (fun v s' A'=>∃ G1 G2 G3 G4,A'=[G1,G2,G3,G4]/\((v=.bool true/\s' l=some (.loop r)/\Inv t G1 G2 G3 G4)\/(v=.bool false/\Stop s' G1 G2 G3 G4)))) :
    IterC Tryd.prog 38 (([.a (.fn (.yield l) []),.a (.v (.pointer (some ⟨g,0,none⟩)))]:List SV).map (SV.den β0)).toArray l σ [E1,E2,E3,E4,boxE g 22 (.slice ao b.length cap)] (fun _ s' A'=>∃ G1 G2 G3 G4 G5,A'=[G1,G2,G3,G4,G5]/\((s' l=some (.loop r)/\Inv [] G1 G2 G3 G4)\/Stop s' G1 G2 G3 G4)):=by
  refine enter_it Tryd.func38 rfl rfl ⟨SV.lt_fn0,trivial,trivial⟩ fun w=>?_
  (repeat refine cj_block ?_)
  refine cj_loop (fun (t:PtS)=>t.s) (fun _=>[(0,.a (.fn (.yield l) [])),(1,.a (.v (.pointer (some ⟨g,0,none⟩))))]) (fun _=>[]) (fun t=>[t.F1,t.F2,t.F3,t.F4,boxE g 22 (.slice t.ao t.b.length t.cap)]) 0
    (fun t=>t.s l=some (.loop r)/\σ.leB l t.s/\SlAt t.s t.ao t.b.length t.cap 1 (u8Rows t.b)/\t.b.length<=b.length/\Inv t.b t.F1 t.F2 t.F3 t.F4) (fun t=>t.b.length) ⟨σ,b,ao,cap,E1,E2,E3,E4⟩ ⟨hl,fun b o h=>?_,H,Nat.le_refl _,h0⟩ rfl (by (repeat first | exact trivial | refine ⟨rfl,?_⟩)) (by (repeat first | exact trivial | refine ⟨rfl,?_⟩)) rfl ⟨SV.lt_fn0,trivial,trivial⟩ (by (repeat' exact trivial)) fun ⟨s,q,qo,qc,F1,F2,F3,F4⟩ ⟨hsl,hs,HQ,hq,hI⟩=>?_
  · by_cases hb:b=l
    · subst hb;rw [Snap.set_self] at h;cases h
    · rw [Snap.set_ne hb] at h;exact h
  dsimp only at hsl hs HQ hq hI ⊢
  (repeat (first | refine cj_seq ?_ | refine cjr TT rfl ?_))
  refine oj_ldA 4 (c:=.v (.slice qo q.length qc)) TT rfl rfl rfl rfl rfl rfl rfl rfl rfl rfl rfl trivial (oj_run TT rfl ?_)
  (repeat refine oj_then ?_)
  refine cj_if rfl (fun h=>?_) (fun h=>?_)
  rotate_left
  · have h:=of_decide_eq_false (show decide ((0:Int)<q.length)=false from h)
    have hq0:q=[]:=List.eq_nil_of_length_eq_zero (by omega)
    subst hq0
    (repeat (first | refine cj_exit ?_ | refine nj_then_exit ?_ | refine nj_block_out ?_))
    refine nj_iend TT rfl fun β=>?_
    exact ⟨F1,F2,F3,F4,_,rfl,.inl ⟨hsl,hI⟩⟩
  have h:=of_decide_eq_true (show decide ((0:Int)<q.length)=true from h)
  cases q with
  | nil=>exact absurd h (by decide)
  | cons c q =>
    rw [List.length_cons] at HQ hq ⊢
    (repeat (first | refine cj_seq ?_ | refine cjr TT rfl ?_ | refine cj_skip ?_ | refine cj_block ?_ | refine nj_then ?_))
    refine oj_ldA 4 (c:=.v (.slice qo (q.length+1) qc)) TT rfl rfl rfl rfl rfl rfl rfl rfl rfl rfl rfl trivial (oj_run TT rfl ?_)
    refine oj_callS rfl rfl rfl rfl rfl Tryd.call39 ⟨trivial,trivial⟩ (first_c s c q (by omega) qo qc HQ) fun v s1 hle1 hv=>?_
    have hsl1:s1 l=some (.loop r):=hle1 _ _ hsl
    have hs1:σ.leB l s1:=fun b o h=>hle1 _ _ (hs b o h)
    cases hf:firstG (c::q) with
    | none =>
      rw [hf] at hv
      refine ⟨.tup [.agg zeroP,.a (.v (.slice none 0 0))],(by intro x hx;simp only [List.mem_cons,List.not_mem_nil,or_false] at hx;rcases hx with rfl | rfl;exact zeroP_lt 0;trivial),hv.symm,?_⟩
      refine oj_run TT rfl ?_
      (repeat (first | refine cj_seq ?_ | refine cjr TT rfl ?_ | refine oj_then ?_))
      refine oj_slnn TT rfl rfl rfl rfl rfl rfl rfl rfl (oj_run TT rfl ?_)
      refine oj_yield [0,1,2,3,4] (A0:=[F1,F2,F3,F4]) (Ar:=[boxE g 22 (.slice qo (q.length+1) qc)]) hsl1 (Snap.set_self ..) rfl rfl rfl hp rfl rfl rfl rfl ⟨zeroP_lt 0,trivial,trivial⟩ (hnone c q s1 F1 F2 F3 F4 hsl1 hs1 hI hf) fun v s' A' hle ⟨G1,G2,G3,G4,hA,hv,hst⟩=>?_
      subst hA
      refine ⟨.a .ff,trivial,hv.symm,oj_run TT rfl ?_⟩
      (repeat (first | refine oj_then ?_ | refine cj_if_t rfl ?_ | refine cj_ret ?_ | refine nj_then_ret ?_ | refine nj_block_ret ?_))
      refine nj_iret TT rfl fun β=>?_
      exact ⟨G1,G2,G3,G4,_,rfl,.inr hst⟩
    | some pt =>
      obtain ⟨p,t⟩:=pt
      rw [hf] at hv
      obtain ⟨ad2,rc,hv,HT⟩:=hv
      refine ⟨.tup [.agg (paCells p),.a (.v (.slice (some ad2) t.length rc))],(by intro x hx;simp only [List.mem_cons,List.not_mem_nil,or_false] at hx;rcases hx with rfl | rfl;exact paCells_lt 0 _;trivial),hv.symm,?_⟩
      refine oj_run TT rfl ?_
      (repeat (first | refine cj_seq ?_ | refine cjr TT rfl ?_ | refine oj_then ?_))
      refine oj_slnn TT rfl rfl rfl rfl rfl rfl rfl rfl (oj_run TT rfl ?_)
      refine oj_yield [0,1,2,3,4] (A0:=[F1,F2,F3,F4]) (Ar:=[boxE g 22 (.slice qo (q.length+1) qc)]) hsl1 (Snap.set_self ..) rfl rfl rfl hp rfl rfl rfl rfl ⟨paCells_lt 0 p,trivial,trivial⟩ (hsome c q p t s1 F1 F2 F3 F4 hsl1 hs1 hI hf) fun v s' A' hle ⟨G1,G2,G3,G4,hA,hv⟩=>?_
      subst hA
      have hs':σ.leB l s':=fun b o h=>by
        have hb:b≠l:=fun e=>by subst e;rw [Snap.set_self] at h;cases h
        rw [Snap.set_ne hb] at h
        exact hle.at_ hb (hs1.at_ hb h)
      have hlt:=first_less hf
      rcases hv with ⟨hv,hsl',hI'⟩ | ⟨hv,hst⟩
      · refine ⟨.a .tt,trivial,hv.symm,oj_run TT rfl ?_⟩
        (repeat (first | refine oj_then ?_ | (refine oj_slnil TT rfl rfl rfl rfl rfl rfl rfl rfl ?_;refine oj_run TT rfl ?_)))
        refine cj_if rfl (fun h=>absurd (show false=true from h) (by decide)) (fun _=>?_)
        (repeat (first | refine cjr TT rfl ?_ | refine cj_skip ?_ | refine nj_then ?_))
        refine oj_stA 4 (A':=[G1,G2,G3,G4,boxE g 22 (.slice (some ad2) t.length rc)]) (c:=.v (.slice (some ad2) t.length rc)) TT rfl rfl rfl rfl rfl rfl rfl rfl rfl rfl Nat.zero_lt_one trivial rfl rfl (oj_run TT rfl ?_)
        (repeat (first | refine oj_nil ?_ | refine nj_block ?_))
        refine nj_again (⟨s',t,some ad2,rc,G1,G2,G3,G4⟩:PtS) ⟨hsl',hs',HT.monoC (hle.cle hsl1),by dsimp only;omega,hI'⟩ (by dsimp only;omega) rfl (by (repeat first | exact trivial | refine ⟨rfl,?_⟩)) (by (repeat first | exact trivial | refine ⟨rfl,?_⟩)) rfl ⟨SV.lt_fn0,trivial,trivial⟩ (by (repeat' exact trivial))
      · refine ⟨.a .ff,trivial,hv.symm,oj_run TT rfl ?_⟩
        (repeat (first | refine oj_then ?_ | refine cj_if_t rfl ?_ | refine cj_ret ?_ | refine nj_then_ret ?_ | refine nj_block_ret ?_))
        refine nj_iret TT rfl fun β=>?_
        exact ⟨G1,G2,G3,G4,_,rfl,.inr hst⟩
end Go.Sy
namespace Go.Sy
open Go.Proofs
theorem results_cellA2 {cf:Cf} {σ:Snap} {env:Env} {hp:HP} {A:List AE} {β:Nat->Addr} {a:Act} {w:World} {T:List (Nat×TI)} (hT:TTok cf.P T) (ha:StA cf env β a) (hw:StW cf σ hp A β w) {fn:Func} {p t p2 t2:Nat} {ti ti2:TI} {g g2 i i2:Nat} {E E2:AE} {v v2:Value}
    (hr:fn.results=#[.cell p t,.cell p2 t2]) (hp':env.get p=some (.a (.v (.pointer (some ⟨g,0,none⟩))))) (hp2:env.get p2=some (.a (.v (.pointer (some ⟨g2,0,none⟩))))) (ht:tget T t=some ti) (hag:ti.agg=false) (ht2:tget T t2=some ti2) (hag2:ti2.agg=false)
    (hi:A[i]?=some E) (hE:E.ao=some ⟨g,0,none⟩) (hv:E.xs[0]?=some v) (hi2:A[i2]?=some E2) (hE2:E2.ao=some ⟨g2,0,none⟩) (hv2:E2.xs[0]?=some v2) :
    (results fn a.tmps).run cf.P w=.ok (.tuple #[v,v2]) w:=by
  obtain ⟨inf,d',z,hs⟩:=tiOf_spec (hT _ _ ht)
  obtain ⟨inf2,d2',z2,hs2⟩:=tiOf_spec (hT _ _ ht2)
  have hcell:=(hw.arr i E hi).cell hE hv
  have hcell2:=(hw.arr i2 E2 hi2).cell hE2 hv2
  have hx:a.tmps.getD p undef=.pointer (some ⟨g,0,none⟩):=evalO_eval (x:=.tmp p) ha hp'
  have hx2:a.tmps.getD p2 undef=.pointer (some ⟨g2,0,none⟩):=evalO_eval (x:=.tmp p2) ha hp2
  have hload:(load ⟨g,0,none⟩).run cf.P w=.ok v w:=by rw [run_load,hcell]
  have hload2:(load ⟨g2,0,none⟩).run cf.P w=.ok v2 w:=by rw [run_load,hcell2]
  rw [results_eq,hr,Array.mapM_eq_mapM_toList,Sem.run_bind,Sem.run_map]
  simp only [List.mapM_cons,List.mapM_nil,Sem.run_bind,Sem.run_pure,resOne,hx,hx2,asAddr,loadVar,Result.andThen_ok,run_isAgg hs.und,hs.agg,hag,run_isAgg hs2.und,hs2.agg,hag2,Bool.false_eq_true,if_false,hload,hload2]
  rfl
theorem nj_mretA2 {P:Program} {w0:World} {σ0:Snap} {M:Nat->Prop} {N:Nat} {T:List (Nat×TI)} {fn:Func} {Post:Value->World->Snap->Prop} {σ:Snap} {env:Env} {hp:HP} {A:List AE} {nh:Nat} {D:Nat} (hD:σ D=some (.deferred (some []))) (h0:σ0 D=none) (hT:TTok P T)
    {p t p2 t2:Nat} {ti ti2:TI} {g g2:Nat} (i i2:Nat) {E E2:AE} (v v2:Value) (hr:fn.results=#[.cell p t,.cell p2 t2]) (hp':env.get p=some (.a (.v (.pointer (some ⟨g,0,none⟩))))) (hp2:env.get p2=some (.a (.v (.pointer (some ⟨g2,0,none⟩))))) (ht:tget T t=some ti) (hag:ti.agg=false) (ht2:tget T t2=some ti2) (hag2:ti2.agg=false)
    (hi:A[i]?=some E) (hE:E.ao=some ⟨g,0,none⟩) (hv:E.xs[0]?=some v) (hi2:A[i2]?=some E2) (hE2:E2.ao=some ⟨g2,0,none⟩) (hv2:E2.xs[0]?=some v2)
    (h:∀ w,Post (.tuple #[v,v2]) w (σ.set D none)) :
    NJ ⟨P,w0,σ0,M,N,[markD D],none⟩ .ret (bodyPostM (FR none) 0 P fn (postR w0 M σ0 Post)) σ env hp A nh:=⟨fun hb a β w ha hw=>by
  show LeavesInM (FR none) 0 P fn a.tmps _ a.defers .returning w
  rw [ha.defers]
  have hfin:StW ⟨P,w0,σ0,M,N,[],none⟩ (σ.set D none) hp A β (w.putObj D (.deferred none)):=(hw.swap (w':=w.putObj D (.deferred none)) none (hw.sealed _ _ hD) rfl h0 (hw.own_of hD h0) rfl rfl rfl (by simp) (fun c hc=>World.putObj_heap_other hc) fun _ e=>(by cases e)).re _ _ _
  have ha':StA ⟨P,w0,σ0,M,N,[],none⟩ env β ⟨a.tmps,[]⟩:=⟨ha.size,rfl,ha.env⟩
  refine ⟨by simp,.inl ⟨D,_,rfl,run_takeDeferred (hw.sealed _ _ hD),_,results_cellA2 (cf:=⟨P,w0,σ0,M,N,[],none⟩) hT ha' hfin hr hp' hp2 ht hag ht2 hag2 hi hE hv hi2 hE2 hv2,_,σ.set D none,rfl,Fr.of hfin,SGrow.of hfin,hfin.sealed,h _⟩⟩⟩
theorem cell_D0 {σ:Snap} {D:Nat} (hD:σ D=some (.deferred (some []))) (a:Addr) {v:Value} (h:σ.cell a=some v):(σ.set D none).cell a=some v:=by
  unfold Snap.cell at h ⊢
  have hb:a.block≠D:=fun e=>by rw [e,hD] at h;cases h
  rw [Snap.set_ne hb]
  exact h
theorem enter_ms {P:Program} {f:FuncId} {fn:Func} {c:Code} {svs:List SV} {σ:Snap} {Φ:Value->Snap->Prop}
    (hf:P.funcs[f]?=some fn) (hb:fn.body=some c) (hN:Nat.ble svs.length fn.ntmps=true) (hlt:LtAll svs)
    (h:∀ w,CJ ⟨P,w,σ,fun _=>False,fn.ntmps,[],none⟩ c (bodyPostM (FR none) 0 P fn (postR w (fun _=>False) σ (fun v _ σ'=>Φ v σ'))) σ (argEnv 0 svs) [] [] 0):PureS P f svs σ Φ :=
  fun w hs=>enter_m hf hb svs [] rfl hN hlt (StW.start hs β0) (h w)
set_option maxRecDepth 100000 in
set_option maxHeartbeats 4000000 in
theorem Decode_c (σ:Snap) (b:List UInt8) (hb:b.length<=1000000) (ao:Option Addr) (cap:Nat) (H:SlAt σ ao b.length cap 1 (u8Rows b)) :
    PureS Tryd.prog 15 [.a (.v (.slice ao b.length cap))] σ (fun v σ'=>∃ bo bc,v=.tuple #[.slice bo (decG b).1.length bc,.int .i64 (decG b).2]/\SlAt σ' bo (decG b).1.length bc 7 (paRows (decG b).1)):=by
  refine enter_ms Tryd.func15 rfl rfl (by (repeat' (first | exact trivial | constructor))) fun w=>?_
  (repeat (first | refine cj_seq ?_ | refine cjr TT rfl ?_ | refine oj_then ?_))
  refine oj_callF [] (A0:=[]) (Ar:=[]) rfl rfl rfl rfl rfl rfl rfl Tryd.call27 (by (repeat' (first | exact trivial | constructor))) (parts_c σ ao b.length cap) fun v s1 A' hle1 ⟨g,hv,hA⟩=>⟨.a (.fn (.func 38) [.val (.pointer (some ⟨g,0,none⟩))]),(fun x hx=>by simp at hx;subst hx;trivial),hv.symm,oj_run TT rfl ?_⟩
  subst hA
  refine oj_nil (nj_then (cj_block ?_))
  refine cj_own 0 1 1 rfl (by (repeat' (first | exact trivial | refine AllLt.of ?_ | constructor))) rfl (by decide) fun g2=>?_
  refine cj_own 1 1 1 rfl (by (repeat' (first | exact trivial | refine AllLt.of ?_ | constructor))) rfl (by decide) fun g3=>?_
  refine cj_own 2 1 1 rfl (by (repeat' (first | exact trivial | refine AllLt.of ?_ | constructor))) rfl (by decide) fun g4=>?_
  refine cj_nilarr 49 7 ?_
  refine cj_sub (env':=[(2,.a (.v (.pointer (some ⟨g2,0,none⟩)))),(3,.a (.v (.pointer (some ⟨g3,0,none⟩)))),(4,.a (.v (.pointer (some ⟨g4,0,none⟩)))),(8,.a (.fn (.func 38) [.val (.pointer (some ⟨g,0,none⟩))]))]) (hp':=[]) (subE_of (by (repeat first | exact trivial | refine ⟨rfl,?_⟩))) (subH_of trivial) ?_
  have H:=H.mono hle1
  let Inv:List UInt8->AE->AE->AE->AE->Prop:=fun q F1 F2 F3 F4=>F1=boxE g2 32 (.slice none 0 0)/\F2=boxE g3 29 (.int .i64 0)/\∃ (ps:List GPart) (oo:Option Addr) (oc:Nat),F3=boxE g4 32 (.slice oo ps.length oc)/\F4=paE 49 oo oc ps/\ps.length<=oc/\ps.length<=16/\decR ps q=decG b
  let Stop:Nat->Snap->AE->AE->AE->AE->Prop:=fun l s G1 G2 _ _=>G1=boxE g2 32 (.slice none 0 0)/\(∃ e:Int,G2=boxE g3 29 (.int .i64 e)/\decG b=([],e))/\∃ r',s l=some (.loop r')/\r'.state=.done/\r'.pending=some .ret
  refine cj_rangeFunc [1,2,3,4,0] (A0:=[boxE g2 32 (.slice none 0 0),boxE g3 29 (.int .i64 0),boxE g4 32 (.slice none 0 0),paE 49 none 0 [],boxE g 22 (.slice ao b.length cap)]) (Ar:=[]) rfl rfl rfl ⟨trivial,trivial⟩ ⟨trivial,trivial,trivial,(fun x hx=>by simp at hx;subst hx;trivial),trivial⟩ Tryd.call38
    (fun D l r v s A=>(r.state=.ready/\r.pending=none)/\∃ G1 G2 G3 G4 G5,A=[G1,G2,G3,G4,G5]/\((s l=some (.loop r)/\Inv [] G1 G2 G3 G4)\/Stop l s G1 G2 G3 G4)) (fun fid D l tmps hts hte hDl hD hl hl0=>?_) (fun D l r v s A ⟨⟨hst,hpe⟩,G1,G2,G3,G4,G5,hA,hh⟩ hD0 hl0 hsD hcle hle=>?_)
  · have hcell:=fun r=>cell_DL (r:=r) hDl hD hl
    refine IterC.mono (Φ:=fun _ s A=>∃ G1 G2 G3 G4 G5,A=[G1,G2,G3,G4,G5]/\((s l=some (.loop _)/\Inv [] G1 G2 G3 G4)\/Stop l s G1 G2 G3 G4)) ?_ fun v s A h=>⟨⟨rfl,rfl⟩,h⟩
    refine partsIt_c _ l _ g b hb ao cap _ _ _ _ Inv (Stop l) (Snap.set_self ..) rfl (H.monoC fun a v hv=>by rw [hcell];exact hv) ⟨rfl,rfl,[],none,0,rfl,rfl,Nat.le_refl _,Nat.zero_le _,(decG_R b).symm⟩ ?_ ?_
    · intro c q s F1 F2 F3 F4 hsl hsb hI hf
      obtain ⟨h1,h2,ps,oo,oc,h3,h4,hoc,h16,hR⟩:=hI
      subst h1 h2 h3 h4
      rw [decR_none hf] at hR
      refine roundC_of (N:=Tryd.f15.ntmps) (env:=[(2,.a (.v (.pointer (some ⟨g2,0,none⟩)))),(3,.a (.v (.pointer (some ⟨g3,0,none⟩)))),(4,.a (.v (.pointer (some ⟨g4,0,none⟩)))),(8,.a (.fn (.func 38) [.val (.pointer (some ⟨g,0,none⟩))]))]) hts hte [9,10] rfl rfl rfl ⟨zeroP_lt 0,trivial,trivial⟩ ⟨trivial,trivial,trivial,(fun x hx=>by simp at hx;subst hx;trivial),trivial⟩ fun w'=>?_
      dsimp only
      (repeat (first | refine cj_seq ?_ | (refine cj_region ?_ (okRd_of rfl);refine oj_run TT rfl ?_) | refine oj_then ?_ | refine oj_nil ?_))
      refine nj_begin hsl rfl (Snap.set_self ..) ?_
      (repeat (first | refine cj_seq ?_ | (refine cj_region ?_ (okRd_of rfl);refine oj_run TT rfl ?_) | refine oj_then ?_ | refine cj_if_t rfl ?_ | refine cj_block ?_))
      refine oj_stA 0 (A':=[boxE g2 32 (.slice none 0 0),boxE g3 29 (.int .i64 0),boxE g4 32 (.slice oo ps.length oc),paE 49 oo oc ps]) (c:=.v (.slice none 0 0)) TT rfl rfl rfl rfl rfl rfl rfl rfl rfl rfl Nat.zero_lt_one trivial rfl rfl (oj_run TT rfl ?_)
      refine oj_stA 1 (A':=[boxE g2 32 (.slice none 0 0),boxE g3 29 (.int .i64 2),boxE g4 32 (.slice oo ps.length oc),paE 49 oo oc ps]) (c:=.v (.int .i64 2)) TT rfl rfl rfl rfl rfl rfl rfl rfl rfl rfl Nat.zero_lt_one trivial rfl rfl (oj_run TT rfl ?_)
      (repeat (first | refine oj_then ?_ | refine cj_ret ?_ | refine nj_then_ret ?_ | refine nj_block_ret ?_))
      refine nj_rndR (Snap.set_self ..) ?_
      exact ⟨_,_,_,_,rfl,rfl,rfl,⟨2,rfl,hR.symm⟩,_,Snap.set_self ..,rfl,rfl⟩
    · intro c q p t s F1 F2 F3 F4 hsl hsb hI hf
      obtain ⟨h1,h2,ps,oo,oc,h3,h4,hoc,h16,hR⟩:=hI
      subst h1 h2 h3 h4
      refine roundC_of (N:=Tryd.f15.ntmps) (env:=[(2,.a (.v (.pointer (some ⟨g2,0,none⟩)))),(3,.a (.v (.pointer (some ⟨g3,0,none⟩)))),(4,.a (.v (.pointer (some ⟨g4,0,none⟩)))),(8,.a (.fn (.func 38) [.val (.pointer (some ⟨g,0,none⟩))]))]) hts hte [9,10] rfl rfl rfl ⟨paCells_lt 0 p,trivial,trivial⟩ ⟨trivial,trivial,trivial,(fun x hx=>by simp at hx;subst hx;trivial),trivial⟩ fun w'=>?_
      dsimp only
      (repeat (first | refine cj_seq ?_ | (refine cj_region ?_ (okRd_of rfl);refine oj_run TT rfl ?_) | refine oj_then ?_ | refine oj_nil ?_))
      refine nj_begin hsl rfl (Snap.set_self ..) ?_
      (repeat (first | refine cj_seq ?_ | (refine cj_region ?_ (okRd_of rfl);refine oj_run TT rfl ?_) | refine oj_then ?_ | refine cj_if_f rfl ?_ | refine cj_block ?_))
      refine oj_ldA 2 (c:=.v (.slice oo ps.length oc)) TT rfl rfl rfl rfl rfl rfl rfl rfl rfl rfl rfl trivial (oj_run TT rfl ?_)
      (repeat refine oj_then ?_)
      refine cj_if rfl (fun h=>?_) (fun h=>?_)
      · have h:=of_decide_eq_true (show decide ((ps.length:Int)=16)=true from h)
        rw [decR_full hf (by omega)] at hR
        (repeat (first | refine cj_seq ?_ | (refine cj_region ?_ (okRd_of rfl);refine oj_run TT rfl ?_)))
        refine oj_stA 0 (A':=[boxE g2 32 (.slice none 0 0),boxE g3 29 (.int .i64 0),boxE g4 32 (.slice oo ps.length oc),paE 49 oo oc ps]) (c:=.v (.slice none 0 0)) TT rfl rfl rfl rfl rfl rfl rfl rfl rfl rfl Nat.zero_lt_one trivial rfl rfl (oj_run TT rfl ?_)
        refine oj_stA 1 (A':=[boxE g2 32 (.slice none 0 0),boxE g3 29 (.int .i64 4),boxE g4 32 (.slice oo ps.length oc),paE 49 oo oc ps]) (c:=.v (.int .i64 4)) TT rfl rfl rfl rfl rfl rfl rfl rfl rfl rfl Nat.zero_lt_one trivial rfl rfl (oj_run TT rfl ?_)
        (repeat (first | refine oj_then ?_ | refine cj_ret ?_ | refine nj_then_ret ?_ | refine nj_block_ret ?_))
        refine nj_rndR (Snap.set_self ..) ?_
        exact ⟨_,_,_,_,rfl,.inr ⟨rfl,rfl,⟨4,rfl,hR.symm⟩,_,Snap.set_self ..,rfl,rfl⟩⟩
      · have h:=of_decide_eq_false (show decide ((ps.length:Int)=16)=false from h)
        rw [decR_some hf (by omega)] at hR
        have hl:(ps++[p]).length=ps.length+1:=by rw [List.length_append];rfl
        (repeat (first | (refine cj_region ?_ (okRd_of rfl);refine oj_run TT rfl ?_) | refine cj_skip ?_ | refine nj_then ?_ | refine nj_block ?_))
        refine oj_ldA 2 (c:=.v (.slice oo ps.length oc)) TT rfl rfl rfl rfl rfl rfl rfl rfl rfl rfl rfl trivial (oj_run TT rfl ?_)
        refine oj_append_lit TT 3 rfl rfl rfl rfl rfl rfl rfl rfl rfl rfl rfl rfl rfl rfl rfl rfl rfl rfl (by (repeat' (first | exact trivial | refine AllLt.of ?_ | constructor))) rfl (by omega) (by show (ps.length+1)*72<=_;omega) fun o1 c1 hc1=>oj_run TT rfl ?_
        refine oj_stA 2 (A':=[boxE g2 32 (.slice none 0 0),boxE g3 29 (.int .i64 0),boxE g4 32 (.slice o1 (ps++[p]).length c1),paE 49 o1 c1 (ps++[p])]) (c:=.v (.slice o1 (ps.length+1) c1)) TT rfl rfl rfl rfl rfl rfl rfl rfl rfl rfl Nat.zero_lt_one trivial rfl (by
          show [_,_,_,_]=[_,_,_,_]
          unfold paE
          rw [hl,paXs_append]
          rfl) (oj_run TT rfl ?_)
        (repeat (first | refine oj_nil ?_ | refine nj_block ?_))
        refine nj_rndN (Snap.set_self ..) ?_
        exact ⟨_,_,_,_,rfl,.inl ⟨rfl,Snap.set_self ..,rfl,rfl,ps++[p],o1,c1,rfl,rfl,by rw [hl];exact hc1,by rw [hl];omega,hR⟩⟩
  · subst hA
    rcases hh with ⟨hsl,h1,h2,ps,oo,oc,h3,h4,hoc,h16,hR⟩ | ⟨h1,⟨e,h2,hE⟩,r',hsl,hst',hpe'⟩
    · have hDl:D≠l:=fun e=>by subst e;rw [hsD] at hsl;cases hsl
      subst h1 h2 h3 h4
      refine ⟨r,hsl,by rw [hst];exact fun h=>(by cases h),?_⟩
      rw [hpe]
      dsimp only
      rw [decR_nil] at hR
      (repeat (first | refine cj_seq ?_ | refine cjr TT rfl ?_ | refine nj_then ?_ | refine nj_block ?_))
      refine oj_ldA 2 (c:=.v (.slice oo ps.length oc)) TT rfl rfl rfl rfl rfl rfl rfl rfl rfl rfl rfl trivial (oj_run TT rfl ?_)
      refine oj_stA 0 (A':=[boxE g2 32 (.slice oo ps.length oc),boxE g3 29 (.int .i64 0),boxE g4 32 (.slice oo ps.length oc),paE 49 oo oc ps,G5]) (c:=.v (.slice oo ps.length oc)) TT rfl rfl rfl rfl rfl rfl rfl rfl rfl rfl Nat.zero_lt_one trivial rfl rfl (oj_run TT rfl ?_)
      refine oj_stA 1 (A':=[boxE g2 32 (.slice oo ps.length oc),boxE g3 29 (.int .i64 0),boxE g4 32 (.slice oo ps.length oc),paE 49 oo oc ps,G5]) (c:=.v (.int .i64 0)) TT rfl rfl rfl rfl rfl rfl rfl rfl rfl rfl Nat.zero_lt_one trivial rfl rfl (oj_run TT rfl ?_)
      (repeat (first | refine oj_then ?_ | refine cj_ret ?_))
      refine nj_seal 3 rfl rfl fun s2 hle2 hS=>?_
      have HP:=pa_sealed (t:=49) (l:=ps) hS hoc
      have hD2:s2 D=some (.deferred (some [])):=hle2 _ _ (by rw [Snap.set_ne hDl];exact hsD)
      rw [<-hR]
      refine nj_mretA2 hD2 hD0 TT 0 1 (.slice oo ps.length oc) (.int .i64 0) rfl rfl rfl rfl rfl rfl rfl rfl rfl rfl rfl rfl rfl fun w=>?_
      exact ⟨oo,oc,rfl,HP.monoC fun a v h=>cell_D0 hD2 a h⟩
    · have hDl:D≠l:=fun e=>by subst e;rw [hsD] at hsl;cases hsl
      subst h1 h2
      refine ⟨r',hsl,by rw [hst'];exact fun h=>(by cases h),?_⟩
      rw [hpe']
      dsimp only
      (repeat (first | refine cj_ret ?_ | refine nj_then_ret ?_ | refine nj_block_ret ?_))
      rw [hE]
      refine nj_mretA2 (by rw [Snap.set_ne hDl];exact hsD) hD0 TT 0 1 (.slice none 0 0) (.int .i64 e) rfl rfl rfl rfl rfl rfl rfl rfl rfl rfl rfl rfl rfl fun w=>?_
      exact ⟨none,0,rfl,SlAt.nil _ none 0 7⟩
end Go.Sy
namespace Go.Sy
open Go.Proofs
theorem digitB_iff (u:UInt8):digitB u=true↔48<=u.toNat/\u.toNat<=57:=by
  unfold digitB
  simp [<-UInt8.toNat_inj]
  omega
theorem digitB_eq (u:UInt8):digitB u=(decide ((u.toNat:Int)≥48)&&decide ((u.toNat:Int)<=57)):=by
  rw [Bool.eq_iff_iff,digitB_iff]
  simp
  omega
set_option maxRecDepth 100000 in
set_option maxHeartbeats 1000000 in
theorem rdigit_c (σ:Snap) (u:UInt8):PlainS Tryd.prog 52 [.a (.v (.int .u8 u.toNat))] σ (fun v=>v=.bool (digitB u)):=by
  rw [digitB_eq]
  refine enter_p Tryd.func52 rfl rfl (by (repeat' (first | exact trivial | constructor))) fun w=>?_
  (repeat (first | refine cj_seq ?_ | refine cjr TT rfl ?_ | refine oj_then ?_))
  refine oj_split 5 rfl (fun h=>?_) (fun h=>?_)
  · refine oj_run TT rfl ?_
    (repeat (first | refine oj_then ?_ | refine cj_ret ?_))
    refine nj_ret TT rfl fun β w' _ _=>?_
    show Value.bool _=_
    rw [h,Bool.true_and]
  · refine oj_run TT rfl ?_
    (repeat (first | refine oj_then ?_ | refine cj_ret ?_))
    refine nj_ret TT rfl fun β w' _ _=>?_
    rw [h,Bool.false_and]
    rfl
set_option maxRecDepth 100000 in
set_option maxHeartbeats 1000000 in
theorem rdecSane_c (σ:Snap) (d:GDec) (hd:d.dg.size<=mostLen):PlainS Tryd.prog 40 [.agg (decCells d)] σ (fun v=>v=.bool (decSane d)):=by
  obtain ⟨ng,dg,ex⟩:=d
  obtain ⟨l,rfl⟩:=mkB_ex dg
  have hsz:=mkB_size l
  simp only at hd
  rw [hsz] at hd
  have hd':=hd
  simp only [mostLen] at hd'
  refine enter_p Tryd.func40 rfl rfl (by (repeat' (first | exact trivial | exact decCells_lt _ _ | constructor))) fun w=>?_
  (repeat (first | refine cj_seq ?_ | refine cjr TT rfl ?_ | refine oj_then ?_))
  refine cj_if rfl (fun h=>?_) (fun h=>?_)
  · have h0:l=[]:=by simpa using h
    subst h0
    have e:decSane ⟨ng,mkB [],ex⟩=(!ng&&decide (ex=0)):=rfl
    rw [e]
    (repeat (first | refine cj_seq ?_ | refine cjr TT rfl ?_))
    refine oj_split 13 rfl (fun h=>?_) (fun h=>?_)
    · have h:(!ng)=true:=h
      refine oj_run TT rfl ?_
      (repeat (first | refine oj_then ?_ | refine cj_ret ?_ | refine nj_then_ret ?_))
      refine nj_ret TT rfl fun β w' _ _=>?_
      rw [h]
      rfl
    · have h:(!ng)=false:=h
      refine oj_run TT rfl ?_
      (repeat (first | refine oj_then ?_ | refine cj_ret ?_ | refine nj_then_ret ?_))
      refine nj_ret TT rfl fun β w' _ _=>?_
      rw [h]
      rfl
  have h0:l≠[]:=by simpa using h
  have hl0:l.length≠0:=by simpa using h0
  (repeat (first | refine cj_seq ?_ | refine cjr TT rfl ?_ | refine oj_then ?_ | refine cj_skip ?_ | refine cj_block ?_ | refine nj_then ?_))
  refine cj_loop (fun _=>σ) (fun (k:Nat)=>[(1,.a (.p 0 0)),(3,.a (.v (.int .i64 (mkB l).size))),(4,.a (.v (.int .i64 k)))]) (fun _=>[(0,.loc 40,decCells ⟨ng,mkB l,ex⟩)]) (fun _=>[]) 1
    (fun k=>k<=l.length/\(l.take k).all digitB=true) (fun k=>l.length - k) 0 ⟨Nat.zero_le _,rfl⟩ rfl (by (repeat first | exact trivial | refine ⟨rfl,?_⟩)) (by (repeat first | exact trivial | refine ⟨rfl,?_⟩)) rfl (by (repeat' (first | exact trivial | exact Nat.le_of_ble_eq_true rfl | constructor))) (by (repeat' (first | exact trivial | exact Nat.le_of_ble_eq_true rfl | exact decCells_lt _ _ | constructor))) fun k ⟨hk,hp⟩=>?_
  (repeat (first | refine cj_seq ?_ | refine cjr TT rfl ?_ | refine oj_then ?_))
  refine cj_if rfl (fun h=>?_) (fun h=>?_)
  · have hkl:k<l.length:=by have:=of_decide_eq_true h;omega
    have htk:(l.take (k+1)).all digitB=digitB l[k]:=by rw [List.take_succ_eq_append_getElem hkl,List.all_append,hp];simp
    (repeat (first | refine cj_seq ?_ | refine cjr TT rfl ?_ | refine cj_skip ?_ | refine cj_block ?_ | refine nj_then ?_))
    refine oj_index_str (u:=l[k]) TT rfl rfl rfl rfl rfl rfl rfl rfl (by omega) (by show l[((k:Nat):Int).toNat]?=_;rw [Int.toNat_natCast,List.getElem?_eq_getElem hkl]) (oj_run TT rfl ?_)
    refine oj_callP rfl rfl rfl rfl rfl Tryd.call52 (by (repeat' (first | exact trivial | constructor))) (rdigit_c σ l[k]) fun v hv=>⟨.a (.b (digitB l[k])),trivial,hv.symm,?_⟩
    refine oj_run TT rfl ?_
    (repeat refine oj_then ?_)
    refine cj_if rfl (fun h=>?_) (fun h=>?_)
    · have h:digitB l[k]=false:=by simpa using h
      (repeat (first | refine cj_seq ?_ | refine cjr TT rfl ?_ | refine oj_then ?_ | refine cj_ret ?_ | refine nj_then_ret ?_ | refine nj_block_ret ?_))
      refine nj_ret TT rfl fun β w' _ _=>?_
      show Value.bool false=_
      congr 1
      rw [decSane_mk _ _ _ hl0,show l.all digitB=false by
        rw [List.all_eq_false]
        exact ⟨l[k],List.getElem_mem hkl,by rw [h];decide⟩]
      simp
    · have h:digitB l[k]=true:=by simpa using h
      (repeat (first | refine cjr TT rfl ?_ | refine oj_nil ?_ | refine cj_skip ?_ | refine nj_then ?_ | refine nj_block ?_ | (refine oj_add rfl rfl rfl rfl rfl rfl (by omega) ?_;refine oj_run TT rfl ?_)))
      refine nj_again (k+1) ⟨hkl,by rw [htk,h]⟩ (by omega) rfl (by (repeat first | exact trivial | refine ⟨rfl,?_⟩)) (by (repeat first | exact trivial | refine ⟨rfl,?_⟩)) rfl (by (repeat' (first | exact trivial | exact Nat.le_of_ble_eq_true rfl | constructor))) (by (repeat' (first | exact trivial | exact Nat.le_of_ble_eq_true rfl | exact decCells_lt _ _ | constructor)))
  have hk0:k=l.length:=by have:=of_decide_eq_false h;omega
  subst hk0
  rw [List.take_length] at hp
  rw [decSane_mk _ _ _ hl0,hp,Bool.and_true]
  (repeat (first | refine cj_seq ?_ | refine cjr TT rfl ?_ | refine cj_exit ?_ | refine nj_then ?_ | refine nj_then_exit ?_ | refine nj_block_out ?_))
  refine oj_split 31 rfl (fun h=>?_) (fun h=>?_)
  rotate_left
  · refine oj_run TT rfl ?_
    (repeat (first | refine oj_then ?_ | refine cj_ret ?_))
    refine nj_ret TT rfl fun β w' _ _=>?_
    rw [show decide (l.length<=40)=false by have:=of_decide_eq_false h;simp;omega]
    simp only [Bool.false_and]
    rfl
  have h40:l.length<=40:=by have:=of_decide_eq_true h;omega
  rw [decide_eq_true h40,Bool.true_and]
  refine oj_run TT rfl ?_
  refine oj_split 36 rfl (fun h=>?_) (fun h=>?_)
  rotate_left
  · refine oj_run TT rfl ?_
    (repeat (first | refine oj_then ?_ | refine cj_ret ?_))
    refine nj_ret TT rfl fun β w' _ _=>?_
    rw [show decide (-800<=ex)=false by have:¬ ex ≥ -1000:=of_decide_eq_false h;simp;omega]
    simp only [Bool.false_and]
    rfl
  have hx1:ex ≥ -1000:=of_decide_eq_true h
  refine oj_run TT rfl ?_
  refine oj_split 41 rfl (fun h=>?_) (fun h=>?_)
  rotate_left
  · refine oj_run TT rfl ?_
    (repeat (first | refine oj_then ?_ | refine cj_ret ?_))
    refine nj_ret TT rfl fun β w' _ _=>?_
    rw [show decide (ex<=800)=false by have:¬ ex<=1000:=of_decide_eq_false h;simp;omega]
    simp only [Bool.and_false,Bool.false_and]
    rfl
  have hx2:ex<=1000:=of_decide_eq_true h
  refine oj_run TT rfl ?_
  refine oj_add rfl rfl rfl rfl rfl rfl (by show -9223372036854775808<=((mkB l).size:Int)+ex/\((mkB l).size:Int)+ex<=9223372036854775807;omega) (oj_run TT rfl ?_)
  refine oj_split 48 rfl (fun h=>?_) (fun h=>?_)
  rotate_left
  · refine oj_run TT rfl ?_
    (repeat (first | refine oj_then ?_ | refine cj_ret ?_))
    refine nj_ret TT rfl fun β w' _ _=>?_
    rw [show decide (-400<=(l.length:Int)+ex)=false by have:¬ ((mkB l).size:Int)+ex ≥ -400:=of_decide_eq_false h;simp;omega]
    simp only [Bool.and_false,Bool.false_and]
    rfl
  have hy1:-400<=(l.length:Int)+ex:=by have:((mkB l).size:Int)+ex ≥ -400:=of_decide_eq_true h;omega
  refine oj_run TT rfl ?_
  refine oj_add rfl rfl rfl rfl rfl rfl (by show -9223372036854775808<=((mkB l).size:Int)+ex/\((mkB l).size:Int)+ex<=9223372036854775807;omega) (oj_run TT rfl ?_)
  refine oj_split 55 rfl (fun h=>?_) (fun h=>?_)
  rotate_left
  · refine oj_run TT rfl ?_
    (repeat (first | refine oj_then ?_ | refine cj_ret ?_))
    refine nj_ret TT rfl fun β w' _ _=>?_
    rw [show decide ((l.length:Int)+ex<=400)=false by have:¬ ((mkB l).size:Int)+ex<=400:=of_decide_eq_false h;simp;omega]
    simp only [Bool.and_false,Bool.false_and]
    rfl
  have hy2:(l.length:Int)+ex<=400:=by have:((mkB l).size:Int)+ex<=400:=of_decide_eq_true h;omega
  rw [decide_eq_true hy1,decide_eq_true hy2,decide_eq_true (show -800<=ex by omega),decide_eq_true (show ex<=800 by omega)]
  simp only [Bool.true_and]
  refine oj_run TT rfl ?_
  have hlt:0<l.length:=by omega
  refine oj_index_str (u:=l[0]) TT rfl rfl rfl rfl rfl rfl rfl rfl (by omega) (by simp [hlt]) (oj_run TT rfl ?_)
  have e3:(l.head? != some 48)=!decide ((l[0].toNat:Int)=48):=by
    rw [List.head?_eq_getElem?,List.getElem?_eq_getElem hlt,Bool.eq_iff_iff]
    simp [<-UInt8.toNat_inj]
    omega
  rw [e3]
  refine oj_split 61 rfl (fun h=>?_) (fun h=>?_)
  rotate_left
  · refine oj_run TT rfl ?_
    (repeat (first | refine oj_then ?_ | refine cj_ret ?_))
    refine nj_ret TT rfl fun β w' _ _=>?_
    rw [h]
    rfl
  rw [h]
  refine oj_run TT rfl ?_
  refine oj_minus rfl rfl rfl rfl rfl rfl (by show -9223372036854775808<=((mkB l).size:Int) - 1/\((mkB l).size:Int) - 1<=9223372036854775807;omega) (oj_run TT rfl ?_)
  refine oj_index_str (u:=l[l.length - 1]) TT rfl rfl rfl rfl rfl rfl rfl rfl (by show 0<=((mkB l).size:Int) - 1;omega) (by
    show l[(((mkB l).size:Int) - 1).toNat]?=_
    rw [show (((mkB l).size:Int) - 1).toNat=l.length - 1 by omega,List.getElem?_eq_getElem (by omega)]) (oj_run TT rfl ?_)
  have e4:(l.getLast? != some 48)=!decide ((l[l.length - 1].toNat:Int)=48):=by
    rw [List.getLast?_eq_getElem?,List.getElem?_eq_getElem (by omega),Bool.eq_iff_iff]
    simp [<-UInt8.toNat_inj]
    omega
  rw [e4]
  (repeat (first | refine oj_then ?_ | refine cj_ret ?_))
  refine nj_ret TT rfl fun β w' _ _=>?_
  rfl
end Go.Sy
namespace Go.Sy
open Go.Proofs
theorem quo256 (h:Int) (h0:0<=h):h.tdiv 256=h / 256:=Int.tdiv_eq_ediv_of_nonneg h0
theorem rem256 (h:Int) (h0:0<=h):IntKind.u8.wrap (h.tmod 256)=((byteOf h).toNat:Int):=by
  rw [wrap8,Int.tmod_eq_emod_of_nonneg h0,byteOf_nat,byteOf_nat]
  omega
set_option maxRecDepth 100000 in
set_option maxHeartbeats 2000000 in
theorem rsize_c (σ:Snap) (d:GDec) (hs:decSane d=true) (h0:d.dg.size≠0):FnS Tryd.prog 41 [.agg (decCells d)] σ [] (fun v _ A'=>∃ ao cap,v=.slice ao (sizeG d).length cap/\(sizeG d).length<=cap/\A'=[u8E ao cap (sizeG d)]):=by
  obtain ⟨hdig,h1,h2⟩:=sane_size hs h0
  obtain ⟨ng,dg,ex⟩:=d
  obtain ⟨l,rfl⟩:=mkB_ex dg
  have hsz:=mkB_size l
  dsimp only at h0 h1 h2
  rw [hsz] at h0
  have hl40:l.length<=40:=by
    rw [decSane_mk _ _ _ h0] at hs
    simp only [Bool.and_eq_true,decide_eq_true_eq] at hs
    exact hs.1.1.1.1.1.1.1
  refine enter_f Tryd.func41 rfl rfl ⟨decCells_lt 0 _,trivial⟩ fun w=>?_
  (repeat (first | refine cj_seq ?_ | refine cjr TT rfl ?_ | refine oj_then ?_))
  refine oj_add rfl rfl rfl rfl rfl rfl (by dsimp only;omega) (oj_run TT rfl ?_)
  refine oj_add rfl rfl rfl rfl rfl rfl (by dsimp only;omega) (oj_run TT rfl ?_)
  dsimp only
  have hH1:0<=((mkB l).size:Int)+ex+1000:=by omega
  have hH2:((mkB l).size:Int)+ex+1000<=1400:=by omega
  have hsz0:sizeG ⟨ng,mkB l,ex⟩=byteOf ((((mkB l).size:Int)+ex+1000) / 256)::byteOf (((mkB l).size:Int)+ex+1000)::(l.map (fun c=>c - 48+1)++[0]):=by
    unfold sizeG
    dsimp only
    rw [mkB_list]
  generalize ((mkB l).size:Int)+ex+1000=h at *
  (repeat (first | refine cj_seq ?_ | refine cjr TT rfl ?_ | refine oj_then ?_))
  refine oj_quo rfl rfl rfl rfl rfl rfl (by decide) (by rw [quo256 h hH1];omega) ?_
  rw [quo256 h hH1]
  refine oj_run TT rfl ?_
  refine oj_conv TT ((byteOf (h / 256)).toNat:Int) rfl rfl rfl rfl rfl rfl rfl rfl (wrap8 _) (oj_run TT rfl ?_)
  refine oj_rem rfl rfl rfl rfl rfl rfl (by decide) (oj_run TT rfl ?_)
  refine oj_conv TT ((byteOf h).toNat:Int) rfl rfl rfl rfl rfl rfl rfl rfl (rem256 h hH1) (oj_run TT rfl ?_)
  (repeat (first | refine cj_seq ?_ | refine cjr TT rfl ?_ | refine oj_then ?_ | refine cj_block ?_))
  refine cj_own 1 2 1 rfl (by (repeat' (first | exact trivial | refine AllLt.of ?_ | constructor))) rfl (by decide) fun g=>?_
  refine cj_loop (fun (_:SzS)=>σ) (fun t=>[(1,.a (.p 0 0)),(4,.a (.v (.slice t.oo (szK h l t.k).length t.oc))),(5,.a (.v (.int .i64 (t.k:Nat))))]) (fun _=>[(0,.loc 40,[.b ng,.v (.string (mkB l)),.v (.int .i64 ex)])]) (fun t=>[u8E t.oo t.oc (szK h l t.k)]) 1
    (fun t=>t.k<=l.length/\(szK h l t.k).length<=t.oc) (fun t=>l.length - t.k) ⟨0,some ⟨g,0,none⟩,2⟩ ⟨Nat.zero_le _,Nat.le_refl _⟩ rfl (by (repeat first | exact trivial | refine ⟨rfl,?_⟩)) (by (repeat first | exact trivial | refine ⟨rfl,?_⟩)) rfl (by (repeat' (first | exact trivial | exact Nat.le_of_ble_eq_true rfl | constructor))) (by (repeat' (first | exact trivial | exact Nat.le_of_ble_eq_true rfl | refine AllLt.of ?_ | constructor))) fun ⟨k,oo,oc⟩ ⟨hk,hoc⟩=>?_
  dsimp only at hk hoc ⊢
  have hlen:=szK_len h l k
  (repeat (first | refine cj_seq ?_ | refine cjr TT rfl ?_ | refine oj_then ?_))
  refine cj_if rfl (fun hc=>?_) (fun hc=>?_)
  rotate_left
  · have hk0:k=l.length:=by have:=of_decide_eq_false (show decide ((k:Int)<(mkB l).size)=false from hc);omega
    have e:szK h l k++[0]=sizeG ⟨ng,mkB l,ex⟩:=by
      rw [hsz0,hk0]
      unfold szK
      rw [List.take_length]
      rfl
    (repeat (first | refine cj_seq ?_ | refine cjr TT rfl ?_ | refine cj_exit ?_ | refine nj_then ?_ | refine nj_then_exit ?_ | refine nj_block_out ?_))
    refine oj_append_lit TT 0 rfl rfl rfl rfl rfl rfl rfl rfl rfl rfl rfl rfl rfl rfl rfl rfl rfl rfl (by (repeat' (first | exact trivial | refine AllLt.of ?_ | constructor))) rfl (by omega) (by show ((szK h l k).length+1)*1<=_;omega) fun oo' oc' hoc'=>oj_run TT rfl ?_
    (repeat (first | refine oj_then ?_ | refine cj_ret ?_))
    refine nj_fret TT rfl fun β w' _ _=>?_
    have hl1:(szK h l k++[0]).length=(szK h l k).length+1:=by simp
    rw [<-e]
    exact ⟨oo',oc',by rw [hl1];rfl,by rw [hl1];exact hoc',congrArg (fun x=>[x]) (u8E_app (b:=[0]) hl1.symm)⟩
  have hkl:k<l.length:=by have:=of_decide_eq_true (show decide ((k:Int)<(mkB l).size)=true from hc);omega
  have hx:=List.getElem?_eq_getElem hkl
  have hi:∀ z:Int,z=(k:Int)->(mkB l).data.toList[z.toNat]?=some l[k]:=fun z hz=>by rw [hz,mkB_list];exact hx
  have hs1:=szK_succ (h:=h) hx
  generalize l[k]=c at *
  (repeat (first | refine cj_seq ?_ | refine cjr TT rfl ?_ | refine cj_skip ?_ | refine cj_block ?_ | refine nj_then ?_))
  refine oj_index_str (u:=c) TT rfl rfl rfl rfl rfl rfl rfl rfl (by omega) (hi _ rfl) (oj_run TT rfl ?_)
  refine oj_arith ((c - 48).toNat:Int) rfl rfl rfl rfl rfl rfl (run_sub (wrap8_sub c)) (oj_run TT rfl ?_)
  refine oj_arith ((c - 48+1).toNat:Int) rfl rfl rfl rfl rfl rfl (run_add (wrap8_inc (c - 48))) (oj_run TT rfl ?_)
  refine oj_append_lit TT 0 rfl rfl rfl rfl rfl rfl rfl rfl rfl rfl rfl rfl rfl rfl rfl rfl rfl rfl (by (repeat' (first | exact trivial | refine AllLt.of ?_ | constructor))) rfl (by omega) (by show ((szK h l k).length+1)*1<=_;omega) fun oo' oc' hoc'=>oj_run TT rfl ?_
  (repeat (first | refine cjr TT rfl ?_ | refine oj_nil ?_ | refine nj_then ?_ | refine nj_block ?_ | (refine oj_add rfl rfl rfl rfl rfl rfl (by omega) ?_;refine oj_run TT rfl ?_)))
  have hl1:(szK h l (k+1)).length=(szK h l k).length+1:=by rw [hs1];simp
  refine nj_again (⟨k+1,oo',oc'⟩:SzS) ⟨hkl,by dsimp only;omega⟩ (by dsimp only;omega) rfl ?_ (by (repeat first | exact trivial | refine ⟨rfl,?_⟩)) ?_ (by (repeat' (first | exact trivial | exact Nat.le_of_ble_eq_true rfl | constructor))) (by (repeat' (first | exact trivial | exact Nat.le_of_ble_eq_true rfl | refine AllLt.of ?_ | constructor)))
  · dsimp only
    rw [hl1]
    (repeat first | exact trivial | refine ⟨rfl,?_⟩)
  · show [_]=[_]
    dsimp only
    unfold u8E
    rw [hl1,hs1,u8Xs_append]
    rfl
end Go.Sy
namespace Go.Sy
open Go.Proofs
def mixT (S:List UInt8) (k:Nat):List UInt8:=turnG (S.take k)++S.drop k
theorem mixT_len (S:List UInt8) (k:Nat):(mixT S k).length=S.length:=by
  unfold mixT
  rw [List.length_append,turnG_len,List.length_take,List.length_drop]
  omega
theorem mixT_set {S:List UInt8} {k:Nat} {x:UInt8} (h:S[k]?=some x):(mixT S k).set k (255 - x)=mixT S (k+1):=by
  obtain ⟨hk,he⟩:=List.getElem?_eq_some_iff.1 h
  have hl:(turnG (S.take k)).length=k:=by rw [turnG_len,List.length_take];omega
  unfold mixT
  rw [List.take_succ_eq_append_getElem hk,he,List.drop_eq_getElem_cons hk,he,List.set_append_right _ _ (by omega),hl,Nat.sub_self,List.set_cons_zero]
  unfold turnG
  rw [List.map_append,List.append_assoc]
  rfl
theorem mixT_get {S:List UInt8} {k:Nat} {x:UInt8} (h:S[k]?=some x):(mixT S k)[k]?=some x:=by
  obtain ⟨hk,he⟩:=List.getElem?_eq_some_iff.1 h
  have hl:(turnG (S.take k)).length=k:=by rw [turnG_len,List.length_take];omega
  unfold mixT
  rw [List.getElem?_append_right (by omega),hl,Nat.sub_self,List.drop_eq_getElem_cons hk,he]
  rfl
theorem wrap8_turn:∀ c:UInt8,IntKind.u8.wrap ((255:Int) - c.toNat)=((255 - c).toNat:Int):=all8 (by decide +kernel)
def onK (neg:Bool) (S:List UInt8) (k:Nat):List UInt8:=(if neg&&decide (0<k) then 48 else 50)::(if neg then turnG (S.take k) else S.take k)
theorem onK_len {neg:Bool} {S:List UInt8} {k:Nat} (h:k<=S.length):(onK neg S k).length=k+1:=by
  unfold onK
  rw [List.length_cons]
  split
  · rw [turnG_len,List.length_take];omega
  · rw [List.length_take];omega
def sK (neg:Bool) (S:List UInt8) (k:Nat):List UInt8:=if neg then mixT S k else S
theorem sK_len (neg:Bool) (S:List UInt8) (k:Nat):(sK neg S k).length=S.length:=by
  unfold sK
  split
  · exact mixT_len S k
  · rfl
def escK (s:List UInt8) (k:Nat):List UInt8:=64::escG (s.take k)
theorem esc_snoc:∀ (a:List UInt8) (c:UInt8),escG (a++[c])=escG a++(if c=0 then [0,255] else [c])
  | [],c=>by
    show escG [c]=[]++_
    unfold escG
    split
    · rename_i h;subst h;rfl
    · rfl
  | x::a,c=>by
    rw [List.cons_append,escG,escG,esc_snoc a c]
    split<;>simp
theorem escK_succ {s:List UInt8} {k:Nat} {c:UInt8} (h:s[k]?=some c):escK s (k+1)=escK s k++(if c=0 then [0,255] else [c]):=by
  obtain ⟨hk,he⟩:=List.getElem?_eq_some_iff.1 h
  unfold escK
  rw [List.take_succ_eq_append_getElem hk,he,esc_snoc]
  rfl
theorem escG_le:∀ a:List UInt8,(escG a).length<=2*a.length
  | []=>Nat.le_refl _
  | x::a=>by
    have:=escG_le a
    rw [escG,List.length_cons]
    split<;>simp<;>omega
theorem escK_le (s:List UInt8) (k:Nat):(escK s k).length<=2*s.length+1:=by
  have:=escG_le (s.take k)
  have h2:(s.take k).length<=s.length:=by rw [List.length_take];omega
  unfold escK
  rw [List.length_cons]
  omega
theorem sK_zero (neg:Bool) (S:List UInt8):sK neg S 0=S:=by cases neg<;>rfl
theorem onK_zero (neg:Bool) (S:List UInt8):onK neg S 0=[50]:=by cases neg<;>rfl
theorem onK_false {S:List UInt8} {k:Nat} {x:UInt8} (h:S[k]?=some x):onK false S (k+1)=onK false S k++[x]:=by
  obtain ⟨hk,he⟩:=List.getElem?_eq_some_iff.1 h
  unfold onK
  rw [List.take_succ_eq_append_getElem hk,he]
  rfl
theorem onK_true {S:List UInt8} {k:Nat} {x:UInt8} (h:S[k]?=some x):onK true S (k+1)=48::turnG (S.take k)++[255 - x]:=by
  obtain ⟨hk,he⟩:=List.getElem?_eq_some_iff.1 h
  unfold onK
  rw [List.take_succ_eq_append_getElem hk,he,turnG,List.map_append]
  simp [turnG]
structure OnS where
  k:Nat
  oo:Option Addr
  oc:Nat
set_option maxRecDepth 100000 in
set_option maxHeartbeats 4000000 in
theorem one_c (σ:Snap) (p:GPart) (hp:Rt p) (hps:p.s.size<=1000000) :
    PureS Tryd.prog 29 [.agg (paCells p)] σ (fun v σ'=>∃ ao cap,v=.slice ao (putG p).length cap/\SlAt σ' ao (putG p).length cap 1 (u8Rows (putG p))):=by
  obtain ⟨kd,b,n,s,i⟩:=p
  dsimp only at hps
  have hnum:kd=2->decSane n=true:=fun h=>by
    have hr:=(right_iff _).2 hp
    subst h
    have:(decide ((⟨0,b,dec0,s,i⟩:GPart)=part0)&&decSane n)=true:=hr
    rw [Bool.and_eq_true] at this
    exact this.2
  have hfin:∀ (l:List UInt8) (e:putG ⟨kd,b,n,s,i⟩=l) {s2:Snap} {oo:Option Addr} {oc:Nat},ArrSealed s2 (u8E oo oc l)->l.length<=oc->∃ ao ac,Value.slice oo l.length oc=.slice ao (putG ⟨kd,b,n,s,i⟩).length ac/\SlAt s2 ao (putG ⟨kd,b,n,s,i⟩).length ac 1 (u8Rows (putG ⟨kd,b,n,s,i⟩)):=by
    intro l e s2 oo oc hS hc
    rw [e]
    exact ⟨oo,oc,rfl,u8_sealed hS hc⟩
  refine enter_s Tryd.func29 rfl rfl ⟨paCells_lt 0 _,trivial⟩ fun w=>?_
  (repeat (first | refine cj_seq ?_ | refine cjr TT rfl ?_ | refine oj_then ?_ | refine cj_block ?_))
  refine cj_if rfl (fun h=>?_) (fun h0=>?_)
  · have h:=of_decide_eq_true (show decide (kd=0)=true from h)
    (repeat (first | refine cj_seq ?_ | refine cjr TT rfl ?_ | refine oj_then ?_ | refine cj_ret ?_ | refine nj_then_ret ?_ | refine nj_block_ret ?_))
    refine nj_own 1 1 1 rfl (by (repeat' (first | exact trivial | refine AllLt.of ?_ | constructor))) rfl (by decide) fun g=>?_
    refine nj_seal 0 rfl rfl fun s2 hle2 hS=>?_
    refine nj_ret TT rfl fun β w' _ _=>?_
    exact hfin [16] (by unfold putG;dsimp only;rw [if_pos h]) hS (Nat.le_refl _)
  have h0:=of_decide_eq_false (show decide (kd=0)=false from h0)
  (repeat (first | refine cj_seq ?_ | refine cjr TT rfl ?_ | refine oj_then ?_))
  refine cj_if rfl (fun h=>?_) (fun h1=>?_)
  · have h:=of_decide_eq_true (show decide (kd=1)=true from h)
    (repeat (first | refine cj_seq ?_ | refine cjr TT rfl ?_ | refine oj_then ?_))
    refine cj_if rfl (fun hb=>?_) (fun hb=>?_)
    · have hb:b=true:=hb
      (repeat (first | refine cj_seq ?_ | refine cjr TT rfl ?_ | refine oj_then ?_ | refine cj_ret ?_ | refine nj_then_ret ?_ | refine nj_block_ret ?_))
      refine nj_own 1 1 1 rfl (by (repeat' (first | exact trivial | refine AllLt.of ?_ | constructor))) rfl (by decide) fun g=>?_
      refine nj_seal 0 rfl rfl fun s2 hle2 hS=>?_
      refine nj_ret TT rfl fun β w' _ _=>?_
      exact hfin [33] (by unfold putG;dsimp only;rw [if_neg h0,if_pos h,hb];rfl) hS (Nat.le_refl _)
    · have hb:b=false:=hb
      (repeat (first | refine cj_seq ?_ | refine cjr TT rfl ?_ | refine oj_then ?_ | refine cj_skip ?_ | refine cj_ret ?_ | refine nj_then ?_ | refine nj_then_ret ?_ | refine nj_block_ret ?_))
      refine nj_own 1 1 1 rfl (by (repeat' (first | exact trivial | refine AllLt.of ?_ | constructor))) rfl (by decide) fun g=>?_
      refine nj_seal 0 rfl rfl fun s2 hle2 hS=>?_
      refine nj_ret TT rfl fun β w' _ _=>?_
      exact hfin [32] (by unfold putG;dsimp only;rw [if_neg h0,if_pos h,hb];rfl) hS (Nat.le_refl _)
  have h1:=of_decide_eq_false (show decide (kd=1)=false from h1)
  (repeat (first | refine cj_seq ?_ | refine cjr TT rfl ?_ | refine oj_then ?_))
  refine cj_if rfl (fun h=>?_) (fun h2=>?_)
  · have h:=of_decide_eq_true (show decide (kd=2)=true from h)
    have hs:=hnum h
    (repeat (first | refine cj_seq ?_ | refine cjr TT rfl ?_ | refine oj_then ?_))
    refine cj_if rfl (fun hz=>?_) (fun hz=>?_)
    · have hz:n.dg.size=0:=by have:=of_decide_eq_true (show decide ((n.dg.size:Int)=0)=true from hz);omega
      (repeat (first | refine cj_seq ?_ | refine cjr TT rfl ?_ | refine oj_then ?_ | refine cj_ret ?_ | refine nj_then_ret ?_ | refine nj_block_ret ?_))
      refine nj_own 1 1 1 rfl (by (repeat' (first | exact trivial | refine AllLt.of ?_ | constructor))) rfl (by decide) fun g=>?_
      refine nj_seal 0 rfl rfl fun s2 hle2 hS=>?_
      refine nj_ret TT rfl fun β w' _ _=>?_
      exact hfin [49] (by unfold putG;dsimp only;rw [if_neg h0,if_neg h1,if_pos h,if_pos hz]) hS (Nat.le_refl _)
    have hz:n.dg.size≠0:=by have:=of_decide_eq_false (show decide ((n.dg.size:Int)=0)=false from hz);omega
    (repeat (first | refine cj_seq ?_ | refine cjr TT rfl ?_ | refine oj_then ?_ | refine cj_skip ?_ | refine nj_then ?_))
    refine oj_own 1 1 1 rfl (by (repeat' (first | exact trivial | refine AllLt.of ?_ | constructor))) rfl (by decide) fun g=>?_
    have hsl:=size_le hs hz
    refine oj_callF [0] (A0:=[]) (Ar:=[u8E (some ⟨g,0,none⟩) 1 [50]]) rfl rfl rfl rfl rfl rfl rfl Tryd.call41 ⟨decCells_lt 0 n,trivial⟩ (rsize_c σ n hs hz) fun v s1 A' hle1 ⟨so,sc,hv,hsc,hA⟩=>⟨.a (.v (.slice so (sizeG n).length sc)),trivial,hv.symm,?_⟩
    subst hA
    refine oj_run TT rfl ?_
    (repeat (first | refine cj_seq ?_ | refine cjr TT rfl ?_ | refine oj_then ?_ | refine cj_block ?_))
    have hsp:0<(sizeG n).length:=Nat.succ_pos _
    have hput:putG ⟨kd,b,n,s,i⟩=if n.neg then 48::turnG (sizeG n) else 50::sizeG n:=by
      unfold putG
      dsimp only
      rw [if_neg ‹¬kd=0›,if_neg ‹¬kd=1›,if_pos ‹kd=2›,if_neg ‹n.dg.size≠0›]
    generalize sizeG n=S at *
    generalize hng:n.neg=ng at *
    rw [show u8E so sc S=u8E so sc (sK ng S 0) by rw [sK_zero],show u8E (some ⟨g,0,none⟩) 1 [50]=u8E (some ⟨g,0,none⟩) 1 (onK ng S 0) by rw [onK_zero]]
    refine cj_loop (fun (_:OnS)=>s1) (fun t=>[(1,.a (.p 0 0)),(3,.a (.v (.slice t.oo (t.k+1) t.oc))),(4,.a (.v (.slice so S.length sc))),(5,.a (.v (.int .i64 (t.k:Nat))))]) (fun _=>[(0,.loc 52,[.v (.int .i64 kd),.b b,.b ng,.v (.string n.dg),.v (.int .i64 n.ex),.v (.string s),.v (.int .i64 i)])]) (fun t=>[u8E so sc (sK ng S t.k),u8E t.oo t.oc (onK ng S t.k)]) 1
      (fun t=>t.k<=S.length/\t.k+1<=t.oc) (fun t=>S.length - t.k) ⟨0,some ⟨g,0,none⟩,1⟩ ⟨Nat.zero_le _,Nat.le_refl _⟩ rfl (by (repeat first | exact trivial | refine ⟨rfl,?_⟩)) (by (repeat first | exact trivial | refine ⟨rfl,?_⟩)) rfl (by (repeat' (first | exact trivial | exact Nat.le_of_ble_eq_true rfl | constructor))) (by (repeat' (first | exact trivial | exact Nat.le_of_ble_eq_true rfl | refine AllLt.of ?_ | constructor))) fun ⟨k,oo,oc⟩ ⟨hk,hoc⟩=>?_
    dsimp only at hk hoc ⊢
    have hol:=onK_len (neg:=ng) hk
    (repeat (first | refine cj_seq ?_ | refine cjr TT rfl ?_ | refine oj_then ?_))
    refine cj_if rfl (fun hc=>?_) (fun hc=>?_)
    rotate_left
    · have hk0:k=S.length:=by have:=of_decide_eq_false (show decide ((k:Int)<S.length)=false from hc);omega
      (repeat (first | refine cj_seq ?_ | refine cjr TT rfl ?_ | refine oj_then ?_ | refine cj_exit ?_ | refine cj_ret ?_ | refine nj_then ?_ | refine nj_then_exit ?_ | refine nj_then_ret ?_ | refine nj_block_ret ?_ | refine nj_block_out ?_))
      refine nj_seal 1 rfl rfl fun s2 hle2 hS=>?_
      refine nj_ret TT rfl fun β w' _ _=>?_
      rw [<-hol]
      refine hfin _ ?_ hS (by rw [hol];exact hoc)
      rw [hput,hk0]
      unfold onK
      rw [List.take_length]
      cases ng<;>simp [hsp]
    have hkl:k<S.length:=by have:=of_decide_eq_true (show decide ((k:Int)<S.length)=true from hc);omega
    (repeat (first | refine cj_seq ?_ | refine cjr TT rfl ?_ | refine oj_then ?_ | refine cj_skip ?_ | refine cj_block ?_ | refine nj_then ?_))
    refine cj_if rfl (fun hn=>?_) (fun hn=>?_)
    rotate_left
    · have hn:ng=false:=hn
      subst hn
      refine cj_arrAt 0 (E:=u8E so sc (sK false S k)) rfl (by show 0<(sK false S k).length;rw [sK_len];omega) fun g1 hg1=>?_
      have hg1:so=some ⟨g1,0,none⟩:=hg1
      subst hg1
      have had:∀ z:Int,z=(k:Int)->some (SV.a (AT.v (.pointer (some (Addr.add ⟨g1,0,none⟩ (z.toNat*1))))))=some (SV.a (AT.v (.pointer (some ⟨g1,k,none⟩)))):=fun z hz=>by rw [hz,Int.toNat_natCast,add0,Nat.mul_one]
      have hx:=List.getElem?_eq_getElem hkl
      have hsucc:onK false S (k+1)=onK false S k++[S[k]]:=onK_false hx
      generalize S[k]=x at *
      (repeat (first | refine cjr TT rfl ?_ | refine cj_skip ?_ | refine nj_then ?_))
      refine oj_indexAddr TT rfl rfl rfl rfl rfl rfl rfl rfl rfl ⟨by omega,by omega⟩ (oj_run TT rfl ?_)
      refine oj_ldA 0 (off:=k) (c:=.v (.int .u8 x.toNat)) TT rfl rfl rfl rfl rfl (had _ rfl) rfl rfl rfl rfl (u8Xs_get hx) trivial (oj_run TT rfl ?_)
      rw [show u8E oo oc (onK false S k)=(⟨oo,k+1,oc,5,1,u8Xs (onK false S k)⟩:AE) by unfold u8E;rw [hol]]
      refine oj_append_lit TT 1 rfl rfl rfl rfl rfl rfl rfl rfl rfl rfl rfl rfl rfl rfl rfl rfl rfl rfl (by (repeat' (first | exact trivial | refine AllLt.of ?_ | constructor))) rfl (by omega) (by show (k+1+1)*1<=_;omega) fun oo' oc' hoc'=>oj_run TT rfl ?_
      (repeat (first | refine cjr TT rfl ?_ | refine oj_nil ?_ | refine nj_then ?_ | refine nj_block ?_ | (refine oj_add rfl rfl rfl rfl rfl rfl (by omega) ?_;refine oj_run TT rfl ?_)))
      refine nj_again (⟨k+1,oo',oc'⟩:OnS) ⟨hkl,hoc'⟩ (by dsimp only;omega) rfl (by (repeat first | exact trivial | refine ⟨rfl,?_⟩)) (by (repeat first | exact trivial | refine ⟨rfl,?_⟩)) ?_ (by (repeat' (first | exact trivial | exact Nat.le_of_ble_eq_true rfl | constructor))) (by (repeat' (first | exact trivial | exact Nat.le_of_ble_eq_true rfl | refine AllLt.of ?_ | constructor)))
      show [_,_]=[_,_]
      dsimp only
      rw [hsucc]
      exact congrArg (fun q=>[_,q]) (u8E_app (a:=onK false S k) (b:=[x]) (by rw [List.length_append,hol];rfl)).symm
    · have hn:ng=true:=hn
      subst hn
      refine cj_arrAt 0 (E:=u8E so sc (sK true S k)) rfl (by show 0<(sK true S k).length;rw [sK_len];omega) fun g1 hg1=>?_
      have hg1:so=some ⟨g1,0,none⟩:=hg1
      subst hg1
      refine cj_arrAt 1 (E:=u8E oo oc (onK true S k)) rfl (by show 0<(onK true S k).length;omega) fun g2 hg2=>?_
      have hg2:oo=some ⟨g2,0,none⟩:=hg2
      subst hg2
      have had:∀ z:Int,z=(k:Int)->some (SV.a (AT.v (.pointer (some (Addr.add ⟨g1,0,none⟩ (z.toNat*1))))))=some (SV.a (AT.v (.pointer (some ⟨g1,k,none⟩)))):=fun z hz=>by rw [hz,Int.toNat_natCast,add0,Nat.mul_one]
      have had0:some (SV.a (AT.v (.pointer (some (Addr.add ⟨g2,0,none⟩ ((0:Int).toNat*1))))))=some (SV.a (AT.v (.pointer (some ⟨g2,0,none⟩)))):=by rw [add0];rfl
      have hx:=List.getElem?_eq_getElem hkl
      have hm:=mixT_get hx
      have hms:=mixT_set hx
      have hmg:(mixT S (k+1))[k]?=some (255 - S[k]):=by rw [<-hms,List.getElem?_set_self (by rw [mixT_len];exact hkl)]
      have hz48:(onK true S k).set 0 48=48::turnG (S.take k):=by unfold onK;rfl
      have hsucc:onK true S (k+1)=48::turnG (S.take k)++[255 - S[k]]:=onK_true hx
      have hz48l:(48::turnG (S.take k)).length=k+1:=by rw [List.length_cons,turnG_len,List.length_take];omega
      generalize S[k]=x at *
      (repeat (first | refine cj_seq ?_ | refine cjr TT rfl ?_))
      rw [show u8E (some ⟨g2,0,none⟩) oc (onK true S k)=(⟨some ⟨g2,0,none⟩,k+1,oc,5,1,u8Xs (onK true S k)⟩:AE) by unfold u8E;rw [hol]]
      rw [show u8E (some ⟨g1,0,none⟩) sc (sK true S k)=(⟨some ⟨g1,0,none⟩,S.length,sc,5,1,u8Xs (mixT S k)⟩:AE) by unfold u8E;rw [sK_len];rfl]
      refine oj_indexAddr TT rfl rfl rfl rfl rfl rfl rfl rfl rfl ⟨by omega,by omega⟩ (oj_run TT rfl ?_)
      refine oj_stA 1 (off:=0) (A':=[⟨some ⟨g1,0,none⟩,S.length,sc,5,1,u8Xs (mixT S k)⟩,⟨some ⟨g2,0,none⟩,k+1,oc,5,1,u8Xs (48::turnG (S.take k))⟩]) (c:=.v (.int .u8 48)) TT rfl rfl rfl rfl had0 rfl rfl rfl rfl rfl (by show 0<(k+1)*1;omega) trivial rfl (by rw [<-hz48,<-u8Xs_set];rfl) (oj_run TT rfl ?_)
      (repeat (first | refine cjr TT rfl ?_ | refine oj_then ?_))
      refine oj_indexAddr TT rfl rfl rfl rfl rfl rfl rfl rfl rfl ⟨by omega,by omega⟩ (oj_run TT rfl ?_)
      refine oj_ldA 0 (off:=k) (c:=.v (.int .u8 x.toNat)) TT rfl rfl rfl rfl rfl (had _ rfl) rfl rfl rfl rfl (u8Xs_get hm) trivial (oj_run TT rfl ?_)
      refine oj_arith ((255 - x).toNat:Int) rfl rfl rfl rfl rfl rfl (run_sub (wrap8_turn x)) (oj_run TT rfl ?_)
      refine oj_indexAddr TT rfl rfl rfl rfl rfl rfl rfl rfl rfl ⟨by omega,by omega⟩ (oj_run TT rfl ?_)
      refine oj_stA 0 (off:=k) (A':=[⟨some ⟨g1,0,none⟩,S.length,sc,5,1,u8Xs (mixT S (k+1))⟩,⟨some ⟨g2,0,none⟩,k+1,oc,5,1,u8Xs (48::turnG (S.take k))⟩]) (c:=.v (.int .u8 ((255 - x).toNat:Int))) TT rfl rfl rfl rfl (had _ rfl) rfl rfl rfl rfl rfl (by show k<S.length*1;omega) trivial rfl (by rw [<-hms,<-u8Xs_set];rfl) (oj_run TT rfl ?_)
      (repeat (first | refine cjr TT rfl ?_ | refine oj_then ?_))
      refine oj_indexAddr TT rfl rfl rfl rfl rfl rfl rfl rfl rfl ⟨by omega,by omega⟩ (oj_run TT rfl ?_)
      refine oj_ldA 0 (off:=k) (c:=.v (.int .u8 ((255 - x).toNat:Int))) TT rfl rfl rfl rfl rfl (had _ rfl) rfl rfl rfl rfl (u8Xs_get hmg) trivial (oj_run TT rfl ?_)
      refine oj_append_lit TT 1 rfl rfl rfl rfl rfl rfl rfl rfl rfl rfl rfl rfl rfl rfl rfl rfl rfl rfl (by (repeat' (first | exact trivial | refine AllLt.of ?_ | constructor))) rfl (by omega) (by show (k+1+1)*1<=_;omega) fun oo' oc' hoc'=>oj_run TT rfl ?_
      (repeat (first | refine cjr TT rfl ?_ | refine oj_nil ?_ | refine nj_then ?_ | refine nj_block ?_ | (refine oj_add rfl rfl rfl rfl rfl rfl (by omega) ?_;refine oj_run TT rfl ?_)))
      refine nj_again (⟨k+1,oo',oc'⟩:OnS) ⟨hkl,hoc'⟩ (by dsimp only;omega) rfl (by (repeat first | exact trivial | refine ⟨rfl,?_⟩)) (by (repeat first | exact trivial | refine ⟨rfl,?_⟩)) ?_ (by (repeat' (first | exact trivial | exact Nat.le_of_ble_eq_true rfl | constructor))) (by (repeat' (first | exact trivial | exact Nat.le_of_ble_eq_true rfl | refine AllLt.of ?_ | constructor)))
      show [u8E _ _ (sK true S (k+1)),u8E _ _ (onK true S (k+1))]=[_,_]
      have e1:u8E (some ⟨g1,0,none⟩) sc (sK true S (k+1))=(⟨some ⟨g1,0,none⟩,S.length,sc,5,1,u8Xs (mixT S (k+1))⟩:AE):=by
        unfold u8E sK
        rw [if_pos rfl,mixT_len]
      rw [e1,hsucc]
      exact congrArg (fun q=>[_,q]) (u8E_app (a:=48::turnG (S.take k)) (b:=[255 - x]) (by rw [List.length_append,hz48l];rfl)).symm
  have h2:=of_decide_eq_false (show decide (kd=2)=false from h2)
  (repeat (first | refine cj_seq ?_ | refine cjr TT rfl ?_ | refine oj_then ?_))
  refine cj_if rfl (fun h=>?_) (fun h3=>?_)
  · have h:=of_decide_eq_true (show decide (kd=3)=true from h)
    (repeat (first | refine cj_seq ?_ | refine cjr TT rfl ?_ | refine oj_then ?_ | refine cj_block ?_))
    refine cj_own 1 1 1 rfl (by (repeat' (first | exact trivial | refine AllLt.of ?_ | constructor))) rfl (by decide) fun g=>?_
    obtain ⟨l,rfl⟩:∃ l:List UInt8,s=mkB l:=⟨s.data.toList,rfl⟩
    rw [mkB_size] at hps
    refine cj_loop (fun (_:OnS)=>σ) (fun t=>[(1,.a (.p 0 0)),(6,.a (.v (.slice t.oo (escK l t.k).length t.oc))),(7,.a (.v (.int .i64 (t.k:Nat))))]) (fun _=>[(0,.loc 52,[.v (.int .i64 kd),.b b,.b n.neg,.v (.string n.dg),.v (.int .i64 n.ex),.v (.string (mkB l)),.v (.int .i64 i)])]) (fun t=>[u8E t.oo t.oc (escK l t.k)]) 1
      (fun t=>t.k<=l.length/\(escK l t.k).length<=t.oc) (fun t=>l.length - t.k) ⟨0,some ⟨g,0,none⟩,1⟩ ⟨Nat.zero_le _,Nat.le_refl _⟩ rfl (by (repeat first | exact trivial | refine ⟨rfl,?_⟩)) (by (repeat first | exact trivial | refine ⟨rfl,?_⟩)) rfl (by (repeat' (first | exact trivial | exact Nat.le_of_ble_eq_true rfl | constructor))) (by (repeat' (first | exact trivial | exact Nat.le_of_ble_eq_true rfl | refine AllLt.of ?_ | constructor))) fun ⟨k,oo,oc⟩ ⟨hk,hoc⟩=>?_
    dsimp only at hk hoc ⊢
    have hlen:=escK_le l k
    (repeat (first | refine cj_seq ?_ | refine cjr TT rfl ?_ | refine oj_then ?_))
    refine cj_if rfl (fun hc=>?_) (fun hc=>?_)
    rotate_left
    · have hk0:k=l.length:=by have:=of_decide_eq_false (show decide ((k:Int)<(mkB l).size)=false from hc);rw [mkB_size] at this;omega
      have e:putG ⟨kd,b,n,mkB l,i⟩=escK l k++[0,0]:=by
        unfold putG escK
        dsimp only
        rw [if_neg ‹¬kd=0›,if_neg ‹¬kd=1›,if_neg ‹¬kd=2›,if_pos ‹kd=3›,mkB_list,hk0,List.take_length]
        rfl
      have hl1:(escK l k++[0,0]).length=(escK l k).length+2:=by simp
      (repeat (first | refine cj_seq ?_ | refine cjr TT rfl ?_ | refine cj_exit ?_ | refine nj_then ?_ | refine nj_then_exit ?_ | refine nj_block_out ?_))
      refine oj_append_lit TT 0 rfl rfl rfl rfl rfl rfl rfl rfl rfl rfl rfl rfl rfl rfl rfl rfl rfl rfl (by (repeat' (first | exact trivial | refine AllLt.of ?_ | constructor))) rfl (by omega) (by show ((escK l k).length+2)*1<=_;omega) fun oo' oc' hoc'=>oj_run TT rfl ?_
      (repeat (first | refine oj_then ?_ | refine cj_ret ?_ | refine nj_then_ret ?_ | refine nj_block_ret ?_))
      refine nj_seal 0 rfl rfl fun s2 hle2 hS=>?_
      refine nj_ret TT rfl fun β w' _ _=>?_
      rw [<-hl1]
      exact hfin _ e (congrArg (ArrSealed s2) (u8E_app (b:=[0,0]) hl1.symm)▸hS) (by rw [hl1];exact hoc')
    have hkl:k<l.length:=by have:=of_decide_eq_true (show decide ((k:Int)<(mkB l).size)=true from hc);rw [mkB_size] at this;omega
    have hx:=List.getElem?_eq_getElem hkl
    have hi:∀ z:Int,z=(k:Int)->(mkB l).data.toList[z.toNat]?=some l[k]:=fun z hz=>by rw [hz,mkB_list];exact hx
    have hs1:=escK_succ hx
    generalize l[k]=c at *
    (repeat (first | refine cj_seq ?_ | refine cjr TT rfl ?_ | refine cj_skip ?_ | refine cj_block ?_ | refine nj_then ?_))
    refine oj_index_str (u:=c) TT rfl rfl rfl rfl rfl rfl rfl rfl (by omega) (hi _ rfl) (oj_run TT rfl ?_)
    refine oj_append_lit TT 0 rfl rfl rfl rfl rfl rfl rfl rfl rfl rfl rfl rfl rfl rfl rfl rfl rfl rfl (by (repeat' (first | exact trivial | refine AllLt.of ?_ | constructor))) rfl (by omega) (by show ((escK l k).length+1)*1<=_;omega) fun oo' oc' hoc'=>oj_run TT rfl ?_
    (repeat (first | refine cj_seq ?_ | refine cjr TT rfl ?_ | refine oj_then ?_))
    refine oj_index_str (u:=c) TT rfl rfl rfl rfl rfl rfl rfl rfl (by omega) (hi _ rfl) (oj_run TT rfl ?_)
    (repeat refine oj_then ?_)
    refine cj_if rfl (fun hz=>?_) (fun hz=>?_)
    · have hz:c=0:=by have:=of_decide_eq_true (show decide ((c.toNat:Int)=0)=true from hz);exact UInt8.toNat_inj.1 (by show c.toNat=0;omega)
      rw [if_pos hz] at hs1
      (repeat refine cjr TT rfl ?_)
      refine oj_append_lit TT 0 rfl rfl rfl rfl rfl rfl rfl rfl rfl rfl rfl rfl rfl rfl rfl rfl rfl rfl (by (repeat' (first | exact trivial | refine AllLt.of ?_ | constructor))) rfl (by omega) (by show ((escK l k).length+1+1)*1<=_;omega) fun o2 c2 hc2=>oj_run TT rfl ?_
      (repeat (first | refine cjr TT rfl ?_ | refine oj_nil ?_ | refine nj_then ?_ | refine nj_block ?_ | (refine oj_add rfl rfl rfl rfl rfl rfl (by omega) ?_;refine oj_run TT rfl ?_)))
      have hl2:(escK l (k+1)).length=(escK l k).length+1+1:=by rw [hs1];simp
      refine nj_again (⟨k+1,o2,c2⟩:OnS) ⟨hkl,by dsimp only;rw [hl2];exact hc2⟩ (by dsimp only;omega) rfl ?_ (by (repeat first | exact trivial | refine ⟨rfl,?_⟩)) ?_ (by (repeat' (first | exact trivial | exact Nat.le_of_ble_eq_true rfl | constructor))) (by (repeat' (first | exact trivial | exact Nat.le_of_ble_eq_true rfl | refine AllLt.of ?_ | constructor)))
      · dsimp only
        rw [hl2]
        (repeat first | exact trivial | refine ⟨rfl,?_⟩)
      · show [_]=[_]
        dsimp only
        unfold u8E
        rw [hl2,hs1,u8Xs_append,hz]
        dsimp only
        rw [List.append_assoc]
        rfl
    have hz:c≠0:=fun hq=>by have:=of_decide_eq_false (show decide ((c.toNat:Int)=0)=false from hz);rw [hq] at this;exact this rfl
    rw [if_neg hz] at hs1
    (repeat (first | refine cjr TT rfl ?_ | refine oj_nil ?_ | refine cj_skip ?_ | refine nj_then ?_ | refine nj_block ?_ | (refine oj_add rfl rfl rfl rfl rfl rfl (by omega) ?_;refine oj_run TT rfl ?_)))
    have hl1:(escK l (k+1)).length=(escK l k).length+1:=by rw [hs1];simp
    refine nj_again (⟨k+1,oo',oc'⟩:OnS) ⟨hkl,by dsimp only;omega⟩ (by dsimp only;omega) rfl ?_ (by (repeat first | exact trivial | refine ⟨rfl,?_⟩)) ?_ (by (repeat' (first | exact trivial | exact Nat.le_of_ble_eq_true rfl | constructor))) (by (repeat' (first | exact trivial | exact Nat.le_of_ble_eq_true rfl | refine AllLt.of ?_ | constructor)))
    · dsimp only
      rw [hl1]
      (repeat first | exact trivial | refine ⟨rfl,?_⟩)
    · show [_]=[_]
      dsimp only
      unfold u8E
      rw [hl1,hs1,u8Xs_append]
      rfl
  have h3:=of_decide_eq_false (show decide (kd=3)=false from h3)
  (repeat (first | refine cj_seq ?_ | refine cjr TT rfl ?_ | refine oj_then ?_ | refine cj_skip ?_ | refine cj_ret ?_ | refine nj_then ?_ | refine nj_block ?_ | (refine oj_conv TT _ rfl rfl rfl rfl rfl rfl rfl rfl rfl ?_;refine oj_run TT rfl ?_) | (refine oj_bshr rfl rfl rfl rfl rfl rfl (by decide) ?_;refine oj_run TT rfl ?_)))
  have e1:IntKind.u8.wrap (bShr .i64 i 24)=((byteOf (i / 16777216)).toNat:Int):=by rw [wrap8,shrA]
  have e2:IntKind.u8.wrap (bShr .i64 i 16)=((byteOf (i / 65536)).toNat:Int):=by rw [wrap8,shrB]
  have e3:IntKind.u8.wrap (bShr .i64 i 8)=((byteOf (i / 256)).toNat:Int):=by rw [wrap8,shr8]
  have e4:IntKind.u8.wrap i=((byteOf i).toNat:Int):=wrap8 i
  dsimp only
  rw [e1,e2,e3,e4]
  refine nj_own 1 5 1 rfl (by (repeat' (first | exact trivial | refine AllLt.of ?_ | constructor))) rfl (by decide) fun g=>?_
  refine nj_seal 0 rfl rfl fun s2 hle2 hS=>?_
  refine nj_ret TT rfl fun β w' _ _=>?_
  exact hfin [80,byteOf (i / 16777216),byteOf (i / 65536),byteOf (i / 256),byteOf i] (by unfold putG;dsimp only;rw [if_neg h0,if_neg h1,if_neg h2,if_neg h3]) hS (Nat.le_refl _)
end Go.Sy
namespace Go.Sy
open Go.Proofs
section
variable {cf:Cf} {Q:Exit->Act->World->Prop} {σ:Snap} {env:Env} {hp:HP} {A:List AE} {nh:Nat} {it:Item} {rest:List Item}
theorem oj_neDecR {d:Nat} {x y:Operand} {yt:TypeId} {ca cb:List AT} (a b:GDec) (hP:cf.P=Tryd.prog)
    (hop:it.o.op=.binOp .neq 40 x y yt) (hd:it.o.dst=some d) (hg:guardVal it.guard env=some true) (hN:Nat.blt d cf.N=true) (hx:evalO env x=some (.agg ca)) (hy:evalO env y=some (.agg cb)) (hca:∀ β,ca.map (AT.den β)=(decCells a).map (AT.den β)) (hcb:∀ β,cb.map (AT.den β)=(decCells b).map (AT.den β))
    (hk:OJ cf rest Q σ ((d,.a (.b (!decide (a=b))))::env) hp A nh):OJ cf (it::rest) Q σ env hp A nh:=by
  refine oj_val (.a (.b (!decide (a=b)))) hd hg hN trivial (fun _ ac β ha w=>?_) hk
  have h1:ac.eval x=.agg #[.bool a.neg,.string a.dg,.int .i64 a.ex]:=(evalO_eval ha hx).trans (by simp only [SV.den,hca];rfl)
  have h2:ac.eval y=.agg #[.bool b.neg,.string b.dg,.int .i64 b.ex]:=(evalO_eval ha hy).trans (by simp only [SV.den,hcb];rfl)
  rw [hP]
  have hG:(eqGuard .neq 40 x y (.agg #[.bool a.neg,.string a.dg,.int .i64 a.ex]) (.agg #[.bool b.neg,.string b.dg,.int .i64 b.ex])).run Tryd.prog w=.ok () w:=run_eqGuard_agg w _ _ _ _ _ _ (by kernel_rfl)
  have hE:(Op.equalIn 10000 40 (.agg #[.bool a.neg,.string a.dg,.int .i64 a.ex]) (.agg #[.bool b.neg,.string b.dg,.int .i64 b.ex])).run Tryd.prog w=.ok (decide (a=b)) w:=eqDec_ok 9998 a b w
  have hB:(binOp .neq 40 (.agg #[.bool a.neg,.string a.dg,.int .i64 a.ex]) (.agg #[.bool b.neg,.string b.dg,.int .i64 b.ex])).run Tryd.prog w=.ok (.bool (!decide (a=b))) w:=by
    rw [run_neq_struct,hE]
    rfl
  simp only [execOp,hop,h1,h2,Sem.run_bind,hG,hB,Result.andThen_ok,Sem.run_pure]
  rfl
end
end Go.Sy
namespace Go.Sy
open Go.Proofs
theorem right_eq (kd:Int) (b:Bool) (n:GDec) (s:ByteArray) (i:Int):rightG ⟨kd,b,n,s,i⟩=true↔(kd=0\/kd=1\/kd=2\/kd=3\/kd=9)/\(kd=1\/b=false)/\(kd=2\/n=dec0)/\(kd=3\/s=emptyB)/\(kd=9\/i=0)/\decSane n=true/\0<=i/\i<4294967296:=by
  rw [right_iff]
  constructor
  · intro h
    cases h with
    | null=>exact ⟨.inl rfl,.inr rfl,.inr rfl,.inr rfl,.inr rfl,rfl,by decide,by decide⟩
    | bool b=>exact ⟨.inr (.inl rfl),.inl rfl,.inr rfl,.inr rfl,.inr rfl,rfl,by decide,by decide⟩
    | num n h=>exact ⟨.inr (.inr (.inl rfl)),.inr rfl,.inl rfl,.inr rfl,.inr rfl,h,by decide,by decide⟩
    | str s=>exact ⟨.inr (.inr (.inr (.inl rfl))),.inr rfl,.inr rfl,.inl rfl,.inr rfl,rfl,by decide,by decide⟩
    | whole i h1 h2=>exact ⟨.inr (.inr (.inr (.inr rfl))),.inr rfl,.inr rfl,.inr rfl,.inl rfl,rfl,h1,by omega⟩
  · rintro ⟨hk,hb,hn,hs,hi,hd,h1,h2⟩
    rcases hk with rfl | rfl | rfl | rfl | rfl
    · obtain rfl:=hb.resolve_left (by decide)
      obtain rfl:=hn.resolve_left (by decide)
      obtain rfl:=hs.resolve_left (by decide)
      obtain rfl:=hi.resolve_left (by decide)
      exact Rt.null
    · obtain rfl:=hn.resolve_left (by decide)
      obtain rfl:=hs.resolve_left (by decide)
      obtain rfl:=hi.resolve_left (by decide)
      exact Rt.bool b
    · obtain rfl:=hb.resolve_left (by decide)
      obtain rfl:=hs.resolve_left (by decide)
      obtain rfl:=hi.resolve_left (by decide)
      exact Rt.num n hd
    · obtain rfl:=hb.resolve_left (by decide)
      obtain rfl:=hn.resolve_left (by decide)
      obtain rfl:=hi.resolve_left (by decide)
      exact Rt.str s
    · obtain rfl:=hb.resolve_left (by decide)
      obtain rfl:=hn.resolve_left (by decide)
      obtain rfl:=hs.resolve_left (by decide)
      exact Rt.whole i h1 (by omega)
theorem rg_false {p:GPart} (h:rightG p=true->False):rightG p=false:=by
  cases e:rightG p
  · rfl
  · exact (h e).elim
set_option maxRecDepth 100000 in
set_option maxHeartbeats 8000000 in
theorem rright_c (σ:Snap) (p:GPart) (hd:p.n.dg.size<=mostLen):PlainS Tryd.prog 28 [.agg (paCells p)] σ (fun v=>v=.bool (rightG p)):=by
  obtain ⟨kd,b,n,s,i⟩:=p
  dsimp only at hd
  refine enter_p Tryd.func28 rfl rfl ⟨paCells_lt 0 _,trivial⟩ fun w=>?_
  (repeat (first | refine cj_seq ?_ | refine cjr TT rfl ?_ | refine oj_then ?_))
  refine oj_split 10 rfl (fun h0=>?_) (fun h0=>?_)
  rotate_left
  · have hk:kd=0:=by simpa using h0
    clear h0
    refine oj_run TT rfl ?_
    refine oj_split 29 rfl (fun _=>?_) (fun h=>absurd h (by simp [hk]))
    refine oj_run TT rfl ?_
    refine oj_split 34 rfl (fun hb=>?_) (fun hb=>?_)
    · have hb:b=true:=hb
      refine oj_run TT rfl ?_
      (repeat (first | refine cj_seq ?_ | refine cjr TT rfl ?_ | refine oj_then ?_ | refine cj_if_t rfl ?_ | refine cj_ret ?_ | refine nj_then_ret ?_))
      refine nj_ret TT rfl fun β w' _ _=>?_
      exact congrArg Value.bool (rg_false fun h=>by obtain ⟨-,q1,q2,q3,q4,-⟩:=(right_eq _ _ _ _ _).1 h;simp_all).symm
    have hb:b=false:=hb
    refine oj_run TT rfl ?_
    refine oj_split 37 rfl (fun _=>?_) (fun h=>absurd h (by simp [hk]))
    refine oj_run TT rfl ?_
    refine oj_neDecR n dec0 rfl rfl rfl rfl rfl rfl rfl (fun _=>rfl) (fun _=>rfl) (oj_run TT rfl ?_)
    refine oj_split 44 rfl (fun hn=>?_) (fun hn=>?_)
    · have hn:(!decide (n=dec0))=true:=hn
      refine oj_run TT rfl ?_
      (repeat (first | refine cj_seq ?_ | refine cjr TT rfl ?_ | refine oj_then ?_ | refine cj_if_t rfl ?_ | refine cj_ret ?_ | refine nj_then_ret ?_))
      refine nj_ret TT rfl fun β w' _ _=>?_
      exact congrArg Value.bool (rg_false fun h=>by obtain ⟨-,q1,q2,q3,q4,-⟩:=(right_eq _ _ _ _ _).1 h;simp_all).symm
    have hn:(!decide (n=dec0))=false:=hn
    refine oj_run TT rfl ?_
    refine oj_split 47 rfl (fun _=>?_) (fun h=>absurd h (by simp [hk]))
    refine oj_run TT rfl ?_
    refine oj_split 53 rfl (fun hs=>?_) (fun hs=>?_)
    · have hs:(!decide (s=emptyB))=true:=hs
      refine oj_run TT rfl ?_
      (repeat (first | refine cj_seq ?_ | refine cjr TT rfl ?_ | refine oj_then ?_ | refine cj_if_t rfl ?_ | refine cj_ret ?_ | refine nj_then_ret ?_))
      refine nj_ret TT rfl fun β w' _ _=>?_
      exact congrArg Value.bool (rg_false fun h=>by obtain ⟨-,q1,q2,q3,q4,-⟩:=(right_eq _ _ _ _ _).1 h;simp_all).symm
    have hs:(!decide (s=emptyB))=false:=hs
    refine oj_run TT rfl ?_
    refine oj_split 56 rfl (fun _=>?_) (fun h=>absurd h (by simp [hk]))
    refine oj_run TT rfl ?_
    (repeat refine oj_then ?_)
    refine cj_if rfl (fun hi=>?_) (fun hi=>?_)
    · have hi:(!decide (i=0))=true:=hi
      (repeat (first | refine cj_seq ?_ | refine cjr TT rfl ?_ | refine oj_then ?_ | refine cj_ret ?_ | refine nj_then_ret ?_))
      refine nj_ret TT rfl fun β w' _ _=>?_
      exact congrArg Value.bool (rg_false fun h=>by obtain ⟨-,q1,q2,q3,q4,-⟩:=(right_eq _ _ _ _ _).1 h;simp_all).symm
    have hi:(!decide (i=0))=false:=hi
    (repeat (first | refine cj_seq ?_ | refine cjr TT rfl ?_ | refine cj_skip ?_ | refine nj_then ?_))
    refine oj_callP rfl rfl rfl rfl rfl Tryd.call40 (by (repeat' (first | exact trivial | exact decCells_lt _ _ | constructor))) (rdecSane_c σ n hd) fun v hv=>⟨.a (.b (decSane n)),trivial,hv.symm,?_⟩
    refine oj_run TT rfl ?_
    refine oj_split 65 rfl (fun hx=>?_) (fun hx=>?_)
    rotate_left
    · have hx:decSane n=false:=hx
      refine oj_run TT rfl ?_
      (repeat (first | refine oj_then ?_ | refine cj_ret ?_))
      refine nj_ret TT rfl fun β w' _ _=>?_
      exact congrArg Value.bool (rg_false fun h=>by obtain ⟨-,q1,q2,q3,q4,q5,-⟩:=(right_eq _ _ _ _ _).1 h;simp_all).symm
    have hx:decSane n=true:=hx
    refine oj_run TT rfl ?_
    refine oj_split 70 rfl (fun hy=>?_) (fun hy=>?_)
    rotate_left
    · have hy:¬ i≥0:=of_decide_eq_false hy
      refine oj_run TT rfl ?_
      (repeat (first | refine oj_then ?_ | refine cj_ret ?_))
      refine nj_ret TT rfl fun β w' _ _=>?_
      exact congrArg Value.bool (rg_false fun h=>by obtain ⟨-,-,-,-,-,-,q6,-⟩:=(right_eq _ _ _ _ _).1 h;exact hy q6).symm
    have hy:i≥0:=of_decide_eq_true hy
    refine oj_run TT rfl ?_
    (repeat (first | refine oj_then ?_ | refine cj_ret ?_))
    refine nj_ret TT rfl fun β w' _ _=>?_
    show Value.bool (decide (i<4294967296))=_
    refine congrArg Value.bool ?_
    rw [Bool.eq_iff_iff,decide_eq_true_eq,right_eq]
    exact ⟨fun hz=>⟨by omega,.inr (by simpa using hb),.inr (by simpa using hn),.inr (by simpa using hs),.inr (by simpa using hi),hx,hy,hz⟩,fun h=>h.2.2.2.2.2.2.2⟩
  have h0:¬ kd=0:=by simpa using h0
  refine oj_run TT rfl ?_
  refine oj_split 14 rfl (fun h1=>?_) (fun h1=>?_)
  rotate_left
  · have hk:kd=1:=by simpa using h1
    clear h1
    refine oj_run TT rfl ?_
    refine oj_split 29 rfl (fun h=>absurd h (by simp [hk])) (fun _=>?_)
    refine oj_run TT rfl ?_
    refine oj_split 37 rfl (fun _=>?_) (fun h=>absurd h (by simp [hk]))
    refine oj_run TT rfl ?_
    refine oj_neDecR n dec0 rfl rfl rfl rfl rfl rfl rfl (fun _=>rfl) (fun _=>rfl) (oj_run TT rfl ?_)
    refine oj_split 44 rfl (fun hn=>?_) (fun hn=>?_)
    · have hn:(!decide (n=dec0))=true:=hn
      refine oj_run TT rfl ?_
      (repeat (first | refine cj_seq ?_ | refine cjr TT rfl ?_ | refine oj_then ?_ | refine cj_if_t rfl ?_ | refine cj_ret ?_ | refine nj_then_ret ?_))
      refine nj_ret TT rfl fun β w' _ _=>?_
      exact congrArg Value.bool (rg_false fun h=>by obtain ⟨-,q1,q2,q3,q4,-⟩:=(right_eq _ _ _ _ _).1 h;simp_all).symm
    have hn:(!decide (n=dec0))=false:=hn
    refine oj_run TT rfl ?_
    refine oj_split 47 rfl (fun _=>?_) (fun h=>absurd h (by simp [hk]))
    refine oj_run TT rfl ?_
    refine oj_split 53 rfl (fun hs=>?_) (fun hs=>?_)
    · have hs:(!decide (s=emptyB))=true:=hs
      refine oj_run TT rfl ?_
      (repeat (first | refine cj_seq ?_ | refine cjr TT rfl ?_ | refine oj_then ?_ | refine cj_if_t rfl ?_ | refine cj_ret ?_ | refine nj_then_ret ?_))
      refine nj_ret TT rfl fun β w' _ _=>?_
      exact congrArg Value.bool (rg_false fun h=>by obtain ⟨-,q1,q2,q3,q4,-⟩:=(right_eq _ _ _ _ _).1 h;simp_all).symm
    have hs:(!decide (s=emptyB))=false:=hs
    refine oj_run TT rfl ?_
    refine oj_split 56 rfl (fun _=>?_) (fun h=>absurd h (by simp [hk]))
    refine oj_run TT rfl ?_
    (repeat refine oj_then ?_)
    refine cj_if rfl (fun hi=>?_) (fun hi=>?_)
    · have hi:(!decide (i=0))=true:=hi
      (repeat (first | refine cj_seq ?_ | refine cjr TT rfl ?_ | refine oj_then ?_ | refine cj_ret ?_ | refine nj_then_ret ?_))
      refine nj_ret TT rfl fun β w' _ _=>?_
      exact congrArg Value.bool (rg_false fun h=>by obtain ⟨-,q1,q2,q3,q4,-⟩:=(right_eq _ _ _ _ _).1 h;simp_all).symm
    have hi:(!decide (i=0))=false:=hi
    (repeat (first | refine cj_seq ?_ | refine cjr TT rfl ?_ | refine cj_skip ?_ | refine nj_then ?_))
    refine oj_callP rfl rfl rfl rfl rfl Tryd.call40 (by (repeat' (first | exact trivial | exact decCells_lt _ _ | constructor))) (rdecSane_c σ n hd) fun v hv=>⟨.a (.b (decSane n)),trivial,hv.symm,?_⟩
    refine oj_run TT rfl ?_
    refine oj_split 65 rfl (fun hx=>?_) (fun hx=>?_)
    rotate_left
    · have hx:decSane n=false:=hx
      refine oj_run TT rfl ?_
      (repeat (first | refine oj_then ?_ | refine cj_ret ?_))
      refine nj_ret TT rfl fun β w' _ _=>?_
      exact congrArg Value.bool (rg_false fun h=>by obtain ⟨-,q1,q2,q3,q4,q5,-⟩:=(right_eq _ _ _ _ _).1 h;simp_all).symm
    have hx:decSane n=true:=hx
    refine oj_run TT rfl ?_
    refine oj_split 70 rfl (fun hy=>?_) (fun hy=>?_)
    rotate_left
    · have hy:¬ i≥0:=of_decide_eq_false hy
      refine oj_run TT rfl ?_
      (repeat (first | refine oj_then ?_ | refine cj_ret ?_))
      refine nj_ret TT rfl fun β w' _ _=>?_
      exact congrArg Value.bool (rg_false fun h=>by obtain ⟨-,-,-,-,-,-,q6,-⟩:=(right_eq _ _ _ _ _).1 h;exact hy q6).symm
    have hy:i≥0:=of_decide_eq_true hy
    refine oj_run TT rfl ?_
    (repeat (first | refine oj_then ?_ | refine cj_ret ?_))
    refine nj_ret TT rfl fun β w' _ _=>?_
    show Value.bool (decide (i<4294967296))=_
    refine congrArg Value.bool ?_
    rw [Bool.eq_iff_iff,decide_eq_true_eq,right_eq]
    exact ⟨fun hz=>⟨by omega,.inl hk,.inr (by simpa using hn),.inr (by simpa using hs),.inr (by simpa using hi),hx,hy,hz⟩,fun h=>h.2.2.2.2.2.2.2⟩
  have h1:¬ kd=1:=by simpa using h1
  refine oj_run TT rfl ?_
  refine oj_split 18 rfl (fun h2=>?_) (fun h2=>?_)
  rotate_left
  · have hk:kd=2:=by simpa using h2
    clear h2
    refine oj_run TT rfl ?_
    refine oj_split 29 rfl (fun _=>?_) (fun h=>absurd h (by simp [hk]))
    refine oj_run TT rfl ?_
    refine oj_split 34 rfl (fun hb=>?_) (fun hb=>?_)
    · have hb:b=true:=hb
      refine oj_run TT rfl ?_
      (repeat (first | refine cj_seq ?_ | refine cjr TT rfl ?_ | refine oj_then ?_ | refine cj_if_t rfl ?_ | refine cj_ret ?_ | refine nj_then_ret ?_))
      refine nj_ret TT rfl fun β w' _ _=>?_
      exact congrArg Value.bool (rg_false fun h=>by obtain ⟨-,q1,q2,q3,q4,-⟩:=(right_eq _ _ _ _ _).1 h;simp_all).symm
    have hb:b=false:=hb
    refine oj_run TT rfl ?_
    refine oj_split 37 rfl (fun h=>absurd h (by simp [hk])) (fun _=>?_)
    refine oj_run TT rfl ?_
    refine oj_split 47 rfl (fun _=>?_) (fun h=>absurd h (by simp [hk]))
    refine oj_run TT rfl ?_
    refine oj_split 53 rfl (fun hs=>?_) (fun hs=>?_)
    · have hs:(!decide (s=emptyB))=true:=hs
      refine oj_run TT rfl ?_
      (repeat (first | refine cj_seq ?_ | refine cjr TT rfl ?_ | refine oj_then ?_ | refine cj_if_t rfl ?_ | refine cj_ret ?_ | refine nj_then_ret ?_))
      refine nj_ret TT rfl fun β w' _ _=>?_
      exact congrArg Value.bool (rg_false fun h=>by obtain ⟨-,q1,q2,q3,q4,-⟩:=(right_eq _ _ _ _ _).1 h;simp_all).symm
    have hs:(!decide (s=emptyB))=false:=hs
    refine oj_run TT rfl ?_
    refine oj_split 56 rfl (fun _=>?_) (fun h=>absurd h (by simp [hk]))
    refine oj_run TT rfl ?_
    (repeat refine oj_then ?_)
    refine cj_if rfl (fun hi=>?_) (fun hi=>?_)
    · have hi:(!decide (i=0))=true:=hi
      (repeat (first | refine cj_seq ?_ | refine cjr TT rfl ?_ | refine oj_then ?_ | refine cj_ret ?_ | refine nj_then_ret ?_))
      refine nj_ret TT rfl fun β w' _ _=>?_
      exact congrArg Value.bool (rg_false fun h=>by obtain ⟨-,q1,q2,q3,q4,-⟩:=(right_eq _ _ _ _ _).1 h;simp_all).symm
    have hi:(!decide (i=0))=false:=hi
    (repeat (first | refine cj_seq ?_ | refine cjr TT rfl ?_ | refine cj_skip ?_ | refine nj_then ?_))
    refine oj_callP rfl rfl rfl rfl rfl Tryd.call40 (by (repeat' (first | exact trivial | exact decCells_lt _ _ | constructor))) (rdecSane_c σ n hd) fun v hv=>⟨.a (.b (decSane n)),trivial,hv.symm,?_⟩
    refine oj_run TT rfl ?_
    refine oj_split 65 rfl (fun hx=>?_) (fun hx=>?_)
    rotate_left
    · have hx:decSane n=false:=hx
      refine oj_run TT rfl ?_
      (repeat (first | refine oj_then ?_ | refine cj_ret ?_))
      refine nj_ret TT rfl fun β w' _ _=>?_
      exact congrArg Value.bool (rg_false fun h=>by obtain ⟨-,q1,q2,q3,q4,q5,-⟩:=(right_eq _ _ _ _ _).1 h;simp_all).symm
    have hx:decSane n=true:=hx
    refine oj_run TT rfl ?_
    refine oj_split 70 rfl (fun hy=>?_) (fun hy=>?_)
    rotate_left
    · have hy:¬ i≥0:=of_decide_eq_false hy
      refine oj_run TT rfl ?_
      (repeat (first | refine oj_then ?_ | refine cj_ret ?_))
      refine nj_ret TT rfl fun β w' _ _=>?_
      exact congrArg Value.bool (rg_false fun h=>by obtain ⟨-,-,-,-,-,-,q6,-⟩:=(right_eq _ _ _ _ _).1 h;exact hy q6).symm
    have hy:i≥0:=of_decide_eq_true hy
    refine oj_run TT rfl ?_
    (repeat (first | refine oj_then ?_ | refine cj_ret ?_))
    refine nj_ret TT rfl fun β w' _ _=>?_
    show Value.bool (decide (i<4294967296))=_
    refine congrArg Value.bool ?_
    rw [Bool.eq_iff_iff,decide_eq_true_eq,right_eq]
    exact ⟨fun hz=>⟨by omega,.inr (by simpa using hb),.inl hk,.inr (by simpa using hs),.inr (by simpa using hi),hx,hy,hz⟩,fun h=>h.2.2.2.2.2.2.2⟩
  have h2:¬ kd=2:=by simpa using h2
  refine oj_run TT rfl ?_
  refine oj_split 22 rfl (fun h3=>?_) (fun h3=>?_)
  rotate_left
  · have hk:kd=3:=by simpa using h3
    clear h3
    refine oj_run TT rfl ?_
    refine oj_split 29 rfl (fun _=>?_) (fun h=>absurd h (by simp [hk]))
    refine oj_run TT rfl ?_
    refine oj_split 34 rfl (fun hb=>?_) (fun hb=>?_)
    · have hb:b=true:=hb
      refine oj_run TT rfl ?_
      (repeat (first | refine cj_seq ?_ | refine cjr TT rfl ?_ | refine oj_then ?_ | refine cj_if_t rfl ?_ | refine cj_ret ?_ | refine nj_then_ret ?_))
      refine nj_ret TT rfl fun β w' _ _=>?_
      exact congrArg Value.bool (rg_false fun h=>by obtain ⟨-,q1,q2,q3,q4,-⟩:=(right_eq _ _ _ _ _).1 h;simp_all).symm
    have hb:b=false:=hb
    refine oj_run TT rfl ?_
    refine oj_split 37 rfl (fun _=>?_) (fun h=>absurd h (by simp [hk]))
    refine oj_run TT rfl ?_
    refine oj_neDecR n dec0 rfl rfl rfl rfl rfl rfl rfl (fun _=>rfl) (fun _=>rfl) (oj_run TT rfl ?_)
    refine oj_split 44 rfl (fun hn=>?_) (fun hn=>?_)
    · have hn:(!decide (n=dec0))=true:=hn
      refine oj_run TT rfl ?_
      (repeat (first | refine cj_seq ?_ | refine cjr TT rfl ?_ | refine oj_then ?_ | refine cj_if_t rfl ?_ | refine cj_ret ?_ | refine nj_then_ret ?_))
      refine nj_ret TT rfl fun β w' _ _=>?_
      exact congrArg Value.bool (rg_false fun h=>by obtain ⟨-,q1,q2,q3,q4,-⟩:=(right_eq _ _ _ _ _).1 h;simp_all).symm
    have hn:(!decide (n=dec0))=false:=hn
    refine oj_run TT rfl ?_
    refine oj_split 47 rfl (fun h=>absurd h (by simp [hk])) (fun _=>?_)
    refine oj_run TT rfl ?_
    refine oj_split 56 rfl (fun _=>?_) (fun h=>absurd h (by simp [hk]))
    refine oj_run TT rfl ?_
    (repeat refine oj_then ?_)
    refine cj_if rfl (fun hi=>?_) (fun hi=>?_)
    · have hi:(!decide (i=0))=true:=hi
      (repeat (first | refine cj_seq ?_ | refine cjr TT rfl ?_ | refine oj_then ?_ | refine cj_ret ?_ | refine nj_then_ret ?_))
      refine nj_ret TT rfl fun β w' _ _=>?_
      exact congrArg Value.bool (rg_false fun h=>by obtain ⟨-,q1,q2,q3,q4,-⟩:=(right_eq _ _ _ _ _).1 h;simp_all).symm
    have hi:(!decide (i=0))=false:=hi
    (repeat (first | refine cj_seq ?_ | refine cjr TT rfl ?_ | refine cj_skip ?_ | refine nj_then ?_))
    refine oj_callP rfl rfl rfl rfl rfl Tryd.call40 (by (repeat' (first | exact trivial | exact decCells_lt _ _ | constructor))) (rdecSane_c σ n hd) fun v hv=>⟨.a (.b (decSane n)),trivial,hv.symm,?_⟩
    refine oj_run TT rfl ?_
    refine oj_split 65 rfl (fun hx=>?_) (fun hx=>?_)
    rotate_left
    · have hx:decSane n=false:=hx
      refine oj_run TT rfl ?_
      (repeat (first | refine oj_then ?_ | refine cj_ret ?_))
      refine nj_ret TT rfl fun β w' _ _=>?_
      exact congrArg Value.bool (rg_false fun h=>by obtain ⟨-,q1,q2,q3,q4,q5,-⟩:=(right_eq _ _ _ _ _).1 h;simp_all).symm
    have hx:decSane n=true:=hx
    refine oj_run TT rfl ?_
    refine oj_split 70 rfl (fun hy=>?_) (fun hy=>?_)
    rotate_left
    · have hy:¬ i≥0:=of_decide_eq_false hy
      refine oj_run TT rfl ?_
      (repeat (first | refine oj_then ?_ | refine cj_ret ?_))
      refine nj_ret TT rfl fun β w' _ _=>?_
      exact congrArg Value.bool (rg_false fun h=>by obtain ⟨-,-,-,-,-,-,q6,-⟩:=(right_eq _ _ _ _ _).1 h;exact hy q6).symm
    have hy:i≥0:=of_decide_eq_true hy
    refine oj_run TT rfl ?_
    (repeat (first | refine oj_then ?_ | refine cj_ret ?_))
    refine nj_ret TT rfl fun β w' _ _=>?_
    show Value.bool (decide (i<4294967296))=_
    refine congrArg Value.bool ?_
    rw [Bool.eq_iff_iff,decide_eq_true_eq,right_eq]
    exact ⟨fun hz=>⟨by omega,.inr (by simpa using hb),.inr (by simpa using hn),.inl hk,.inr (by simpa using hi),hx,hy,hz⟩,fun h=>h.2.2.2.2.2.2.2⟩
  have h3:¬ kd=3:=by simpa using h3
  refine oj_run TT rfl ?_
  refine oj_split 26 rfl (fun h9=>?_) (fun h9=>?_)
  rotate_left
  · have hk:kd=9:=by simpa using h9
    clear h9
    refine oj_run TT rfl ?_
    refine oj_split 29 rfl (fun _=>?_) (fun h=>absurd h (by simp [hk]))
    refine oj_run TT rfl ?_
    refine oj_split 34 rfl (fun hb=>?_) (fun hb=>?_)
    · have hb:b=true:=hb
      refine oj_run TT rfl ?_
      (repeat (first | refine cj_seq ?_ | refine cjr TT rfl ?_ | refine oj_then ?_ | refine cj_if_t rfl ?_ | refine cj_ret ?_ | refine nj_then_ret ?_))
      refine nj_ret TT rfl fun β w' _ _=>?_
      exact congrArg Value.bool (rg_false fun h=>by obtain ⟨-,q1,q2,q3,q4,-⟩:=(right_eq _ _ _ _ _).1 h;simp_all).symm
    have hb:b=false:=hb
    refine oj_run TT rfl ?_
    refine oj_split 37 rfl (fun _=>?_) (fun h=>absurd h (by simp [hk]))
    refine oj_run TT rfl ?_
    refine oj_neDecR n dec0 rfl rfl rfl rfl rfl rfl rfl (fun _=>rfl) (fun _=>rfl) (oj_run TT rfl ?_)
    refine oj_split 44 rfl (fun hn=>?_) (fun hn=>?_)
    · have hn:(!decide (n=dec0))=true:=hn
      refine oj_run TT rfl ?_
      (repeat (first | refine cj_seq ?_ | refine cjr TT rfl ?_ | refine oj_then ?_ | refine cj_if_t rfl ?_ | refine cj_ret ?_ | refine nj_then_ret ?_))
      refine nj_ret TT rfl fun β w' _ _=>?_
      exact congrArg Value.bool (rg_false fun h=>by obtain ⟨-,q1,q2,q3,q4,-⟩:=(right_eq _ _ _ _ _).1 h;simp_all).symm
    have hn:(!decide (n=dec0))=false:=hn
    refine oj_run TT rfl ?_
    refine oj_split 47 rfl (fun _=>?_) (fun h=>absurd h (by simp [hk]))
    refine oj_run TT rfl ?_
    refine oj_split 53 rfl (fun hs=>?_) (fun hs=>?_)
    · have hs:(!decide (s=emptyB))=true:=hs
      refine oj_run TT rfl ?_
      (repeat (first | refine cj_seq ?_ | refine cjr TT rfl ?_ | refine oj_then ?_ | refine cj_if_t rfl ?_ | refine cj_ret ?_ | refine nj_then_ret ?_))
      refine nj_ret TT rfl fun β w' _ _=>?_
      exact congrArg Value.bool (rg_false fun h=>by obtain ⟨-,q1,q2,q3,q4,-⟩:=(right_eq _ _ _ _ _).1 h;simp_all).symm
    have hs:(!decide (s=emptyB))=false:=hs
    refine oj_run TT rfl ?_
    refine oj_split 56 rfl (fun h=>absurd h (by simp [hk])) (fun _=>?_)
    refine oj_run TT rfl ?_
    (repeat (first | refine cj_seq ?_ | refine cjr TT rfl ?_ | refine oj_then ?_ | refine cj_if_f rfl ?_ | refine cj_skip ?_ | refine nj_then ?_))
    skip
    refine oj_callP rfl rfl rfl rfl rfl Tryd.call40 (by (repeat' (first | exact trivial | exact decCells_lt _ _ | constructor))) (rdecSane_c σ n hd) fun v hv=>⟨.a (.b (decSane n)),trivial,hv.symm,?_⟩
    refine oj_run TT rfl ?_
    refine oj_split 65 rfl (fun hx=>?_) (fun hx=>?_)
    rotate_left
    · have hx:decSane n=false:=hx
      refine oj_run TT rfl ?_
      (repeat (first | refine oj_then ?_ | refine cj_ret ?_))
      refine nj_ret TT rfl fun β w' _ _=>?_
      exact congrArg Value.bool (rg_false fun h=>by obtain ⟨-,q1,q2,q3,q4,q5,-⟩:=(right_eq _ _ _ _ _).1 h;simp_all).symm
    have hx:decSane n=true:=hx
    refine oj_run TT rfl ?_
    refine oj_split 70 rfl (fun hy=>?_) (fun hy=>?_)
    rotate_left
    · have hy:¬ i≥0:=of_decide_eq_false hy
      refine oj_run TT rfl ?_
      (repeat (first | refine oj_then ?_ | refine cj_ret ?_))
      refine nj_ret TT rfl fun β w' _ _=>?_
      exact congrArg Value.bool (rg_false fun h=>by obtain ⟨-,-,-,-,-,-,q6,-⟩:=(right_eq _ _ _ _ _).1 h;exact hy q6).symm
    have hy:i≥0:=of_decide_eq_true hy
    refine oj_run TT rfl ?_
    (repeat (first | refine oj_then ?_ | refine cj_ret ?_))
    refine nj_ret TT rfl fun β w' _ _=>?_
    show Value.bool (decide (i<4294967296))=_
    refine congrArg Value.bool ?_
    rw [Bool.eq_iff_iff,decide_eq_true_eq,right_eq]
    exact ⟨fun hz=>⟨by omega,.inr (by simpa using hb),.inr (by simpa using hn),.inr (by simpa using hs),.inl hk,hx,hy,hz⟩,fun h=>h.2.2.2.2.2.2.2⟩
  have h9:¬ kd=9:=by simpa using h9
  refine oj_run TT rfl ?_
  (repeat (first | refine cj_seq ?_ | refine cjr TT rfl ?_ | refine oj_then ?_ | refine cj_if_t rfl ?_ | refine cj_ret ?_ | refine nj_then_ret ?_))
  refine nj_ret TT rfl fun β w' _ _=>?_
  exact congrArg Value.bool (rg_false fun h=>by have:=((right_eq _ _ _ _ _).1 h).1;omega).symm
end Go.Sy
